/- Package shelf: Nums, Copy: a range over the map. -/
import Derived.Test.YtimbikbbbfpeeaaGreatDoorP34
import Derived.Test.YtimbikbbbfpeeaaGreatDoorP33
import Derived.Test.YtimbikbbbfpeeaaGreatDoorP9
import Derived.Sort.OwnSortedInts
import Derived.Test.YtimbikbbbfpeeaaGreatDoorP44
import Derived.Shelf.SlGeneric
import Derived.Shelf.SlIter.Nil
import Derived.Shelf.SlIter.Sorted
import Derived.Shelf.SortM.Plain
import Derived.Shelf.SortM.SortNone
import Derived.Ground.GgzProg
import Derived.Ground.SlgmProg
import Derived.Test.YtimbikbbbfpeeaaGreatDoorProg
set_option linter.unusedSimpArgs false
set_option linter.unusedVariables false
namespace Go.Proofs.YtimbikbbbfpeeaaGreatDoor
open Go Go.RowKit
attribute [local go_sem] yields yUpon

theorem strict_eq : ∀ (l m : List Int), l.Pairwise (· < ·) → m.Pairwise (· < ·) → (∀ x, x ∈ l ↔ x ∈ m) → l = m
  | [], [], _, _, _ => rfl
  | [], y :: m, _, _, h => by have := (h y).2 (by simp); cases this
  | x :: l, [], _, _, h => by have := (h x).1 (by simp); cases this
  | x :: l, y :: m, hl, hm, h => by
    obtain ⟨l1, l2⟩ := List.pairwise_cons.1 hl
    obtain ⟨m1, m2⟩ := List.pairwise_cons.1 hm
    have hxy : x = y := by
      rcases List.mem_cons.1 ((h x).1 (by simp)) with e | e
      · exact e
      · rcases List.mem_cons.1 ((h y).2 (by simp)) with e2 | e2
        · exact e2.symm
        · have := m1 x e; have := l1 y e2; omega
    subst hxy
    rw [strict_eq l m l2 m2 fun z => ?_]
    constructor
    · intro hz
      rcases List.mem_cons.1 ((h z).1 (by simp [hz])) with e | e
      · subst e; have := l1 z hz; omega
      · exact e
    · intro hz
      rcases List.mem_cons.1 ((h z).2 (by simp [hz])) with e | e
      · subst e; have := m1 z hz; omega
      · exact e
def keysF (F : Fl) : List Int := F.map (·.1)
theorem keysF_mem (F : Fl) (x : Int) : x ∈ keysF F ↔ fhas x F = true := by
  simp [keysF, fhas]
theorem keysF_rises {F : Fl} (h : Rises F) : (keysF F).Pairwise (· < ·) := by
  unfold keysF
  rw [List.pairwise_map]
  exact h
theorem sorted_keys {xs : List Int} {F : Fl} (hF : Rises F) (hn : xs.Nodup) (hm : ∀ x, x ∈ xs ↔ fhas x F = true) : xs.mergeSort (fun x y => decide (x ≤ y)) = keysF F := by
  have hp := List.mergeSort_perm xs (fun x y => decide (x ≤ y))
  refine strict_eq _ _ ?_ (keysF_rises hF) fun x => by rw [keysF_mem, ← hm, hp.mem_iff]
  have h1 := List.pairwise_mergeSort (le := fun x y : Int => decide (x ≤ y)) (fun a b c h1 h2 => by simp at *; omega) (fun a b => by simp; omega) xs
  have h2 : (xs.mergeSort (fun x y => decide (x ≤ y))).Nodup := hp.nodup_iff.2 hn
  refine (h1.and h2).imp fun h => ?_
  obtain ⟨a, b⟩ := h
  simp at a
  omega

theorem info_int : (Tryz.prog.info? 3).map (fun i => (i.zero, i.size, i.bytes)) = some (some (.int .i64 0), 1, 8) := by kernel_rfl
theorem und_ints : Tryz.prog.underlying 35 = some (.slice 3) := by kernel_rfl

theorem grownBy_refl0 (w : World) (r : Option Nat) : w.grownBy w r := ⟨rfl, rfl, rfl, Nat.le_refl _, fun _ _ _ => rfl⟩
/-- How far a range over the files is: what has come. -/
def Came (F : Fl) (left : Lit → Bool) (xs : List Int) : Prop := (∀ x : Int, left (.int .i64 x) = (fhas x F && !xs.contains x)) ∧ xs.Nodup ∧ ∀ x ∈ xs, fhas x F = true
theorem came_start (F : Fl) : Came F (Maps.has (fD F : DataW Nat)) [] := ⟨fun x => by rw [fD_has]; simp, List.nodup_nil, by simp⟩
theorem came_more {F : Fl} {left : Lit → Bool} {xs : List Int} (h : Came F left xs) {x : Int} (hx : left (.int .i64 x) = true) : Came F (fun z => left z && !z.sameKey (.int .i64 x)) (xs ++ [x]) := by
  obtain ⟨h1, h2, h3⟩ := h
  rw [h1] at hx
  simp only [Bool.and_eq_true, Bool.not_eq_true', List.contains_eq_mem, decide_eq_false_iff_not] at hx
  refine ⟨fun y => ?_, ?_, fun y hy => ?_⟩
  · simp only [h1, sameKey_int]
    simp only [List.contains_eq_mem, List.mem_append, List.mem_singleton]
    cases fhas y F
    · rfl
    · by_cases hy : y ∈ xs <;> by_cases hyx : y = x <;> simp [hy, hyx]
  · rw [List.nodup_append]
    exact ⟨h2, by simp, fun a ha b hb => by simp at hb; subst hb; intro e; subst e; exact hx.2 ha⟩
  · rcases List.mem_append.1 hy with hy | hy
    · exact h3 y hy
    · simp at hy; subst hy; exact hx.1
theorem came_end {F : Fl} {left : Lit → Bool} {xs : List Int} (h : Came F left xs) (hl : ∀ kl, left kl = false) : ∀ x, x ∈ xs ↔ fhas x F = true := by
  obtain ⟨h1, h2, h3⟩ := h
  refine fun x => ⟨h3 x, fun hx => ?_⟩
  have := h1 x
  rw [hl, hx] at this
  simpa using this
theorem came_len {F : Fl} {left : Lit → Bool} {xs : List Int} (h : Came F left xs) : xs.length ≤ F.length := by
  obtain ⟨_, h2, h3⟩ := h
  have e : (keysF F).length = F.length := by simp [keysF]
  rw [← e]
  have : ∀ (l m : List Int), l.Nodup → (∀ x ∈ l, x ∈ m) → l.length ≤ m.length := by
    intro l
    induction l with
    | nil => intro m _ _; simp
    | cons a l ih =>
      intro m hl hm
      obtain ⟨a1, a2⟩ := List.nodup_cons.1 hl
      have := ih (m.erase a) a2 (fun x hx => (List.mem_erase_of_ne (fun e => a1 (by rw [← e]; exact hx))).2 (hm x (by simp [hx])))
      rw [List.length_erase_of_mem (hm a (by simp))] at this
      have h0 : 0 < m.length := List.length_pos_of_mem (hm a (by simp))
      simp; omega
  exact this xs (keysF F) h2 fun x hx => (keysF_mem F x).2 (h3 x hx)

theorem sort_own {w : World} {B n : Nat} {v : Value} {xs : List Int} (h : w.ownsRow B 3 1 v n (kcells .i64 xs)) (hn : n = xs.length) (hl : xs.length < 4611686018427387904) :
    Calls Tryz.prog 69 #[v] w fun e w' => e = .returned (.tuple #[]) ∧ w'.ownsRow B 3 1 v n (kcells .i64 (xs.mergeSort fun x y => decide (x ≤ y))) ∧ w.grownBy w' v.ownBlock := by
  subst hn
  have hle : (xs.mergeSort fun x y => decide (x ≤ y)).length = xs.length := (List.mergeSort_perm xs _).length_eq
  obtain ⟨hlen, h⟩ := h
  rcases h with ⟨rfl, hx⟩ | ⟨g, cap, cur, rfl, hb, hg, hnc, hm, hs, ht⟩
  · obtain rfl : xs = [] := by cases xs <;> simp_all [kcells]
    refine (Tryz.slices_Sort_int_none none 0 w).mono ?_
    rintro e w' ⟨rfl, rfl⟩
    exact ⟨rfl, by simpa [kcells] using World.ownsRow_nil w' B 3 1, grownBy_refl0 _ _⟩
  · rw [Nat.mul_one] at ht
    refine (Tryz.slices_Sort_int g 0 cap xs w (holds_of_blockI hg ht) (Array.getElem?_eq_some_iff.1 hg).1 hl).mono ?_
    rintro e w' ⟨rfl, n, os, rfl⟩
    exact ⟨rfl, ownsRow_sortedI hle hb hg hnc hm hs, grownBy_sortedI _⟩

section
variable {p m : Nat} {log : ByteArray} {good : Nat} {F : Fl} {man : ByteArray}
set_option maxHeartbeats 1000000 in
theorem sh_nums (hF : F.length ≤ 4611686018427) (w : World) (h : ShelfAt w p m log good F man) :
    Calls Tryz.prog 33 #[.pointer (some ⟨p, 0, none⟩)] w fun e w' => ∃ v, (e = .returned v ∧ IntsIn w' v .i64 (keysF F)) ∧ Ext w w' := by
  have c2 := h.c2
  have hm := h.files.lt
  go_enter Tryz.func33, Tryz.ntmps33
  go_wp2_with (at_range; go_must (refine wpList_range_own _ rfl _ 70 rfl 3 9 keyed0 und_mapis _ m F.length _ rfl h.files.1 ?_); intro w0 hrg0 hg0 hs0)
  go_frame
  go_loopw [3, 4] (fun v _ wr => ∃ (xs : List Int) (left : Lit → Bool) (cnt : Nat), wr.ranges Tryz.prog 3 (plainElem (H := Nat) Tryz.prog 9) m w.heap.size F.length (fD F) left cnt ∧ wr.ownsRow (w.heap.size + 1) 3 1 v xs.length (kcells .i64 xs) ∧ Hid (Came F left xs) ∧ w.heap.size + 1 ≤ wr.heap.size ∧ Ext w wr)
    (fun _ _ wr => wr.rangeLeft m w.heap.size)
  case atStart => exact ⟨[], _, _, hrg0, World.ownsRow_nil _ _ _ _, Lib.hid (came_start F), by omega, (Ext.refl w).grown hg0 (by simp)⟩
  case round =>
    obtain ⟨xs, left, cnt, hrg, hown, HC, hsz, hE⟩ := hrel
    go_wp2_with (at_next; go_must (refine wpList_next_ranges_is _ rfl _ rfl 3 9 .i64 keyed0 und_int0 und_str0 m w.heap.size F.length _ _ _ rfl hrg ?_ ?_))
    · intro _ hl0
      have HS := Lib.hid (sorted_keys h.files.2 HC.out.2.1 (came_end HC.out hl0))
      have HL := Lib.hid (came_len HC.out)
      clear hl0
      go_wp2_with (go_at_call 69; go_must (refine (sort_own hown rfl (by have := HL.out; omega)).mono ?_); rintro e w1 ⟨rfl, hown1, hg1⟩)
      go_ret
      rw [HS.out] at hown1
      refine ⟨_, ⟨rfl, ?_⟩, hE.grown hg1 fun k hk => by have := (hown.lt k hk).1; omega⟩
      have e : xs.length = (keysF F).length := by rw [← HS.out]; exact (List.mergeSort_perm xs _).length_eq.symm
      rw [e] at hown1
      exact SliceIn.of_owns hown1
    · intro x c w1 cnt1 hwx hcs hlx hat hrg1 hlt hg1 hs1 hen
      have HC1 := Lib.hid (came_more HC.out hlx)
      have HL := came_len HC1.out
      simp at HL
      have hr : ∀ k, some k = u3.ownBlock → w.heap.size + 1 ≤ k := fun k hk => (hown.lt k hk.symm).1
      have hown1 := hown.kept hg1 (.inr fun e => by have := hr _ e.symm; omega)
      have hE1 := hE.grown hg1 (fun k hk => by cases hk; omega)
      have HS := Lib.hid hs1
      have HR := Lib.hid hr
      clear hlx hat hs1 hr hg1
      go_wp2_with (at_builtin; go_must (refine appR info_int und_ints rfl (by decide) w1 rfl (.tmp 14) (.tmp 16) rfl (w.heap.size + 1) (by rw [HS.out]; omega) _ xs.length (kcells .i64 xs) hown1 (by rfl) 1 _ (by rfl) (by rfl) (by simp [Value.oneCell']) (by unfold maxLen; omega) (by omega) ?_); intro v2 w2 hown2 hg2)
      have hrg2 := (hrg1.alloc (.cells #[.int .i64 x] 3)).kept hg2 (fun e => by have := HR.out _ e; omega) (fun e => by have := HR.out _ e; omega)
      have hE2 := (hE1.alloc (.cells #[.int .i64 x] 3)).grown hg2 (fun k hk => by have := HR.out k hk.symm; omega)
      have hz2 := hg2.size
      go_roundw
      case rel => exact ⟨xs ++ [x], _, cnt1, hrg2, by simpa [kcells] using hown2, HC1, by have := HS.out; simp at hz2; omega, hE2⟩
      case measure => rw [hrg2.left_eq, hrg.left_eq]; exact hlt
end
end Go.Proofs.YtimbikbbbfpeeaaGreatDoor

/- store: Open where there is no man and no file. -/
namespace Go.Proofs.YtimbikbbbfpeeaaGreatDoor
open Go Go.RowKit
attribute [local go_sem] yields yUpon

theorem und_error : ∃ ms, Tryz.prog.underlying 79 = some (.interface ms) := ⟨match Tryz.prog.underlying 79 with | some (.interface ms) => ms | _ => #[], by kernel_rfl⟩
set_option maxRecDepth 100000 in
set_option maxHeartbeats 1000000 in
theorem is_nil (k : Int) (w : World) : Calls Tryz.prog 30 #[.nilIface, .iface 81 (.int .i64 k)] w fun e w' => e = .returned (.bool false) ∧ w = w' := by
  have hq : (binOp .eql 79 .nilIface (.iface 81 (.int .i64 k))).run Tryz.prog w = .ok (.bool false) w := by
    obtain ⟨ms, hu⟩ := und_error
    have h : ∀ d : Nat, (Op.equalIn (d + 1) 79 .nilIface (.iface 81 (.int .i64 k))).run Tryz.prog w = .ok false w := fun d => by
      simp [Op.equalIn, run_underlying hu]
    simp only [binOp]
    simp [Op.equal, Op.maxDepth, h 9999]
  go_enter Tryz.func30, Tryz.ntmps30
  go_wp2
  go_ret
  exact ⟨rfl, rfl⟩
set_option maxRecDepth 100000 in
set_option maxHeartbeats 1000000 in
theorem boot_none (ps : Nat) (w : World) : Calls Tryz.prog 28 #[.pointer (some ⟨ps, 0, none⟩), .string ⟨#[]⟩] w fun e w' => e = .returned .nilIface ∧ w = w' := by
  go_enter Tryz.func28, Tryz.ntmps28
  go_wp2
  go_ret
  exact ⟨rfl, rfl⟩
set_option maxRecDepth 100000 in
set_option maxHeartbeats 1000000 in
theorem clean_none (ps mt : Nat) (w : World) (hp : w.cell? ⟨ps, 1, none⟩ = some (.map (some mt))) (hm : SMapAt w mt []) : Calls Tryz.prog 31 #[.pointer (some ⟨ps, 0, none⟩)] w fun e w' => e = .returned (.tuple #[]) ∧ Ext w w' := by
  go_enter Tryz.func31, Tryz.ntmps31
  go_wp2_with (at_range; go_must (refine wpList_range_own _ rfl _ 73 rfl 9 94 keyedS und_mtabs rawE mt 0 _ rfl hm.own ?_); intro w0 hrg0 hg0 hs0)
  go_frame
  go_loopw [] (fun wr => wr = w0) (fun wr => wr.rangeLeft mt w.heap.size)
  case atStart => rfl
  case round =>
    subst hrel
    go_wp2_with (at_next; go_must (refine wpList_next_ranges _ rfl _ rfl 9 keyedS rawE (id : Value → Value) (id : Value → Value) (fun key _ _ => ⟨key, rfl⟩) (fun v _ _ => ⟨v, rfl⟩) mt w.heap.size 0 _ _ _ rfl hrg0 ?_ ?_))
    · intro _ _
      go_wp2_with fail
      go_end0
      exact ⟨rfl, (Ext.refl w).grown hg0 (by simp)⟩
    · intro x c kl y _ w1 cnt1 _ hl _ _ _ _ _ _ _
      exact absurd hl (by simp [Maps.has, sD])

/-- A store as it is made. -/
def newSto (w : World) (pd mf : Nat) (log : ByteArray) (good : Nat) (F : Fl) (man : ByteArray) : Sto := ⟨w.heap.size + 1 + 1 + 1, pd, mf, w.heap.size, w.heap.size + 1 + 1, w.heap.size + 1, log, good, F, man, [], [], .slice none 0 0, [], 0⟩
set_option maxRecDepth 100000 in
set_option maxHeartbeats 4000000 in
theorem open_none (W0 w : World) (hT : TabU W0) (hE : Ext W0 w) (pd mf : Nat) (log : ByteArray) (good n : Nat) (hlow : W0.heap.size ≤ pd ∧ W0.heap.size ≤ mf) (h : ShelfAt w pd mf log good [] ⟨#[]⟩) (hn : (scan log.data.toList 0).1.length = n) (hC : 512 * n ≤ 390000) :
    Calls Tryz.prog 10 #[.pointer (some ⟨pd, 0, none⟩)] w fun e w' => ∃ s : Sto, e = .returned (.tuple #[.pointer (some ⟨s.ps, 0, none⟩), .int .i64 0]) ∧ StoAt W0 w' (512 * n) s ∧ s.pd = pd ∧ s.mf = mf ∧ s.log = log.extract 0 (puts 0 (stRe ⟨[], []⟩ log.data.toList).2).length ∧ s.good = (puts 0 (stRe ⟨[], []⟩ log.data.toList).2).length ∧ s.F = [] ∧ s.man = ⟨#[]⟩ ∧ s.q = (stRe ⟨[], []⟩ log.data.toList).1 ∧ Touch w w' [pd, mf] := by
  have hmm := @run_makeMap Tryz.prog
  obtain ⟨W, hW⟩ : ∃ W, W = (((w.alloc (.map #[] 0)).alloc (.map #[] 0)).alloc (.cells #[.map (some (w.heap.size + 1))] 116)).alloc (.cells #[.pointer (some ⟨pd, 0, none⟩), .map (some w.heap.size), .pointer (some ⟨w.heap.size + 1 + 1, 0, none⟩), .slice none 0 0, .int .i64 0] 77) := ⟨_, rfl⟩
  have e1 : (w.alloc (.map #[] 0)).heap.size = w.heap.size + 1 := by simp
  have e2 : ((w.alloc (.map #[] 0)).alloc (.map #[] 0)).heap.size = w.heap.size + 1 + 1 := by simp
  have e3 : (((w.alloc (.map #[] 0)).alloc (.map #[] 0)).alloc (.cells #[.map (some (w.heap.size + 1))] 116)).heap.size = w.heap.size + 1 + 1 + 1 := by simp
  have hx1 : Ext w (w.alloc (.map #[] 0)) := (Ext.refl w).alloc _
  have hx2 : Ext (w.alloc (.map #[] 0)) W := by rw [hW]; exact (((Ext.refl _).alloc _).alloc _).alloc _
  have hx3 : Ext ((w.alloc (.map #[] 0)).alloc (.map #[] 0)) W := by rw [hW]; exact ((Ext.refl _).alloc _).alloc _
  have hx4 : Ext (((w.alloc (.map #[] 0)).alloc (.map #[] 0)).alloc (.cells #[.map (some (w.heap.size + 1))] 116)) W := by rw [hW]; exact (Ext.refl _).alloc _
  have hEW := hx1.trans hx2
  have hs1 := h.box.lt
  have hs2 := h.files.lt
  have hNt : NoteAt W (w.heap.size + 1 + 1) (w.heap.size + 1) [] := by
    have := nt_made (w.alloc (.map #[] 0))
    rw [e1] at this
    exact this.ext hx4
  have hSt : StoAt W0 W 0 (newSto w pd mf log good [] ⟨#[]⟩) := by
    refine ⟨hT, hE.trans hEW, fun b hb => ?_, by rw [hW]; exact BoxAt.madeN _ _ e3, h.ext hEW, hNt, ?_, TIn.nil _ _, Good.nil, nofun, by simp [newSto], ?_, ?_, ?_⟩
    · have hsz := hE.size
      simp only [Sto.blocks, Sto.tbl, newSto, blocksT, List.flatMap_nil, List.cons_append, List.nil_append, List.mem_cons, List.not_mem_nil, or_false] at hb
      omega
    · exact (TbsAt.new w).ext hx2
    · show mf ≠ w.heap.size + 1; omega
    · show mf ∉ [w.heap.size]; simp; omega
    · show w.heap.size + 1 ∉ [w.heap.size]; simp
  have hp1 : W.cell? ⟨w.heap.size + 1 + 1 + 1, 1, none⟩ = some (.map (some w.heap.size)) := by have := hSt.box.cell 1; exact this
  have hTm : SMapAt W w.heap.size [] := hSt.tabs.map
  have K1 : ∀ w', Ext W w' → Calls Tryz.prog 31 #[.pointer (some ⟨w.heap.size + 1 + 1 + 1, 0, none⟩)] w' fun e w'' => e = .returned (.tuple #[]) ∧ Ext w' w'' := fun w' hx => clean_none (w.heap.size + 1 + 1 + 1) w.heap.size w' (hx.cell hp1) (hTm.ext hx)
  have K2 : ∀ w', Ext W w' → Calls Tryz.prog 32 #[.pointer (some ⟨w.heap.size + 1 + 1 + 1, 0, none⟩)] w' fun e w'' => e = .returned (.tuple #[]) ∧ ∃ s : Sto, s.ps = w.heap.size + 1 + 1 + 1 ∧ StoAt W0 w'' (512 * n) s ∧ s.pd = pd ∧ s.mf = mf ∧ s.log = log.extract 0 (puts 0 (stRe ⟨[], []⟩ log.data.toList).2).length ∧ s.good = (puts 0 (stRe ⟨[], []⟩ log.data.toList).2).length ∧ s.F = [] ∧ s.man = ⟨#[]⟩ ∧ s.q = (stRe ⟨[], []⟩ log.data.toList).1 ∧ Touch w w'' [pd, mf] := fun w' hx => by
    refine (replay_any W0 w' 0 n _ (hSt.ext hx) hn (by omega)).mono ?_
    rintro e w'' ⟨rfl, ts, N, hS, hq, hTu⟩
    refine ⟨rfl, { newSto w pd mf log good [] ⟨#[]⟩ with log := log.extract 0 (puts 0 (stRe ⟨[], []⟩ log.data.toList).2).length, good := (puts 0 (stRe ⟨[], []⟩ log.data.toList).2).length, ts := ts, N := N }, rfl, (by have h1 := hS; rw [Nat.zero_add] at h1; exact h1), rfl, rfl, rfl, rfl, rfl, rfl, hq, ((Touch.of_ext (hEW.trans hx) []).trans hTu.touch).mono fun b hb hlt => ?_⟩
    simp only [Sto.blocks, Sto.tbl, newSto, blocksT, List.flatMap_nil, List.cons_append, List.nil_append, List.mem_cons, List.not_mem_nil, or_false] at hb ⊢
    omega
  have HK1 := Lib.hid K1
  have HK2 := Lib.hid K2
  have HX := Lib.hid hEW
  have hman := sh_man W (h.ext hEW)
  have HW := far hW
  have hnew := nt_new (w.alloc (.map #[] 0))
  rw [e1] at hnew
  clear hW K1 K2 hSt hNt hx1 hx2 hx3 hx4 hp1 hTm h hn
  go_enter Tryz.func10, Tryz.ntmps10
  go_wp2_with (first
    | (go_at_call 27; go_must (refine hnew.mono ?_); rintro e w1 ⟨rfl, rfl⟩)
    | (go_at_call 29; rw [← HW ()]; go_must (refine hman.mono ?_); rintro e w2 ⟨rfl, rfl⟩)
    | (go_at_call 28; go_must (refine (boot_none _ W).mono ?_); rintro e w3 ⟨rfl, rfl⟩))
  refine wp_loop_rounds 3 ?_
  rw [rounds_succ]
  go_wp2_with (go_at_call 30; go_must (refine (is_nil _ _).mono ?_); rintro e w4 ⟨rfl, rfl⟩)
  rw [rounds_succ]
  go_wp2_with (go_at_call 30; go_must (refine (is_nil _ _).mono ?_); rintro e w4 ⟨rfl, rfl⟩)
  rw [rounds_succ]
  go_wp2_with (first
    | (go_at_call 31; go_must (refine (HK1.out _ ((Ext.refl W).alloc _)).mono ?_); rintro e w5 ⟨rfl, hE5⟩)
    | (go_at_call 32; go_must (refine (HK2.out w5 (((Ext.refl W).alloc _).trans hE5)).mono ?_); rintro e w6 ⟨rfl, s, hps, hS, hpd, hmf, h5, h6, h7, h8, h9, h10⟩)
    | (go_at_call 33; have hsh := hS.shelf; rw [hpd, h7] at hsh; go_must (refine (sh_nums (F := []) (by simp) w6 hsh).mono ?_); rintro e w7 ⟨v7, ⟨rfl, hv7⟩, hE7⟩; obtain ⟨a7, c7, rfl, _⟩ := hv7; simp only [keysF, List.map_nil, List.length_nil]))
  refine wp_loop_rounds 1 ?_
  rw [rounds_succ]
  go_wp2_with fail
  go_ret2
  exact ⟨s, by rw [hps]; rfl, hS.ext hE7, hpd, hmf, h5, h6, h7, h8, h9, (h10.trans (Touch.of_ext hE7 [])).mono (fun b hb _ => by simpa using hb)⟩
end Go.Proofs.YtimbikbbbfpeeaaGreatDoor

/- Contracts of the library, laid at this program: each is one application of a theorem of the shelf (the text is the tool's, its numbers by name). -/
namespace Go.Proofs
open Go.Shelf
def Tryz.keysT_ren : Go.Shelf.Ren := ⟨fun | 7 => 55 | 10 => 96 | n => n, fun | 23 => 73 | 26 => 9 | 3 => 94 | 28 => 110 | 0 => 0 | 27 => 109 | 33 => 134 | 4 => 4 | n => n, fun | n => n⟩
theorem Tryz.keysT : Go.Proofs.SlLaysZ.n7 Tryz.prog Tryz.keysT_ren := {
  mixed := by kernel_rfl
  f7 := ⟨Tryz.f55.name, by decide, Tryz.func55.trans (congrArg some (by kernel_rfl))⟩
  f10 := ⟨Tryz.f96.name, by decide, Tryz.func96.trans (congrArg some (by kernel_rfl))⟩
  t0 := Tryz.underlying0
  a0 := Tryz.isAgg0
  z0 := Tryz.sizeOf0
  v0 := Tryz.zeroValue0
  t4 := Tryz.underlying4
  a4 := Tryz.isAgg4
  z4 := Tryz.sizeOf4
  v4 := Tryz.zeroValue4
  t23 := Tryz.underlying73
  a23 := Tryz.isAgg73
  z23 := Tryz.sizeOf73
  v23 := Tryz.zeroValue73
  t26 := Tryz.underlying9
  a26 := Tryz.isAgg9
  z26 := Tryz.sizeOf9
  v26 := Tryz.zeroValue9
  t27 := Tryz.underlying109
  a27 := Tryz.isAgg109
  z27 := Tryz.sizeOf109
  v27 := Tryz.zeroValue109
  t28 := Tryz.underlying110
  a28 := Tryz.isAgg110
  z28 := Tryz.sizeOf110
  v28 := Tryz.zeroValue110
  t33 := Tryz.underlying134
  a33 := Tryz.isAgg134
  z33 := Tryz.sizeOf134
  v33 := Tryz.zeroValue134 }
def Tryz.keysB_ren : Go.Shelf.Ren := ⟨fun | 7 => 88 | 10 => 139 | n => n, fun | 23 => 97 | 26 => 9 | 3 => 4 | 28 => 110 | 0 => 0 | 27 => 109 | 33 => 134 | 4 => 4 | n => n, fun | n => n⟩
theorem Tryz.keysB : Go.Proofs.SlLaysZ.n7 Tryz.prog Tryz.keysB_ren := {
  mixed := by kernel_rfl
  f7 := ⟨Tryz.f88.name, by decide, Tryz.func88.trans (congrArg some (by kernel_rfl))⟩
  f10 := ⟨Tryz.f139.name, by decide, Tryz.func139.trans (congrArg some (by kernel_rfl))⟩
  t0 := Tryz.underlying0
  a0 := Tryz.isAgg0
  z0 := Tryz.sizeOf0
  v0 := Tryz.zeroValue0
  t4 := Tryz.underlying4
  a4 := Tryz.isAgg4
  z4 := Tryz.sizeOf4
  v4 := Tryz.zeroValue4
  t23 := Tryz.underlying97
  a23 := Tryz.isAgg97
  z23 := Tryz.sizeOf97
  v23 := Tryz.zeroValue97
  t26 := Tryz.underlying9
  a26 := Tryz.isAgg9
  z26 := Tryz.sizeOf9
  v26 := Tryz.zeroValue9
  t27 := Tryz.underlying109
  a27 := Tryz.isAgg109
  z27 := Tryz.sizeOf109
  v27 := Tryz.zeroValue109
  t28 := Tryz.underlying110
  a28 := Tryz.isAgg110
  z28 := Tryz.sizeOf110
  v28 := Tryz.zeroValue110
  t33 := Tryz.underlying134
  a33 := Tryz.isAgg134
  z33 := Tryz.sizeOf134
  v33 := Tryz.zeroValue134 }
def Tryz.keysP_ren : Go.Shelf.Ren := ⟨fun | 7 => 93 | 10 => 143 | n => n, fun | 23 => 96 | 26 => 9 | 3 => 52 | 28 => 110 | 0 => 0 | 27 => 109 | 33 => 134 | 4 => 4 | n => n, fun | n => n⟩
theorem Tryz.keysP : Go.Proofs.SlLaysZ.n7 Tryz.prog Tryz.keysP_ren := {
  mixed := by kernel_rfl
  f7 := ⟨Tryz.f93.name, by decide, Tryz.func93.trans (congrArg some (by kernel_rfl))⟩
  f10 := ⟨Tryz.f143.name, by decide, Tryz.func143.trans (congrArg some (by kernel_rfl))⟩
  t0 := Tryz.underlying0
  a0 := Tryz.isAgg0
  z0 := Tryz.sizeOf0
  v0 := Tryz.zeroValue0
  t4 := Tryz.underlying4
  a4 := Tryz.isAgg4
  z4 := Tryz.sizeOf4
  v4 := Tryz.zeroValue4
  t23 := Tryz.underlying96
  a23 := Tryz.isAgg96
  z23 := Tryz.sizeOf96
  v23 := Tryz.zeroValue96
  t26 := Tryz.underlying9
  a26 := Tryz.isAgg9
  z26 := Tryz.sizeOf9
  v26 := Tryz.zeroValue9
  t27 := Tryz.underlying109
  a27 := Tryz.isAgg109
  z27 := Tryz.sizeOf109
  v27 := Tryz.zeroValue109
  t28 := Tryz.underlying110
  a28 := Tryz.isAgg110
  z28 := Tryz.sizeOf110
  v28 := Tryz.zeroValue110
  t33 := Tryz.underlying134
  a33 := Tryz.isAgg134
  z33 := Tryz.sizeOf134
  v33 := Tryz.zeroValue134 }
def Tryz.sortedS_ren : Go.Shelf.Ren := ⟨fun | 6 => 54 | 8 => 94 | 9 => 95 | 11 => 144 | 13 => 121 | 12 => 145 | 23 => 171 | 24 => 172 | 14 => 183 | 15 => 184 | 16 => 185 | 17 => 186 | 18 => 187 | 19 => 188 | 20 => 189 | 21 => 190 | 22 => 191 | 25 => 213 | 26 => 202 | 27 => 203 | 28 => 214 | 29 => 215 | 30 => 216 | 31 => 232 | n => n, fun | 26 => 9 | 28 => 110 | 24 => 56 | 0 => 0 | 3 => 3 | 37 => 152 | 48 => 213 | 50 => 159 | 4 => 4 | 40 => 237 | 39 => 236 | 45 => 181 | 5 => 5 | 9 => 9 | 51 => 272 | 55 => 275 | 57 => 290 | 58 => 291 | 33 => 134 | n => n, fun | n => n⟩
theorem Tryz.sortedS : Go.Proofs.SlLaysZ.n6 Tryz.prog Tryz.sortedS_ren := {
  mixed := by kernel_rfl
  f6 := ⟨Tryz.f54.name, by decide, Tryz.func54.trans (congrArg some (by kernel_rfl))⟩
  f8 := ⟨Tryz.f94.name, by decide, Tryz.func94.trans (congrArg some (by kernel_rfl))⟩
  f11 := ⟨Tryz.f144.name, by decide, Tryz.func144.trans (congrArg some (by kernel_rfl))⟩
  t0 := Tryz.underlying0
  a0 := Tryz.isAgg0
  z0 := Tryz.sizeOf0
  v0 := Tryz.zeroValue0
  t24 := Tryz.underlying56
  a24 := Tryz.isAgg56
  z24 := Tryz.sizeOf56
  v24 := Tryz.zeroValue56
  t26 := Tryz.underlying9
  a26 := Tryz.isAgg9
  z26 := Tryz.sizeOf9
  v26 := Tryz.zeroValue9
  t28 := Tryz.underlying110
  a28 := Tryz.isAgg110
  z28 := Tryz.sizeOf110
  v28 := Tryz.zeroValue110
  i26 := by kernel_rfl }
def Tryz.sortS_ren : Go.Shelf.Ren := ⟨fun | 6 => 95 | 8 => 121 | 9 => 145 | 19 => 171 | 20 => 172 | 21 => 183 | 22 => 184 | 23 => 185 | 24 => 186 | 25 => 187 | 26 => 188 | 27 => 189 | 28 => 190 | 29 => 191 | 36 => 213 | 31 => 202 | 32 => 203 | 37 => 214 | 38 => 215 | 39 => 216 | 41 => 232 | n => n, fun | 27 => 56 | 29 => 9 | 3 => 3 | 32 => 152 | 26 => 56 | 0 => 0 | 44 => 213 | 46 => 159 | 4 => 4 | 36 => 237 | 35 => 236 | 41 => 181 | 5 => 5 | 9 => 9 | 53 => 272 | 57 => 275 | 63 => 290 | 64 => 291 | n => n, fun | n => n⟩
theorem Tryz.sortS : Go.Proofs.SlLaysM.n6 Tryz.prog Tryz.sortS_ren := {
  mixed := by kernel_rfl
  f6 := ⟨Tryz.f95.name, by decide, Tryz.func95.trans (congrArg some (by kernel_rfl))⟩
  f8 := Tryz.func121.trans (congrArg some (by kernel_rfl))
  f9 := ⟨Tryz.f145.name, by decide, Tryz.func145.trans (congrArg some (by kernel_rfl))⟩
  f19 := Tryz.func171.trans (congrArg some (by kernel_rfl))
  f20 := Tryz.func172.trans (congrArg some (by kernel_rfl))
  f21 := ⟨Tryz.f183.name, by decide, Tryz.func183.trans (congrArg some (by kernel_rfl))⟩
  f22 := ⟨Tryz.f184.name, by decide, Tryz.func184.trans (congrArg some (by kernel_rfl))⟩
  f23 := ⟨Tryz.f185.name, by decide, Tryz.func185.trans (congrArg some (by kernel_rfl))⟩
  f24 := ⟨Tryz.f186.name, by decide, Tryz.func186.trans (congrArg some (by kernel_rfl))⟩
  f25 := ⟨Tryz.f187.name, by decide, Tryz.func187.trans (congrArg some (by kernel_rfl))⟩
  f26 := ⟨Tryz.f188.name, by decide, Tryz.func188.trans (congrArg some (by kernel_rfl))⟩
  f27 := ⟨Tryz.f189.name, by decide, Tryz.func189.trans (congrArg some (by kernel_rfl))⟩
  f28 := ⟨Tryz.f190.name, by decide, Tryz.func190.trans (congrArg some (by kernel_rfl))⟩
  f29 := ⟨Tryz.f191.name, by decide, Tryz.func191.trans (congrArg some (by kernel_rfl))⟩
  f31 := Tryz.func202.trans (congrArg some (by kernel_rfl))
  f32 := Tryz.func203.trans (congrArg some (by kernel_rfl))
  f36 := ⟨Tryz.f213.name, by decide, Tryz.func213.trans (congrArg some (by kernel_rfl))⟩
  f37 := ⟨Tryz.f214.name, by decide, Tryz.func214.trans (congrArg some (by kernel_rfl))⟩
  f38 := ⟨Tryz.f215.name, by decide, Tryz.func215.trans (congrArg some (by kernel_rfl))⟩
  f39 := ⟨Tryz.f216.name, by decide, Tryz.func216.trans (congrArg some (by kernel_rfl))⟩
  f41 := ⟨Tryz.f232.name, by decide, Tryz.func232.trans (congrArg some (by kernel_rfl))⟩
  t0 := Tryz.underlying0
  a0 := Tryz.isAgg0
  z0 := Tryz.sizeOf0
  v0 := Tryz.zeroValue0
  t3 := Tryz.underlying3
  a3 := Tryz.isAgg3
  z3 := Tryz.sizeOf3
  v3 := Tryz.zeroValue3
  t4 := Tryz.underlying4
  a4 := Tryz.isAgg4
  z4 := Tryz.sizeOf4
  v4 := Tryz.zeroValue4
  t5 := Tryz.underlying5
  a5 := Tryz.isAgg5
  z5 := Tryz.sizeOf5
  v5 := Tryz.zeroValue5
  t9 := Tryz.underlying9
  a9 := Tryz.isAgg9
  z9 := Tryz.sizeOf9
  v9 := Tryz.zeroValue9
  t26 := Tryz.underlying56
  a26 := Tryz.isAgg56
  z26 := Tryz.sizeOf56
  v26 := Tryz.zeroValue56
  t27 := Tryz.underlying56
  a27 := Tryz.isAgg56
  z27 := Tryz.sizeOf56
  v27 := Tryz.zeroValue56
  t29 := Tryz.underlying9
  a29 := Tryz.isAgg9
  z29 := Tryz.sizeOf9
  v29 := Tryz.zeroValue9
  t32 := Tryz.underlying152
  a32 := Tryz.isAgg152
  z32 := Tryz.sizeOf152
  v32 := Tryz.zeroValue152
  t35 := Tryz.underlying236
  a35 := Tryz.isAgg236
  z35 := Tryz.sizeOf236
  v35 := Tryz.zeroValue236
  t36 := Tryz.underlying237
  a36 := Tryz.isAgg237
  z36 := Tryz.sizeOf237
  v36 := Tryz.zeroValue237
  t41 := Tryz.underlying181
  a41 := Tryz.isAgg181
  z41 := Tryz.sizeOf181
  v41 := Tryz.zeroValue181
  t44 := Tryz.underlying213
  a44 := Tryz.isAgg213
  z44 := Tryz.sizeOf213
  v44 := Tryz.zeroValue213
  t46 := Tryz.underlying159
  a46 := Tryz.isAgg159
  z46 := Tryz.sizeOf159
  v46 := Tryz.zeroValue159
  t53 := Tryz.underlying272
  a53 := Tryz.isAgg272
  z53 := Tryz.sizeOf272
  v53 := Tryz.zeroValue272
  t57 := Tryz.underlying275
  a57 := Tryz.isAgg275
  z57 := Tryz.sizeOf275
  v57 := Tryz.zeroValue275
  t63 := Tryz.underlying290
  a63 := Tryz.isAgg290
  z63 := Tryz.sizeOf290
  v63 := Tryz.zeroValue290
  t64 := Tryz.underlying291
  a64 := Tryz.isAgg291
  z64 := Tryz.sizeOf291
  v64 := Tryz.zeroValue291 }
end Go.Proofs
