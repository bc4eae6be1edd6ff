/- slices.DeleteFunc over columns of one's own. -/
import Derived.Test.YteamiiekpjoclaaM13
import Derived.Test.YteamiiekpjoclaaM6
import Derived.Test.YteamiiekpjoclaaM4
import Derived.Laws.OwnMore
import Derived.Deep.MidRow
import Derived.Test.YteamiiekpjoclaaM5
import Derived.Shelf.Strings.Builder1
import Derived.Shelf.Small.Strs
import Derived.Shelf.Small.Wraps
import Derived.Shelf.Strings.BuilderF
import Derived.Shelf.Strings.BuilderK
import Derived.Shelf.Strconv.Itoa0
import Derived.Shelf.Strings.BuilderCap
import Derived.Test.YteamiiekpjoclaaProg
import Derived.Lib.Builder
import Derived.Laws.Externs
import Derived.WalkKit
import Derived.WalkSpells
namespace Go.Proofs.Yteamiiekpjoclaa
open Go Go.RowKit
attribute [local go_sem] yields yUpon

theorem coCells_set (c : Co) : ∀ (l : List Co) (i : Nat), i < l.length → coCells (l.set i c) = (((((coCells l).set (i * 5) (.string c.name)).set (i * 5 + 1) (.string c.cell.val)).set (i * 5 + 2) (.bool c.cell.dead)).set (i * 5 + 3) (.int .i64 c.cell.at_)).set (i * 5 + 4) (.int .i64 c.cell.fin)
  | d :: l, 0, _ => by simp [coCells]
  | d :: l, i + 1, h => by
    have ih := coCells_set c l i (by simpa using h)
    have e : (i + 1) * 5 = i * 5 + 5 := by omega
    simp only [e, List.set_cons_succ, coCells, ih]
theorem own_cut {w : World} {B : Nat} {e : TypeId} {size : Nat} {g n cap : Nat} {X : List Value} (h : w.ownsRow B e size (.slice (some ⟨g, 0, none⟩) n cap) n X) {i : Nat} (hi : i ≤ n) : w.ownsRow B e size (.slice (some ⟨g, 0, none⟩) i cap) i (X.take (i * size)) := by
  rcases h.2 with ⟨h', _⟩ | ⟨g', cap', cur, h', hb, hg, hnc, hcm, hcs, htake⟩
  · cases h'
  · cases h'
    refine ⟨?_, .inr ⟨_, _, cur, rfl, hb, hg, Nat.le_trans hi hnc, hcm, hcs, ?_⟩⟩
    · rw [List.length_take, h.1, Nat.min_eq_left (Nat.mul_le_mul_right _ hi)]
    · rw [← htake, List.take_take, Nat.min_eq_left (Nat.mul_le_mul_right _ hi)]
theorem setCells_own {B : Nat} {e : TypeId} {size g n cap : Nat} : ∀ (vs : List Value) (o : Nat) (w : World) (X : List Value), w.ownsRow B e size (.slice (some ⟨g, 0, none⟩) n cap) n X →
    ∃ X', (w.setCells g o vs).ownsRow B e size (.slice (some ⟨g, 0, none⟩) n cap) n X' ∧ X'.take o = X.take o ∧ w.grownBy (w.setCells g o vs) (some g)
  | [], o, w, X, h => ⟨X, h, rfl, grownBy_refl w _⟩
  | u :: vs, o, w, X, h => by
    obtain ⟨h1, h2⟩ := h.stored o u
    obtain ⟨X', h3, h4, h5⟩ := setCells_own vs (o + 1) _ _ h1
    refine ⟨X', h3, ?_, grownBy_trans h2 h5⟩
    have := congrArg (List.take o) h4
    rw [List.take_take, List.take_take, Nat.min_eq_left (Nat.le_succ o)] at this
    rw [this, List.take_set_of_le (Nat.le_refl o)]
theorem und_Cols' : Try.prog.underlying 53 = some (.slice 58) := und_Cols
theorem zero_Col (w : World) : (zeroValue 58).run Try.prog w = .ok (.agg #[.string ⟨#[]⟩, .string ⟨#[]⟩, .bool false, .int .i64 0, .int .i64 0]) w := Try.zeroValue58 w
/-- 'clear' on some of a row of one's own. -/
theorem run_clear_own {B g n cap : Nat} {w : World} {X : List Value} (h : w.ownsRow B 58 5 (.slice (some ⟨g, 0, none⟩) n cap) n X) (o m c : Nat) (ty : TypeId) (hm : 0 < m) (hom : o + m * 5 ≤ n * 5) :
    ∃ w' X', (Builtin.clear_ #[53] ty #[.slice (some ⟨g, o, none⟩) m c]).run Try.prog w = .ok (.tuple #[]) w' ∧ w'.ownsRow B 58 5 (.slice (some ⟨g, 0, none⟩) n cap) n X' ∧ X'.take o = X.take o ∧ w.grownBy w' (some g) := by
  obtain ⟨zs, hz⟩ : ∃ zs, zs = (Builtin.zeroCells (Value.agg #[.string ⟨#[]⟩, .string ⟨#[]⟩, .bool false, .int .i64 0, .int .i64 0]).cells m).toList := ⟨_, rfl⟩
  have hzl : zs.length = m * 5 := by rw [hz]; simp [Builtin.zeroCells, Value.cells]
  have hz1 : ∀ v ∈ zs, v.oneCell' = true := by
    intro v hv
    rw [hz] at hv
    simp only [Builtin.zeroCells, Array.toList_map, List.mem_map] at hv
    obtain ⟨i, _, rfl⟩ := hv
    have : i % 5 < 5 := Nat.mod_lt _ (by decide)
    simp only [Value.cells]
    obtain h | h | h | h | h : i % 5 = 0 ∨ i % 5 = 1 ∨ i % 5 = 2 ∨ i % 5 = 3 ∨ i % 5 = 4 := by omega
    all_goals simp [h, Value.oneCell']
  obtain ⟨X', h1, h2, h3⟩ := setCells_own zs o w X h
  have hg : ∃ cur : Array Value, w.heap[g]? = some (.cells cur 58 (0, 0)) ∧ n * 5 ≤ cur.size := by
    rcases h.2 with ⟨h', _⟩ | ⟨g', cap', cur, h', hb, hg, hnc, hcm, hcs, htake⟩
    · cases h'
    · cases h'
      exact ⟨cur, hg, by omega⟩
  obtain ⟨cur, hgc, hsz⟩ := hg
  have hst := run_storeCells_cells (P := Try.prog) g o zs 0 w (fun j hj => by rw [var_cell hgc]; simp; omega) (fun j hj => var_free hgc _) hz1
  simp only [Nat.add_zero] at hst
  refine ⟨_, X', ?_, h1, h2, h3⟩
  obtain ⟨k, rfl⟩ : ∃ k, m = k + 1 := ⟨m - 1, by omega⟩
  simp [Builtin.clear_, run_underlying und_Cols, zero_Col, ← hz, hst]

theorem own_put {B g n cap : Nat} {w : World} {X : List Co} (h : w.ownsRow B 58 5 (.slice (some ⟨g, 0, none⟩) n cap) n (coCells X)) (i : Nat) (hi : i < X.length) (M : Co) :
    (w.setCells g (i * 5) (co5 M).toList).ownsRow B 58 5 (.slice (some ⟨g, 0, none⟩) n cap) n (coCells (X.set i M)) ∧ w.grownBy (w.setCells g (i * 5) (co5 M).toList) (some g) := by
  rw [coCells_set M X i hi]
  obtain ⟨h1, g1⟩ := h.stored (i * 5) (.string M.name)
  obtain ⟨h2, g2⟩ := h1.stored (i * 5 + 1) (.string M.cell.val)
  obtain ⟨h3, g3⟩ := h2.stored (i * 5 + 2) (.bool M.cell.dead)
  obtain ⟨h4, g4⟩ := h3.stored (i * 5 + 3) (.int .i64 M.cell.at_)
  obtain ⟨h5, g5⟩ := h4.stored (i * 5 + 4) (.int .i64 M.cell.fin)
  exact ⟨h5, grownBy_trans g1 (grownBy_trans g2 (grownBy_trans g3 (grownBy_trans g4 g5)))⟩
theorem own_there {B g n cap : Nat} {w : World} {X : List Value} (h : w.ownsRow B 58 5 (.slice (some ⟨g, 0, none⟩) n cap) n X) (o m : Nat) (hm : o + m ≤ n * 5) : w.there g o m := by
  rcases h.2 with ⟨h', _⟩ | ⟨g', cap', cur, h', hb, hg, hnc, hcm, hcs, htake⟩
  · cases h'
  · cases h'
    exact fun j hj => ⟨by rw [var_cell hg]; simp; omega, var_free hg _⟩

def keeps (ns : List ByteArray) (c : Co) : Bool := !strikes ns c
theorem keep_start {ns : List ByteArray} {l : List Co} {k : Nat} (hk : k < l.length) (hs : strikes ns l[k] = true) (hp : (l.take k).all (fun c => !strikes ns c) = true) : l.take k = (l.take (k + 1)).filter (keeps ns) := by
  rw [List.take_succ_eq_append_getElem hk, List.filter_append]
  have h1 : (l.take k).filter (keeps ns) = l.take k := List.filter_eq_self.2 fun c hc => (List.all_eq_true.1 hp) c hc
  have h2 : [l[k]].filter (keeps ns) = [] := by simp [keeps, hs]
  rw [h1, h2, List.append_nil]
theorem keep_next {ns : List ByteArray} {l : List Co} {j : Nat} {M : Co} {R : List Co} (hd : l.drop j = M :: R) : (l.take (j + 1)).filter (keeps ns) = (l.take j).filter (keeps ns) ++ if strikes ns M = true then [] else [M] := by
  have hk : j < l.length := by
    rcases Nat.lt_or_ge j l.length with h | h
    · exact h
    · rw [List.drop_eq_nil_of_le h] at hd; cases hd
  have e : l[j] = M := by rw [List.drop_eq_getElem_cons hk] at hd; exact (List.cons.inj hd).1
  rw [List.take_succ_eq_append_getElem hk, e, List.filter_append]
  congr 1
  cases h : strikes ns M <;> simp [keeps, h]

set_option maxRecDepth 100000 in
set_option maxHeartbeats 4000000 in
theorem deleteFunc_any (v : Value) (l : List Co) (nv : Value) (ns : List ByteArray) (B : Nat) (w : World) (hB : B ≤ w.heap.size) (hlen : l.length ≤ 1000000) (hown : w.ownsRow B 58 5 v l.length (coCells l)) (hns : ∀ w', w.grownBy w' v.ownBlock → StrsIn w' nv ns) :
    Calls Try.prog 111 #[v, .func (.func 110) #[nv] #[]] w fun e w' => ∃ v', e = .returned v' ∧ w'.ownsRow B 58 5 v' (l.filter (keeps ns)).length (coCells (l.filter (keeps ns))) ∧ w.grownBy w' v.ownBlock := by
  have hcols := cols_own hown
  go_enter Try.func111, Try.ntmps111
  go_wp2_with fail
  refine (indexFunc_any v l nv ns _ hcols (hns w (grownBy_refl w _))).mono ?_
  rintro e w1 ⟨i, rfl, hE1, hcase⟩
  clear hcols
  rcases hcase with ⟨rfl, hall⟩ | ⟨k, rfl, hk, hs, hpre⟩
  · have hf : l.filter (keeps ns) = l := List.filter_eq_self.2 fun c hc => (List.all_eq_true.1 hall) c hc
    have HF := Lib.hid hf
    clear hall hf
    go_wp2_with fail
    go_ret
    exact ⟨_, rfl, by rw [HF.out]; exact ownsRow_ext hown hE1, grownBy_ext (grownBy_refl w _) hE1⟩
  · obtain ⟨g, cap, rfl, hcap, hcm⟩ : ∃ g cap, v = .slice (some ⟨g, 0, none⟩) l.length cap ∧ l.length ≤ cap ∧ cap ≤ 9223372036854775807 := by
      rcases hown.2 with ⟨_, h0⟩ | ⟨g, cap, cur, h', hb, hg, hnc, hcm, hcs, htake⟩
      · omega
      · unfold maxLen at hcm
        exact ⟨g, cap, h', hnc, by omega⟩
    have hw1 : w.grownBy w1 (some g) := grownBy_ext (grownBy_refl w _) hE1
    have hown1 := ownsRow_ext hown hE1
    have HS := Lib.hid (keep_start hk hs hpre)
    have hk1 : ((k : Int) == -1) = false := by simp only [beq_eq_false_iff_ne]; omega
    have hwk : IntKind.i64.wrap ((k : Int) + 1) = (k : Int) + 1 := by rw [IntKind.wrap_i64]; omega
    clear hs hpre hown hE1
    go_wp2_with fail
    go_loopw [5, 6] (fun si sj wr => ∃ (i j : Nat) (X : List Co), i < j ∧ j ≤ l.length ∧ si = .int .i64 i ∧ sj = .int .i64 j ∧ X.length = l.length ∧ wr.ownsRow B 58 5 (.slice (some ⟨g, 0, none⟩) l.length cap) l.length (coCells X) ∧ w.grownBy wr (some g) ∧ Hid (X.take i = (l.take j).filter (keeps ns)) ∧ Hid (X.drop j = l.drop j)) (fun _ sj _ => l.length - (intOf sj).toNat)
    case atStart => exact ⟨k, k + 1, l, by omega, hk, rfl, by go_num, rfl, hown1, hw1, HS, rfl⟩
    case round =>
      clear hown1 hw1
      obtain ⟨i, j, X, hij, hj, rfl, rfl, hXl, hownX, hgr, HT, HD⟩ := hrel
      by_cases hlt : j < l.length
      · have hcX := cols_own (l := X) (by rw [hXl]; exact hownX)
        obtain ⟨a', c', e', _, _, hcell⟩ := hcX.get
        obtain ⟨b, o, e2, hco⟩ := hcell j (by omega)
        obtain ⟨rfl, rfl⟩ : b = g ∧ o = 0 := by rw [e2] at e'; injection e' with h1 h2 h3; injection h1 with h4; injection h4 with h5 h6 h7; exact ⟨h5.symm, h6.symm⟩
        clear e' e2 hcell hcX
        obtain ⟨M, hM⟩ : ∃ M, M = X[j]'(by omega) := ⟨_, rfl⟩
        rw [← hM] at hco
        have hMl : l.drop j = M :: l.drop (j + 1) := by
          have h1 := HD.out
          rw [List.drop_eq_getElem_cons (show j < X.length by omega), ← hM, List.drop_eq_getElem_cons hlt] at h1
          rw [List.drop_eq_getElem_cons hlt, (List.cons.inj h1).1]
        have hKN := Lib.hid (keep_next (ns := ns) hMl)
        clear hM hMl
        obtain ⟨g0, g1, g2, g3, g4⟩ := hco
        rw [Nat.zero_add] at g0 g1 g2 g3 g4
        have hj1 : IntKind.i64.wrap ((j : Int) + 1) = (j : Int) + 1 := by rw [IntKind.wrap_i64]; omega
        have hi1 : IntKind.i64.wrap ((i : Int) + 1) = (i : Int) + 1 := by rw [IntKind.wrap_i64]; omega
        have hil : i < l.length := by omega
        go_wp2_with fail
        refine (not_any nv ns M _ ((hns wr hgr).ext ((Ext.refl _).alloc _))).mono ?_
        rintro e w3 ⟨rfl, hE3⟩
        have hbox3 := (BoxAt.made wr (co5 M) 58).ext hE3
        have hown3 := ownsRow_ext (ownsRow_ext hownX ((Ext.refl _).alloc _)) hE3
        have hgr3 := grownBy_ext (grownBy_ext hgr ((Ext.refl wr).alloc (.cells (co5 M) 58))) hE3
        clear g0 g1 g2 g3 g4 hE3 hownX hgr
        obtain ⟨x0, x1, x2, x3, x4⟩ := hbox3.co
        cases hb : hasS ns M.name
        · have HB := Lib.hid hb
          clear hb
          go_wp2_with fail
          go_roundw
          case rel =>
            refine ⟨i, j + 1, X, by omega, by omega, rfl, by go_num, hXl, hown3, hgr3, ?_, ?_⟩
            · show X.take i = _
              rw [hKN.out, HT.out, if_pos (by unfold strikes; rw [HB.out]; rfl), List.append_nil]
            · show X.drop (j + 1) = _
              rw [← List.drop_drop, ← List.drop_drop, HD.out]
          case measure => simp [intOf] <;> omega
        · have HB := Lib.hid hb
          clear hb
          go_wp2_with ((guard_target =~ wpList _ _ _ (Oper.mk none (Op.store _ (Operand.tmp 33) _) _ _ _ _ :: _) _ _); go_must (refine wpList_store_mid rfl 58 (.tmp 33) (.tmp 32) rfl b (i * 5) (co5 M) (by rfl) (by rfl) (own_there hown3 (i * 5) 5 (by omega)) (by kernel_rfl) (by simp [co5, Value.oneCell']) ?_))
          go_roundw
          case rel =>
            obtain ⟨ho, hg⟩ := own_put hown3 i (by omega) M
            refine ⟨i + 1, j + 1, X.set i M, by omega, by omega, by go_num, by go_num, by simpa using hXl, ho, grownBy_trans hgr3 hg, ?_, ?_⟩
            · show (X.set i M).take (i + 1) = _
              rw [hKN.out, if_neg (by unfold strikes; rw [HB.out]; decide), ← HT.out, List.take_succ_eq_append_getElem (by simp; omega), List.take_set_of_le (Nat.le_refl i)]
              simp
            · show (X.set i M).drop (j + 1) = _
              rw [List.drop_set_of_lt (by omega), ← List.drop_drop, ← List.drop_drop, HD.out]
          case measure => simp [intOf] <;> omega
      · obtain rfl : j = l.length := by omega
        rw [List.take_length] at HT
        obtain ⟨w4, X', he, ho4, htk, hg4⟩ := run_clear_own hownX (i * 5) (l.length - i) (cap - i) 0 (by omega) (by omega)
        have HE := Lib.hid he
        have hcut := own_cut ho4 (i := i) (by omega)
        rw [htk] at hcut
        have hXi : (coCells X).take (i * 5) = coCells (X.take i) := by
          have := coCells_append (X.take i) (X.drop i)
          rw [List.take_append_drop] at this
          rw [this, List.take_left' (by rw [coCells_length, List.length_take, Nat.min_eq_left (by omega)])]
        rw [hXi, HT.out] at hcut
        have hli : (l.filter (keeps ns)).length = i := by rw [← HT.out, List.length_take]; omega
        have HL := Lib.hid hli
        clear he ho4 htk hXi hli hownX
        have hil : i ≤ l.length := by omega
        go_wp2_with fail
        rw [HE.out]
        simp only [Result.andThen]
        rw [Oper.upon_value]
        go_wp2_with fail
        go_ret
        exact ⟨_, rfl, by rw [HL.out]; exact hcut, grownBy_trans hgr hg4⟩
end Go.Proofs.Yteamiiekpjoclaa

/- The walk over order.Text. -/
namespace Go.Proofs.Yteamiiekpjoclaa
open Go Go.RowKit

set_option maxHeartbeats 400000 in
theorem own_any (a : Option Addr) (n c : Nat) (h : n ≤ c) (_hc : c ≤ maxLen) (w : World) :
    Calls Try.prog 94 #[.slice a n c] w fun e w' => e = .returned (.slice a n n) ∧ w = w' := by
  unfold maxLen at _hc
  go_enter Try.func94, Try.ntmps94
  go_wp2
  go_ret
  exact ⟨rfl, rfl⟩

theorem cs255 : (#[Value.int .u8 255] : Array Value).toList = bcells [255] := rfl
theorem cs01 : (#[Value.int .u8 0, Value.int .u8 1] : Array Value).toList = bcells [0, 1] := rfl
theorem take_snoc (s : ByteArray) (k : Nat) (h : k < s.size) : s.data.toList.take (k + 1) = s.data.toList.take k ++ [s[k]] := by
  rw [List.take_succ_eq_append_getElem (by simpa using h)]; rfl

theorem text_zero {w w0 : World} {v : Value} {l : List UInt8} {s : ByteArray} {k : Nat} {b : UInt8} (h1 : s.data.toList.take (k + 1) = s.data.toList.take k ++ [b])
    (h2 : esc (s.data.toList.take k ++ [b]) = esc (s.data.toList.take k) ++ if b = 0 then [0, 255] else [b]) (hz : ((b.toNat : Int) == 0) = true) (h : OwnB w w0.heap.size v (l ++ esc (s.data.toList.take k) ++ [b] ++ [255])) :
    OwnB w w0.heap.size v (l ++ esc (s.data.toList.take (k + 1))) := by
  have hb : b = 0 := by apply UInt8.toNat.inj; have := beq_iff_eq.1 hz; simpa using this
  subst hb
  rw [h1, h2]
  simpa using h
theorem text_other {w w0 : World} {v : Value} {l : List UInt8} {s : ByteArray} {k : Nat} {b : UInt8} (h1 : s.data.toList.take (k + 1) = s.data.toList.take k ++ [b])
    (h2 : esc (s.data.toList.take k ++ [b]) = esc (s.data.toList.take k) ++ if b = 0 then [0, 255] else [b]) (hz : ((b.toNat : Int) == 0) = false) (h : OwnB w w0.heap.size v (l ++ esc (s.data.toList.take k) ++ [b])) :
    OwnB w w0.heap.size v (l ++ esc (s.data.toList.take (k + 1))) := by
  have hb : b ≠ 0 := by rintro rfl; simp at hz
  rw [h1, h2, if_neg hb]
  simpa using h

set_option maxHeartbeats 400000 in
theorem text_any (v : Value) (l : List UInt8) (s : ByteArray) (w : World) (hv : BytesIn w v l) (hl : l.length + 2 * s.size + 2 ≤ 140737488355328) :
    Calls Try.prog 65 #[v, .string s] w fun e w' => ∃ v', e = .returned v' ∧ OwnB w' w.heap.size v' (l ++ txt s.data.toList) ∧ Ext w w' := by
  obtain ⟨a, c, rfl, hc, hcm, ha, hcell⟩ := hv
  have hv : BytesIn w (.slice a l.length l.length) l := ⟨a, l.length, rfl, Nat.le_refl _, Nat.le_trans hc hcm, fun h => by have := ha h; omega, hcell⟩
  clear hcell ha
  go_enter Try.func65, Try.ntmps65
  go_wp2_with (go_at_call 94; refine (own_any _ _ _ hc hcm _).mono ?_; rintro e w' ⟨rfl, rfl⟩)
  clear hc hcm
  go_loopw [0, 10] (fun v n wr => ∃ k : Nat, k ≤ s.size ∧ n = .int .i64 k ∧ Tip wr w.heap.size v (l ++ esc (s.data.toList.take k)) ∧ Ext w wr) (fun _ n _ => s.size - (intOf n).toNat)
  case atStart => exact ⟨0, Nat.zero_le _, rfl, by simpa [esc] using Tip.full hv, Ext.refl w⟩
  case round =>
    obtain ⟨k, hk, rfl, hown, hE⟩ := hrel
    have hlen : (esc (s.data.toList.take k)).length ≤ 2 * k := Nat.le_trans (esc_length_le _) (by simp; omega)
    by_cases hlt : k < s.size
    · have hsn := Lib.hid (esc_snoc (s.data.toList.take k) s[k])
      have hts := Lib.hid (take_snoc s k hlt)
      go_wp2_with (first
        | (at_builtin; refine appB wr rfl (.tmp 13) (.tmp 17) rfl w hE _ _ _ _ (csb _) (by simp) rfl hown _ rfl rfl (by simp; omega) ?_; intro v2 w2 hown2 hE2)
        | (at_builtin; go_must (refine appB _ rfl (.tmp 23) (.tmp 24) rfl w hE2 _ _ _ [255] cs255 (by simp) rfl (Tip.own hown2) _ rfl rfl (by simp; omega) ?_); intro v3 w3 hown3 hE3))
      · have hz : ((s[k].toNat : Int) == 0) = true := by assumption
        go_roundw
        case rel => exact ⟨k + 1, by omega, by go_num, Tip.own (text_zero hts.out hsn.out hz hown3), hE3⟩
        case measure => simp [intOf] <;> omega
      · have hz : ((s[k].toNat : Int) == 0) = false := by assumption
        go_roundw
        case rel => exact ⟨k + 1, by omega, by go_num, Tip.own (text_other hts.out hsn.out hz hown2), hE2⟩
        case measure => simp [intOf] <;> omega
    · go_wp2_with (at_builtin; go_must (refine appB wr rfl (.tmp 27) (.tmp 28) rfl w hE _ _ _ [0, 1] cs01 (by simp) rfl hown _ rfl rfl (by simp; omega) ?_); intro v3 w3 hown3 hE3)
      go_ret
      exact ⟨_, rfl, by rw [List.take_of_length_le (by simp; omega), List.append_assoc] at hown3; exact hown3, hE3⟩

theorem Text_nil (s : ByteArray) (w : World) (hl : 2 * s.size + 2 ≤ 140737488355328) :
    Calls Try.prog 65 #[.slice none 0 0, .string s] w fun e w' => ∃ v', e = .returned v' ∧ OwnB w' w.heap.size v' (txt s.data.toList) ∧ Ext w w' := by
  simpa using text_any _ [] s w (SliceIn.nil _) (by simpa using hl)

end Go.Proofs.Yteamiiekpjoclaa

/- Contracts of the library, laid at this program: each is one application of a theorem of the shelf (the text is the tool's, its numbers by name). -/
namespace Go.Proofs
open Go.Shelf
def Try.lays169_ren : Go.Shelf.Ren := ⟨fun | 169 => 93 | n => n, fun | 70 => 128 | 9 => 9 | 0 => 0 | 72 => 130 | 37 => 104 | 127 => 148 | 3 => 3 | 5 => 5 | n => n, fun | n => n⟩
theorem Try.lays169 : Go.Proofs.Lays.n169 Try.prog Try.lays169_ren := {
  mixed := by kernel_rfl
  f169 := Try.func93.trans (congrArg some (by kernel_rfl))
  t0 := Try.underlying0
  a0 := Try.isAgg0
  z0 := Try.sizeOf0
  v0 := Try.zeroValue0
  t3 := Try.underlying3
  a3 := Try.isAgg3
  z3 := Try.sizeOf3
  v3 := Try.zeroValue3
  t9 := Try.underlying9
  a9 := Try.isAgg9
  z9 := Try.sizeOf9
  v9 := Try.zeroValue9
  t37 := Try.underlying104
  a37 := Try.isAgg104
  z37 := Try.sizeOf104
  v37 := Try.zeroValue104
  t70 := Try.underlying128
  a70 := Try.isAgg128
  z70 := Try.sizeOf128
  v70 := Try.zeroValue128
  t72 := Try.underlying130
  a72 := Try.isAgg130
  z72 := Try.sizeOf130
  v72 := Try.zeroValue130
  t127 := Try.underlying148
  a127 := Try.isAgg148
  z127 := Try.sizeOf148
  v127 := Try.zeroValue148 }
theorem Try.Builder_Extra_169 : Builder.Extra Try.prog Try.lays169_ren := {
  sizeBuilder := by kernel_rfl
  liesBuilder := by kernel_rfl
  t5 := Try.underlying5
  a5 := Try.isAgg5
  z5 := Try.sizeOf5
  v5 := Try.zeroValue5
  infoByte := by kernel_rfl
  cellsByte := by kernel_rfl
  sizeByte := by kernel_rfl
  neB5 := by decide }
open Go.RowKit in
theorem Try.Builder_String_any (B b : Nat) (l : List UInt8) (w : World) (h : Lib.IsBuilder 130 5 B b (Lib.byteCells l) w) (hBw : B ≤ w.heap.size) :
    Calls Try.prog 93 #[.pointer (some ⟨b, 0, none⟩)] w fun e w' => e = .returned (.string ⟨l.toArray⟩) ∧ Below B w w' := Any.Builder_String_any Try.lays169 Try.Builder_Extra_169 B b l w h hBw
end Go.Proofs
namespace Go.Proofs.Yteamiiekpjoclaa
open Go Go.RowKit
theorem sizeBuilder : (Try.prog.info? 130).map (·.size) = some 2 := by kernel_rfl
theorem liesBuilder : liesAt Try.prog Try.prog.depth 130 (2 / Try.prog.cellsOf 130) 0 130 1 = true := by kernel_rfl
theorem infoByte : (Try.prog.info? 5).map (fun i => (i.zero, i.size, i.bytes)) = some (some (.int .u8 0), 1, 1) := by kernel_rfl

set_option maxRecDepth 100000 in
set_option maxHeartbeats 1000000 in
theorem copyCheck_used (b : Nat) (w : World) (h0 : w.cell? ⟨b, 0, none⟩ = some (.pointer (some ⟨b, 0, none⟩))) :
    Calls Try.prog 109 #[.pointer (some ⟨b, 0, none⟩)] w fun e w' => e = .returned (.tuple #[]) ∧ w' = w := by
  obtain ⟨j, hj, _⟩ := Option.map_eq_some_iff.1 sizeBuilder
  go_enter Try.func109, Try.ntmps109
  go_wp2
  rw [Lib.run_neq_ptr_same w _ Try.underlying128 hj]
  go_wp2
  go_end0
  exact ⟨rfl, rfl⟩

set_option maxRecDepth 100000 in
set_option maxHeartbeats 1000000 in
theorem copyCheck_fresh (b : Nat) (w : World) (h0 : w.cell? ⟨b, 0, none⟩ = some (.pointer none)) (hsh : w.shape? b = some (130, 2)) (hfz : w.frozen? ⟨b, 0, none⟩ = false) :
    Calls Try.prog 109 #[.pointer (some ⟨b, 0, none⟩)] w fun e w' => e = .returned (.tuple #[]) ∧ w' = w.setCell ⟨b, 0, none⟩ (.pointer (some ⟨b, 0, none⟩)) := by
  obtain ⟨j, hj, hjs⟩ := Option.map_eq_some_iff.1 sizeBuilder
  go_enter Try.func109, Try.ntmps109
  go_wp2
  rw [Lib.run_to_unsafe w ⟨b, 0, none⟩ Try.underlying128 Try.underlying155 hj (by rw [hjs]; decide) hsh (Nat.zero_lt_succ 1)]
  simp only [Result.andThen]
  rw [Oper.upon_value]
  go_wp2
  rw [run_callFunc_extern Try.func117 (by kernel_rfl) (by kernel_rfl) (by kernel_rfl) (e := Extern.AbiNoEscape.same) (by kernel_rfl)]
  rw [Lib.run_noEscape]
  simp only [Result.andThen]
  rw [Oper.upon_value]
  go_wp2
  rw [Lib.run_from_unsafe w ⟨b, 0, none⟩ Try.underlying155 Try.underlying128 hj hsh liesBuilder]
  simp only [Result.andThen]
  rw [Oper.upon_value]
  go_wp2
  go_end0
  exact ⟨rfl, rfl⟩

theorem copyCheck_any (B b : Nat) (bs : List Value) (w : World) (h : Lib.IsBuilder 130 5 B b bs w) :
    Calls Try.prog 109 #[.pointer (some ⟨b, 0, none⟩)] w fun e w' => e = .returned (.tuple #[]) ∧ (Lib.BuilderAt 130 5 B b (.pointer (some ⟨b, 0, none⟩)) bs w' ∧ Below B w w') := by
  rcases h with h | h
  · refine (copyCheck_fresh b w h.cell0 h.shape h.frozen0).mono ?_
    rintro e w' ⟨rfl, rfl⟩
    exact ⟨rfl, h.used _, (Below.refl B w).setCell (p := ⟨b, 0, none⟩) h.1 _⟩
  · refine (copyCheck_used b w h.cell0).mono ?_
    rintro e w' ⟨rfl, rfl⟩
    exact ⟨rfl, h, Below.refl B _⟩

set_option maxHeartbeats 2000000 in
theorem writeByte_any (B b : Nat) (bs : List Value) (c : Int) (w : World) (h : Lib.IsBuilder 130 5 B b bs w) (hlen : bs.length + 1 ≤ 140737488355328) (hBw : B ≤ w.heap.size) :
    Calls Try.prog 92 #[.pointer (some ⟨b, 0, none⟩), .int .u8 c] w fun e w' => e = .returned .nilIface ∧ (Lib.BuilderAt 130 5 B b (.pointer (some ⟨b, 0, none⟩)) (bs ++ [.int .u8 c]) w' ∧ Below B w w') := by
  obtain ⟨i0, hi, hz0, hz1, hz2⟩ := info_parts infoByte
  go_enter Try.func92, Try.ntmps92
  go_wp2_with (go_at_call 109; refine (copyCheck_any B b bs _ h).mono ?_)
  rintro e w1 ⟨rfl, h1, hb1⟩
  obtain ⟨hB, v, hbk, hown, hne⟩ := h1
  have c0 : w1.cell? ⟨b, 0, none⟩ = some (.pointer (some ⟨b, 0, none⟩)) := by rw [Lib.cell_of_heap hbk]; rfl
  have c1 : w1.cell? ⟨b, 1, none⟩ = some v := by rw [Lib.cell_of_heap hbk]; rfl
  go_wp2_with (at_builtin; refine wpList_append_own _ rfl _ _ 104 rfl B 5 i0 (.int .u8 0) 1 1 Try.underlying104 hi hz0 hz1 hz2 rfl (by decide) _ _ _ rfl (hown.alloc _) ⟨w1.heap.size, 0, none⟩ 1 1 [.int .u8 c] rfl rfl ?c1 ?c2 ?c3 ?c4 ?c5 ?_)
  case c1 =>
    intro j u hj
    match j, hj with
    | 0, hj => simp at hj; subst hj; simp [Addr.add]
  case c2 => intro u hu; simp at hu; subst hu; rfl
  case c3 => unfold maxLen; omega
  case c4 => omega
  case c5 => have := hb1.size; simp; omega
  intro v' w2 hown' hgrow _
  have hlt : b < w1.heap.size := by
    rcases Nat.lt_or_ge b w1.heap.size with h' | h'
    · exact h'
    · simp [Array.getElem?_eq_none h'] at hbk
  have hb2 : w2.heap[b]? = some (.cells #[.pointer (some ⟨b, 0, none⟩), v] 130 (0, 0)) := by
    rw [hgrow.block b (by simp; omega) (fun e => hne e.symm), Lib.alloc_old w1 _ b hlt]
    exact hbk
  have d0 : w2.cell? ⟨b, 0, none⟩ = some (.pointer (some ⟨b, 0, none⟩)) := by rw [Lib.cell_of_heap hb2]; rfl
  have d1 : w2.cell? ⟨b, 1, none⟩ = some v := by rw [Lib.cell_of_heap hb2]; rfl
  have f1 : w2.frozen? ⟨b, 1, none⟩ = false := Lib.frozen_of_heap hb2 1
  obtain ⟨g, cap, rfl⟩ : ∃ g cap, v' = .slice (some ⟨g, 0, none⟩) (bs.length + 1) cap := by
    rcases hown'.2 with ⟨_, h0⟩ | ⟨g, cap, cur, hv, _⟩
    · omega
    · exact ⟨g, cap, hv⟩
  go_wp2
  go_ret
  refine ⟨rfl, ?_, ?_⟩
  · exact Lib.BuilderAt.put (T := 130) (e := 5) hB hb2 (bs' := bs ++ [.int .u8 c]) (by simpa using hown') (by decide)
  · exact ((hb1.alloc (by have := hb1.size; omega) _).grown hgrow (by have := hb1.size; simp; omega) (fun k hk => (hown.lt k hk).1)).setCell (p := ⟨b, 1, none⟩) hB _
end Go.Proofs.Yteamiiekpjoclaa
