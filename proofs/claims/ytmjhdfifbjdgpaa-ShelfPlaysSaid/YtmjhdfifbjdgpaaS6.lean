/- A slice of integers that comes in, read. -/
import Derived.Test.YtmjhdfifbjdgpaaS1
import Derived.ProofKit
import Derived.ChangeSlices
import Derived.WideShapes
import Derived.Test.YtmjhdfifbjdgpaaS2
import Derived.Test.YtmjhdfifbjdgpaaS5
import Derived.Sort.OwnSortedInts
import Derived.Maps.Ext
import Derived.RegionTactic
import Derived.BigRegion
set_option linter.unusedSimpArgs false
set_option linter.unusedVariables false
namespace Go.Proofs.Ytmjhdfifbjdgpaa
open Go Go.RowKit Go.ChangeShapes Go.WideShapes Go.ChangeAt

/-- The cells of a list of integers. -/
def kcells (k : IntKind) (l : List Int) : List Value := l.map (Value.int k)
@[simp] theorem kcells_length (k : IntKind) (l : List Int) : (kcells k l).length = l.length := by simp [kcells]
theorem kcells_get (k : IntKind) (l : List Int) (i : Nat) : (kcells k l)[i]? = l[i]?.map (Value.int k) := by simp [kcells]
/-- v is a slice of integers that reads as l. -/
def IntsIn (w : World) (v : Value) (k : IntKind) (l : List Int) : Prop := SliceIn w v l.length (kcells k l)
theorem IntsIn.ext {w w' : World} (hE : Ext w w') {v : Value} {k : IntKind} {l : List Int} (h : IntsIn w v k l) : IntsIn w' v k l := SliceIn.ext hE h

theorem read_ints {P : Program} {H : Type} {enc : TypeId × Value → H} {W : World} {base : Nat} {t e : TypeId} {k : IntKind} {v : Value} {d : DataW H} {p : List MemPlace} (ht : P.underlying t = some (.slice e)) (he : P.underlying e = some (.int k)) (hc : P.cellsOf e = 1)
    (hv : Value.okWide P W .any base t v) (h : DataW.Trod enc P W 0 (fun _ => true) true t v d p) : ∃ l : List Int, IntsIn W v k l ∧ ∀ n ∈ l, (Lit.int k n).wf = true := by
  obtain ⟨a, len, cap, rfl⟩ := okWide_slice ht hv
  obtain ⟨fuel, hf⟩ := h
  rcases open_ints ht he hc hf with ⟨hcs, _⟩ | ⟨x, l, c, zs, hcs, _, hl, hm, hz, _, hcell, hwz⟩
  · simp [Value.cells] at hcs
    obtain ⟨rfl, rfl, rfl⟩ := hcs
    exact ⟨[], SliceIn.nil W, by simp⟩
  · simp [Value.cells] at hcs
    obtain ⟨rfl, rfl, rfl⟩ := hcs
    have hz' : zs.length = cap := by simpa using hz
    refine ⟨zs.take len, ?_, fun n hn => hwz n (List.mem_of_mem_take hn)⟩
    have hlen : (zs.take len).length = len := by simp; omega
    unfold IntsIn
    rw [hlen]
    refine ⟨some x, cap, rfl, hl, hm, nofun, fun j u hj => ?_⟩
    rw [kcells_get, List.getElem?_take] at hj
    split at hj
    · rename_i hlt
      have hjz : j < zs.length := by omega
      have hc := hcell j hjz
      have h0 := hcell 0 (by omega)
      obtain ⟨b, o, s⟩ := x
      have hs : s = none := by
        cases s with
        | none => rfl
        | some s =>
          simp only [Addr.add, if_pos] at h0
          unfold World.cell? at h0
          split at h0 <;> simp at h0
      subst hs
      refine ⟨b, o, rfl, ?_⟩
      rw [Addr.add_lit] at hc
      rw [hc, List.getD_eq_getElem?_getD]
      rw [List.getElem?_eq_getElem hjz] at hj ⊢
      simp at hj ⊢
      exact hj
    · cases hj
end Go.Proofs.Ytmjhdfifbjdgpaa

/- Package shelf: a shelf in memory; New, Append, Sync, Cut, Log, Unsynced, Put, Get, Drop, Man, Turn, Crash, Wipe. -/
namespace Go.Proofs.Ytmjhdfifbjdgpaa
open Go Go.RowKit
attribute [local go_sem] yields yUpon

/-- A shelf in memory: its box p, its map m. -/
structure ShelfAt (w : World) (p m : Nat) (log : ByteArray) (good : Nat) (F : Fl) (man : ByteArray) : Prop where
  box : BoxAt w p #[.string log, .int .i64 (good : Int), .map (some m), .string man] 111
  files : FilesAt w m F
  ne : p ≠ m
  good_le : good ≤ log.size
  log_le : log.size ≤ 262144
theorem ShelfAt.touch {w w' : World} {L : List Nat} (ht : Touch w w' L) {p m : Nat} {log : ByteArray} {good : Nat} {F : Fl} {man : ByteArray} (h : ShelfAt w p m log good F man) (hp : p ∉ L) (hm : m ∉ L) : ShelfAt w' p m log good F man :=
  ⟨ht.box h.box hp, ht.files h.files hm, h.ne, h.good_le, h.log_le⟩
theorem ShelfAt.ext {w w' : World} (hE : Ext w w') {p m : Nat} {log : ByteArray} {good : Nat} {F : Fl} {man : ByteArray} (h : ShelfAt w p m log good F man) : ShelfAt w' p m log good F man :=
  h.touch (Touch.of_ext hE []) (by simp) (by simp)
theorem ShelfAt.c0 {w : World} {p m : Nat} {log : ByteArray} {good : Nat} {F : Fl} {man : ByteArray} (h : ShelfAt w p m log good F man) : w.cell? ⟨p, 0, none⟩ = some (.string log) := by rw [h.box.cell]; rfl
theorem ShelfAt.c1 {w : World} {p m : Nat} {log : ByteArray} {good : Nat} {F : Fl} {man : ByteArray} (h : ShelfAt w p m log good F man) : w.cell? ⟨p, 1, none⟩ = some (.int .i64 (good : Int)) := by rw [h.box.cell]; rfl
theorem ShelfAt.c2 {w : World} {p m : Nat} {log : ByteArray} {good : Nat} {F : Fl} {man : ByteArray} (h : ShelfAt w p m log good F man) : w.cell? ⟨p, 2, none⟩ = some (.map (some m)) := by rw [h.box.cell]; rfl
theorem ShelfAt.c3 {w : World} {p m : Nat} {log : ByteArray} {good : Nat} {F : Fl} {man : ByteArray} (h : ShelfAt w p m log good F man) : w.cell? ⟨p, 3, none⟩ = some (.string man) := by rw [h.box.cell]; rfl
theorem ShelfAt.turn {w w' : World} {p m : Nat} {log log' : ByteArray} {good good' : Nat} {F : Fl} {man man' : ByteArray} (h : ShelfAt w p m log good F man) (ht : Touch w w' [p])
    (hb : BoxAt w' p #[.string log', .int .i64 (good' : Int), .map (some m), .string man'] 111) (h1 : good' ≤ log'.size) (h2 : log'.size ≤ 262144) : ShelfAt w' p m log' good' F man' :=
  ⟨hb, ht.files h.files (by simp; exact fun e => h.ne e.symm), h.ne, h1, h2⟩

set_option maxHeartbeats 400000 in
theorem sh_new (w : World) : Calls Try.prog 21 #[] w fun e w' => e = .returned (.pointer (some ⟨w.heap.size + 1, 0, none⟩)) ∧ w' = (w.alloc (.map #[] 0)).alloc (.cells #[.string ⟨#[]⟩, .int .i64 0, .map (some w.heap.size), .string ⟨#[]⟩] 111) := by
  have hmm := @run_makeMap Try.prog
  go_enter Try.func21, Try.ntmps21
  go_wp2
  go_ret
  exact ⟨rfl, rfl⟩
theorem sh_made (w : World) : ShelfAt ((w.alloc (.map #[] 0)).alloc (.cells #[.string ⟨#[]⟩, .int .i64 0, .map (some w.heap.size), .string ⟨#[]⟩] 111)) (w.heap.size + 1) w.heap.size ⟨#[]⟩ 0 [] ⟨#[]⟩ := by
  have e : (w.alloc (.map #[] 0)).heap.size = w.heap.size + 1 := by simp
  refine ⟨?_, (files_new w).ext ((Ext.refl _).alloc _), by omega, by simp, by simp [ByteArray.size]⟩
  have := BoxAt.made (w.alloc (.map #[] 0)) #[.string ⟨#[]⟩, .int .i64 0, .map (some w.heap.size), .string ⟨#[]⟩] 111
  rw [e] at this
  exact this

section
variable {p m : Nat} {log : ByteArray} {good : Nat} {F : Fl} {man : ByteArray}

set_option maxHeartbeats 400000 in
theorem sh_log (w : World) (h : ShelfAt w p m log good F man) : Calls Try.prog 55 #[.pointer (some ⟨p, 0, none⟩)] w fun e w' => e = .returned (.string log) ∧ w = w' := by
  have c0 := h.c0
  go_enter Try.func55, Try.ntmps55
  go_wp2
  go_ret
  exact ⟨rfl, rfl⟩

set_option maxHeartbeats 400000 in
theorem sh_man (w : World) (h : ShelfAt w p m log good F man) : Calls Try.prog 70 #[.pointer (some ⟨p, 0, none⟩)] w fun e w' => e = .returned (.string man) ∧ w = w' := by
  have c0 := h.c3
  go_enter Try.func70, Try.ntmps70
  go_wp2
  go_ret
  exact ⟨rfl, rfl⟩

set_option maxHeartbeats 400000 in
theorem sh_append (b : ByteArray) (hb : b.size ≤ maxLen) (w : World) (h : ShelfAt w p m log good F man) :
    Calls Try.prog 52 #[.pointer (some ⟨p, 0, none⟩), .string b] w fun e w' =>
      (e = .returned (.int .i64 (if log.size + b.size ≤ 262144 then 0 else 2)) ∧ Touch w w' [p]) ∧ ShelfAt w' p m (if log.size + b.size ≤ 262144 then log ++ b else log) good F man := by
  have c0 := h.c0
  have f0 := h.box.free 0
  have hl := h.log_le
  unfold maxLen at hb
  by_cases hs : log.size + b.size ≤ 262144
  · rw [if_pos hs, if_pos hs]
    have hlt : ¬ (262144 - (log.size : Int) < (b.size : Int)) := by omega
    go_enter Try.func52, Try.ntmps52
    go_wp2
    go_ret
    refine ⟨⟨rfl, Touch.set (by simp)⟩, h.turn (Touch.set (by simp)) (h.box.set 0 _) ?_ ?_⟩
    · rw [ByteArray.size_append]; have := h.good_le; omega
    · rw [ByteArray.size_append]; omega
  · rw [if_neg hs, if_neg hs]
    have hlt : 262144 - (log.size : Int) < (b.size : Int) := by omega
    go_enter Try.func52, Try.ntmps52
    go_wp2
    go_ret
    exact ⟨⟨rfl, Touch.refl _ _⟩, h⟩

set_option maxHeartbeats 400000 in
theorem sh_sync0 (v : Value) (w : World) (c0 : w.cell? ⟨p, 0, none⟩ = some (.string log)) (c1 : w.cell? ⟨p, 1, none⟩ = some v) (f1 : w.frozen? ⟨p, 1, none⟩ = false) (hl : log.size ≤ 262144) :
    Calls Try.prog 53 #[.pointer (some ⟨p, 0, none⟩)] w fun e w' => e = .returned (.tuple #[]) ∧ w' = w.setCell ⟨p, 1, none⟩ (.int .i64 (log.size : Int)) := by
  go_enter Try.func53, Try.ntmps53
  go_wp2
  go_end0
  exact ⟨rfl, rfl⟩

theorem sh_sync (w : World) (h : ShelfAt w p m log good F man) : Calls Try.prog 53 #[.pointer (some ⟨p, 0, none⟩)] w fun e w' => (e = .returned (.tuple #[]) ∧ Touch w w' [p]) ∧ ShelfAt w' p m log log.size F man :=
  (sh_sync0 _ w h.c0 h.c1 (h.box.free 1) h.log_le).mono fun e w' ⟨he, hw⟩ => by
    subst hw
    exact ⟨⟨he, Touch.set (by simp)⟩, h.turn (Touch.set (by simp)) (h.box.set 1 _) (Nat.le_refl _) h.log_le⟩

set_option maxHeartbeats 400000 in
theorem sh_turn (b : ByteArray) (hb : b.size ≤ maxLen) (w : World) (h : ShelfAt w p m log good F man) :
    Calls Try.prog 64 #[.pointer (some ⟨p, 0, none⟩), .string b] w fun e w' =>
      (e = .returned (.int .i64 (if b.size ≤ 262144 then 0 else 2)) ∧ Touch w w' [p]) ∧ (if b.size ≤ 262144 then ShelfAt w' p m ⟨#[]⟩ 0 F b else w' = w) := by
  have c0 := h.c0
  have c1 := h.c1
  have c3 := h.c3
  have f0 := h.box.free 0
  have f1 := h.box.free 1
  have f3 := h.box.free 3
  unfold maxLen at hb
  by_cases hs : b.size ≤ 262144
  · simp only [if_pos hs]
    have hlt : ¬ (262144 < (b.size : Int)) := by omega
    go_enter Try.func64, Try.ntmps64
    go_wp2
    go_ret
    have ht : Touch w (((w.setCell ⟨p, 3, none⟩ (.string b)).setCell ⟨p, 0, none⟩ (.string ⟨#[]⟩)).setCell ⟨p, 1, none⟩ (.int .i64 0)) [p] :=
      (((Touch.set (L := [p]) (by simp)).trans (Touch.set (L := [p]) (by simp))).trans (Touch.set (L := [p]) (by simp))).mono (by simp)
    exact ⟨⟨rfl, ht⟩, h.turn ht (((h.box.set 3 _).set 0 _).set 1 _) (by simp) (by simp [ByteArray.size])⟩
  · simp only [if_neg hs]
    have hlt : 262144 < (b.size : Int) := by omega
    go_enter Try.func64, Try.ntmps64
    go_wp2
    go_ret
    exact ⟨⟨rfl, Touch.refl _ _⟩, rfl⟩

set_option maxHeartbeats 400000 in
theorem sh_unsynced (w : World) (h : ShelfAt w p m log good F man) :
    Calls Try.prog 56 #[.pointer (some ⟨p, 0, none⟩)] w fun e w' => e = .returned (.int .i64 ((log.size : Int) - good)) ∧ ∃ n, w' = w.drewN n := by
  have c0 := h.c0
  have c1 := h.c1
  have hl := h.log_le
  have hg := h.good_le
  go_enter Try.func56, Try.ntmps56
  go_wp2
  go_quiet (fail)
  go_wp2
  go_ret
  exact ⟨rfl, _, rfl⟩

/-- How many bytes are left by 'Cut(n)'. -/
def cutN (n : Int) (k : Nat) : Nat := (max 0 (min n (k : Int))).toNat
theorem cutN_le (n : Int) (k : Nat) : cutN n k ≤ k := by unfold cutN; omega
theorem cut_size (s : ByteArray) (n : Nat) (h : n ≤ s.size) : (s.extract 0 n).size = n := by simp [ByteArray.size_extract]; omega

set_option maxHeartbeats 400000 in
theorem sh_get (n : Int) (h0 : -9223372036854775808 ≤ n) (h1 : n ≤ 9223372036854775807) (w : World) (h : ShelfAt w p m log good F man) :
    Calls Try.prog 23 #[.pointer (some ⟨p, 0, none⟩), .int .i64 n] w fun e w' => e = .returned (.tuple #[.string (str (fget n F)), .int .i64 (if fhas n F then 0 else 9)]) ∧ w = w' := by
  have c2 := h.c2
  obtain ⟨hk, _⟩ := files_look h.files h0 h1
  cases hh : fhas n F with
  | true =>
    rw [hh] at hk
    rw [if_pos rfl]
    clear hh
    go_enter Try.func23, Try.ntmps23
    go_wp2
    go_ret2
    exact ⟨rfl, rfl⟩
  | false =>
    rw [hh] at hk
    have e : fget n F = [] := by
      unfold fget fhas at *
      rw [List.find?_eq_none.2 (by simpa using hh)]; rfl
    rw [if_neg (by decide), e]
    rw [e] at hk
    clear hh e
    go_enter Try.func23, Try.ntmps23
    go_wp2
    go_ret2
    exact ⟨rfl, rfl⟩

set_option maxHeartbeats 400000 in
theorem sh_drop (n : Int) (h0 : -9223372036854775808 ≤ n) (h1 : n ≤ 9223372036854775807) (w : World) (h : ShelfAt w p m log good F man) :
    Calls Try.prog 62 #[.pointer (some ⟨p, 0, none⟩), .int .i64 n] w fun e w' => (e = .returned (.bool (fhas n F)) ∧ Touch w w' [m]) ∧ ShelfAt w' p m log good (fdel n F) man := by
  have c2 := h.c2
  obtain ⟨hk, _⟩ := files_look h.files h0 h1
  obtain ⟨w1, hr, hf, ht⟩ := files_del h.files h0 h1 0
  go_enter Try.func62, Try.ntmps62
  go_wp2
  go_ret
  exact ⟨⟨rfl, ht⟩, ht.box h.box (by simpa using h.ne), hf, h.ne, h.good_le, h.log_le⟩

/-- What 'Put' says. -/
def putE (n : Int) (b : ByteArray) (F : Fl) : Int := if n < 1 ∨ 1099511627776 < n ∨ fhas n F = true then 1 else if 262144 < b.size ∨ 40 ≤ F.length then 2 else 0

set_option maxHeartbeats 400000 in
theorem sh_put (n : Int) (h0 : -9223372036854775808 ≤ n) (h1 : n ≤ 9223372036854775807) (b : ByteArray) (hb : b.size ≤ maxLen) (hF : F.length ≤ 40) (w : World) (h : ShelfAt w p m log good F man) :
    Calls Try.prog 60 #[.pointer (some ⟨p, 0, none⟩), .int .i64 n, .string b] w fun e w' => (e = .returned (.int .i64 (putE n b F)) ∧ Touch w w' [m]) ∧ ShelfAt w' p m log good (if putE n b F = 0 then fput n b.data.toList F else F) man := by
  have c2 := h.c2
  obtain ⟨hk, _⟩ := files_look h.files h0 h1
  have hlen := files_len h.files 3
  have hb' := hb
  unfold maxLen at hb'
  by_cases e1 : n < 1 ∨ 1099511627776 < n ∨ fhas n F = true
  · have e : putE n b F = 1 := by unfold putE; rw [if_pos e1]
    rw [e, if_neg (by decide)]
    clear e
    by_cases a1 : n < 1
    · go_enter Try.func60, Try.ntmps60
      go_wp2
      go_ret
      exact ⟨⟨rfl, Touch.refl _ _⟩, h⟩
    · by_cases a2 : 1099511627776 < n
      · go_enter Try.func60, Try.ntmps60
        go_wp2
        go_ret
        exact ⟨⟨rfl, Touch.refl _ _⟩, h⟩
      · have a3 : fhas n F = true := by rcases e1 with x | x | x; exact absurd x a1; exact absurd x a2; exact x
        rw [a3] at hk
        clear e1
        go_enter Try.func60, Try.ntmps60
        go_wp2
        go_ret
        exact ⟨⟨rfl, Touch.refl _ _⟩, h⟩
  · have a1 : ¬ n < 1 := fun x => e1 (.inl x)
    have a2 : ¬ 1099511627776 < n := fun x => e1 (.inr (.inl x))
    have a3 : fhas n F = false := by cases hh : fhas n F; rfl; exact absurd (.inr (.inr hh)) e1
    rw [a3] at hk
    by_cases e2 : 262144 < b.size ∨ 40 ≤ F.length
    · have e : putE n b F = 2 := by unfold putE; rw [if_neg e1, if_pos e2]
      rw [e, if_neg (by decide)]
      clear e e1
      by_cases a4 : 262144 < b.size
      · have a4' : 262144 < (b.size : Int) := by omega
        clear e2 a4
        go_enter Try.func60, Try.ntmps60
        go_wp2
        go_ret
        exact ⟨⟨rfl, Touch.refl _ _⟩, h⟩
      · have a4' : ¬ 262144 < (b.size : Int) := by omega
        have a5 : 40 ≤ (F.length : Int) := by rcases e2 with x | x; exact absurd x a4; omega
        clear e2 a4
        go_enter Try.func60, Try.ntmps60
        go_wp2
        go_ret
        exact ⟨⟨rfl, Touch.refl _ _⟩, h⟩
    · have e : putE n b F = 0 := by unfold putE; rw [if_neg e1, if_neg e2]
      rw [e, if_pos rfl]
      have a4' : ¬ 262144 < (b.size : Int) := by omega
      have a5 : ¬ 40 ≤ (F.length : Int) := by omega
      obtain ⟨w1, hr, hf, ht⟩ := files_put h.files h0 h1 hb (by unfold maxLen; omega)
      clear e e1 e2
      go_enter Try.func60, Try.ntmps60
      go_wp2
      go_ret
      exact ⟨⟨rfl, ht⟩, ht.box h.box (by simpa using h.ne), hf, h.ne, h.good_le, h.log_le⟩

set_option maxHeartbeats 1000000 in
theorem sh_cut (n : Int) (w : World) (h : ShelfAt w p m log good F man) :
    Calls Try.prog 58 #[.pointer (some ⟨p, 0, none⟩), .int .i64 n] w fun e w' => (e = .returned (.tuple #[]) ∧ Touch w w' [p]) ∧ ShelfAt w' p m (log.extract 0 (cutN n log.size)) (cutN n log.size) F man := by
  have c0 := h.c0
  have f0 := h.box.free 0
  have hl := h.log_le
  have hc := cutN_le n log.size
  have hcs := Lib.hid (cut_size log _ hc)
  go_enter Try.func58, Try.ntmps58
  go_wp2
  go_region
  change Exit.then _ _ _ _ ((w.setCell ⟨p, 0, none⟩ (.string (log.extract 0 (cutN n log.size)))).drew)
  have hb : BoxAt ((w.setCell ⟨p, 0, none⟩ (.string (log.extract 0 (cutN n log.size)))).drew) p #[.string (log.extract 0 (cutN n log.size)), .int .i64 (good : Int), .map (some m), .string man] 111 := h.box.set 0 _
  have ht : Touch w (((w.setCell ⟨p, 0, none⟩ (.string (log.extract 0 (cutN n log.size)))).setCell ⟨p, 1, none⟩ (.int .i64 (cutN n log.size : Int))).drew) [p] :=
    (((Touch.set (L := [p]) (by simp)).trans (Touch.set (L := [p]) (by simp))).mono (by simp)).drew
  have hs : ShelfAt (((w.setCell ⟨p, 0, none⟩ (.string (log.extract 0 (cutN n log.size)))).setCell ⟨p, 1, none⟩ (.int .i64 (cutN n log.size : Int))).drew) p m (log.extract 0 (cutN n log.size)) (cutN n log.size) F man :=
    h.turn ht ((h.box.set 0 _).set 1 _) (by rw [hcs.out]; exact Nat.le_refl _) (by rw [hcs.out]; omega)
  go_wp2_with (go_at_call 53; go_must (refine (sh_sync0 _ _ (hb.cell 0) (hb.cell 1) (hb.free 1) (by rw [hcs.out]; omega)).mono ?_); rintro e w1 ⟨rfl, rfl⟩)
  all_goals
    go_end0
    exact ⟨⟨rfl, ht⟩, hs⟩

/-- How many bytes a crash leaves. -/
def crashN (n : Int) (good k : Nat) : Nat := good + (max 0 (min n ((k : Int) - good))).toNat
theorem crashN_le (n : Int) {good k : Nat} (h : good ≤ k) : crashN n good k ≤ k := by unfold crashN; omega
theorem crashN_cut (n u : Int) {good k : Nat} (h : good ≤ k) (hu : u = (k : Int) - good) : cutN (good + max 0 (min n u)) k = crashN n good k := by
  subst hu
  unfold crashN cutN
  omega

set_option maxHeartbeats 1000000 in
theorem sh_crash (n : Int) (h0 : -9223372036854775808 ≤ n) (h1 : n ≤ 9223372036854775807) (w : World) (h : ShelfAt w p m log good F man) :
    Calls Try.prog 54 #[.pointer (some ⟨p, 0, none⟩), .int .i64 n] w fun e w' => (e = .returned (.tuple #[]) ∧ Touch w w' [p]) ∧ ShelfAt w' p m (log.extract 0 (crashN n good log.size)) (crashN n good log.size) F man := by
  have c1 := h.c1
  have hl := h.log_le
  have hg := h.good_le
  obtain ⟨u, hu⟩ : ∃ u : Int, u = (log.size : Int) - good := ⟨_, rfl⟩
  have u0 : 0 ≤ u := by omega
  have u1 : u ≤ 262144 := by omega
  have K2 := Lib.hid (crashN_cut n u hg hu)
  have HU := Lib.hid hu
  clear hu
  go_enter Try.func54, Try.ntmps54
  go_wp2
  refine wp_region_tab 11 [(2, fun v _ => v = .pointer (some ⟨p, 0, none⟩)), (7, fun v _ => v = .int .i64 u)] (by kernel_rfl) (by kernel_rfl) (by kernel_rfl) ⟨stays_eq _, stays_eq _, trivial⟩ ?_
  replace c1 := held c1
  refine rg_quiet rfl rfl rfl rfl ?_; intro K hK; go_big_quiet_op; go_big_quiet_on
  refine rg_quiet rfl rfl rfl rfl ?_; intro K hK; go_big_quiet_op; go_big_quiet_on
  refine rg_val [] rfl rfl rfl (by kernel_rfl) (fun w1 hE hf => ?_) ?_
  · go_simp
    exact rg_done hE (Ext.refl w1) rfl
  simp only [Act.put, List.setIfInBounds_toArray, List.set_cons_zero, List.set_cons_succ]
  refine rg_quiet rfl rfl rfl rfl ?_; intro K hK; go_big_quiet_op; go_big_quiet_on
  refine rg_quiet rfl rfl rfl rfl ?_; intro K hK; go_big_quiet_op; go_big_quiet_on
  refine rg_quiet rfl rfl rfl rfl ?_; intro K hK; go_big_quiet_op; go_big_quiet_on
  refine rg_quiet rfl rfl rfl rfl ?_; intro K hK; go_big_quiet_op; go_big_quiet_on
  refine rg_val [] rfl rfl rfl (by kernel_rfl) (fun w1 hE hf => ?_) ?_
  · go_simp
    exact (sh_unsynced w1 (h.ext hE)).mono fun e w' ⟨he, k, hw⟩ => ⟨_, he, rg_done hE (by rw [hw]; exact (Ext.refl w1).drewN k) (by rw [HU.out])⟩
  simp only [Act.put, List.setIfInBounds_toArray, List.set_cons_zero, List.set_cons_succ]
  refine rg_quiet rfl rfl rfl rfl ?_; intro K hK; go_big_quiet_op; go_big_quiet_on
  refine rg_quiet rfl rfl rfl rfl ?_; intro K hK; go_big_quiet_op; go_big_quiet_on
  refine rg_quiet rfl rfl rfl rfl ?_; intro K hK; go_big_quiet_op; go_big_quiet_on
  refine rel_tail rfl rfl fun w1 hE hG => ?_
  clear c1 hG
  go_wp2_with (go_at_call 58; go_must (refine (sh_cut _ _ (h.ext hE)).mono ?_); rintro e w2 ⟨⟨rfl, ht⟩, hs⟩; rw [K2.out] at hs)
  all_goals
    go_end0
    exact ⟨⟨rfl, ((Touch.of_ext hE [p]).trans ht).mono (by simp)⟩, hs⟩

set_option maxHeartbeats 1000000 in
theorem sh_wipe (w : World) (h : ShelfAt w p m log good F man) :
    Calls Try.prog 67 #[.pointer (some ⟨p, 0, none⟩)] w fun e w' => (e = .returned (.tuple #[]) ∧ Touch w w' [p]) ∧ ShelfAt w' p w.heap.size ⟨#[]⟩ 0 [] ⟨#[]⟩ := by
  have hlt := h.box.lt
  have hm := sh_made w
  have hb := h.box.ext (((Ext.refl w).alloc (.map #[] 0)).alloc (.cells #[.string ⟨#[]⟩, .int .i64 0, .map (some w.heap.size), .string ⟨#[]⟩] 111))
  have c0 := hm.c0
  have c1 := hm.c1
  have c2 := hm.c2
  have c3 := hm.c3
  go_enter Try.func67, Try.ntmps67
  go_wp2_with (first | (go_at_call 21; go_must (refine (sh_new _).mono ?_); rintro e w1 ⟨rfl, rfl⟩) | ((guard_target =~ wpList _ _ _ (Oper.mk none (Op.store _ (Operand.tmp 6) (Operand.tmp 5)) _ _ _ _ :: _) _ _); go_must (refine storeBox rfl 111 (.tmp 6) (.tmp 5) rfl (p) _ _ _ (by rfl) (by rfl) (hb) (by kernel_rfl) (by rfl) (by simp [Value.oneCell']) ?_); intro w6 c6 g6))
  go_end0
  have t6 : Touch _ w6 [p] := Touch.of_grown g6 (by simp)
  refine ⟨⟨rfl, ((Touch.of_ext (((Ext.refl w).alloc _).alloc _) [p]).trans t6).mono (by simp)⟩, c6, t6.files hm.files (by simp; omega), by omega, by simp, by simp [ByteArray.size]⟩
end
end Go.Proofs.Ytmjhdfifbjdgpaa

/- clerestoryref05: a shelf by hand; at, Get. -/
namespace Go.Proofs.Ytmjhdfifbjdgpaa
open Go Go.RowKit
attribute [local go_sem] yields yUpon

theorem info_F : (Try.prog.info? 117).map (fun i => (i.zero, i.size, i.bytes)) = some (some (.agg #[.int .i64 0, .string ⟨#[]⟩]), 2, 24) := by kernel_rfl
theorem und_Fs : Try.prog.underlying 52 = some (.slice 117) := by kernel_rfl
/-- The reference's shelf at block q; its files are a row of its own. -/
structure S5At (w : World) (q : Nat) (log : ByteArray) (syn : Nat) (F : Fl) (man : ByteArray) : Prop where
  box : ∃ v, BoxAt w q #[.string log, .int .i64 (syn : Int), v, .string man] 54 ∧ w.ownsRow 0 117 2 v F.length (ncells F)
/-- No row of files lies there. -/
def Other5 (w : World) (k : Nat) : Prop := ∀ cs, ¬ BoxAt w k cs 117
theorem other5_box {w : World} {k : Nat} {cs : Array Value} {T : TypeId} (h : BoxAt w k cs T) (hT : T ≠ 117) : Other5 w k := fun cs' h' => box_ne h h' hT rfl
theorem other5_files {w : World} {k : Nat} {F : Fl} (h : FilesAt w k F) : Other5 w k := fun cs' h' => by
  obtain ⟨⟨es, clock, hb, _⟩, _⟩ := h
  unfold BoxAt at h'
  rw [hb] at h'
  cases h'
theorem S5At.touch {w w' : World} {L : List Nat} (ht : Touch w w' L) {q : Nat} {log : ByteArray} {syn : Nat} {F : Fl} {man : ByteArray} (h : S5At w q log syn F man) (hq : q ∉ L) (hL : ∀ k ∈ L, Other5 w k) : S5At w' q log syn F man := by
  obtain ⟨v, hb, ho⟩ := h.box
  refine ⟨v, ht.box hb hq, ht.owns ho fun k hk hl => ?_⟩
  rcases ho.2 with ⟨rfl, _⟩ | ⟨g, cap, cur, rfl, _, hh, _⟩
  · cases hk
  · cases hk
    exact hL _ hl cur hh
theorem S5At.ext {w w' : World} (hE : Ext w w') {q : Nat} {log : ByteArray} {syn : Nat} {F : Fl} {man : ByteArray} (h : S5At w q log syn F man) : S5At w' q log syn F man := h.touch (Touch.of_ext hE []) (by simp) (by simp)
theorem S5At.notes {w : World} {q : Nat} {log : ByteArray} {syn : Nat} {F : Fl} {man : ByteArray} (h : S5At w q log syn F man) : ∃ v, w.cell? ⟨q, 2, none⟩ = some v ∧ NotesIn w v F := by
  obtain ⟨v, hb, ho⟩ := h.box
  exact ⟨v, hb.cell 2, SliceIn.of_owns ho⟩
/-- The first, second, fourth field turned. -/
theorem S5At.turn {w w' : World} {q : Nat} {log log' : ByteArray} {syn syn' : Nat} {F : Fl} {man man' : ByteArray} (h : S5At w q log syn F man) (ht : Touch w w' [q])
    (hb : ∀ v, BoxAt w q #[.string log, .int .i64 (syn : Int), v, .string man] 54 → BoxAt w' q #[.string log', .int .i64 (syn' : Int), v, .string man'] 54) : S5At w' q log' syn' F man' := by
  obtain ⟨v, hb0, ho⟩ := h.box
  refine ⟨v, hb v hb0, ht.owns ho fun k hk hl => ?_⟩
  rcases ho.2 with ⟨rfl, _⟩ | ⟨g, cap, cur, rfl, _, hh, _⟩
  · cases hk
  · cases hk
    obtain rfl := List.mem_singleton.1 hl
    exact other5_box hb0 (by decide) cur hh
theorem S5At.c0 {w : World} {q : Nat} {log : ByteArray} {syn : Nat} {F : Fl} {man : ByteArray} (h : S5At w q log syn F man) : w.cell? ⟨q, 0, none⟩ = some (.string log) := by obtain ⟨v, hb, _⟩ := h.box; rw [hb.cell]; rfl
theorem S5At.c1 {w : World} {q : Nat} {log : ByteArray} {syn : Nat} {F : Fl} {man : ByteArray} (h : S5At w q log syn F man) : w.cell? ⟨q, 1, none⟩ = some (.int .i64 (syn : Int)) := by obtain ⟨v, hb, _⟩ := h.box; rw [hb.cell]; rfl
theorem S5At.c3 {w : World} {q : Nat} {log : ByteArray} {syn : Nat} {F : Fl} {man : ByteArray} (h : S5At w q log syn F man) : w.cell? ⟨q, 3, none⟩ = some (.string man) := by obtain ⟨v, hb, _⟩ := h.box; rw [hb.cell]; rfl
theorem S5At.free {w : World} {q : Nat} {log : ByteArray} {syn : Nat} {F : Fl} {man : ByteArray} (h : S5At w q log syn F man) (i : Nat) : w.frozen? ⟨q, i, none⟩ = false := by obtain ⟨v, hb, _⟩ := h.box; exact hb.free i

section
variable {q : Nat} {log : ByteArray} {syn : Nat} {F : Fl} {man : ByteArray}
set_option maxRecDepth 100000 in
set_option maxHeartbeats 4000000 in
theorem r5_at (n : Int) (w : World) (h : S5At w q log syn F man) (hr : Rises F) :
    Calls Try.prog 57 #[.pointer (some ⟨q, 0, none⟩), .int .i64 n] w fun e w' => e = .returned (.tuple #[.int .i64 (fat n F : Int), .bool (fhas n F)]) ∧ Ext w w' := by
  obtain ⟨v, c0, hin⟩ := h.notes
  obtain ⟨a, c, rfl, hc, hcm, hget⟩ := hin.get
  have HG := Lib.hid hget
  obtain ⟨m, hm⟩ : ∃ m, m = F.length := ⟨_, rfl⟩
  obtain ⟨t, ht⟩ : ∃ t, t = fat n F := ⟨_, rfl⟩
  have htm : t ≤ m := by rw [ht, hm]; exact fat_le n F
  have HM := Lib.hid hm
  have HT := Lib.hid ht
  rw [← hm] at c0 hc
  rw [← ht]
  have HR := Lib.hid hr
  clear hget hin hm ht hr
  go_enter Try.func57, Try.ntmps57
  go_wp2
  go_loop [6] (fun i => ∃ k : Nat, k ≤ t ∧ i = .int .i64 (k : Int)) (fun i => m - (intOf i).toNat)
  case atStart => exact ⟨0, Nat.zero_le _, rfl⟩
  case round =>
    obtain ⟨k, hk, rfl⟩ := hrel
    by_cases hlt : k < t
    · have hkm : k < F.length := by rw [← HM.out]; omega
      obtain ⟨b, o, rfl, h1, h2⟩ := HG.out k hkm
      have hx := fat_lt (by rw [← HT.out]; exact hlt) hkm
      obtain ⟨x, hxe⟩ : ∃ x, x = (F[k]).1 := ⟨_, rfl⟩
      rw [← hxe] at h1 hx
      clear h2 hxe
      have t1 : decide ((k : Int) < (m : Int)) = true := by simp; omega
      have t2 : decide (x < n) = true := by simpa using hx
      go_wp2
      go_round
      case rel => exact ⟨k + 1, by omega, by go_num⟩
      case measure => simp [intOf]; omega
    · obtain rfl : k = t := by omega
      by_cases hkm : k < m
      · have hkF : k < F.length := by rw [← HM.out]; exact hkm
        obtain ⟨b, o, rfl, h1, h2⟩ := HG.out k hkF
        have hx : ¬ (F[k]).1 < n := by
          have hs := fat_stop (n := n) (F := F) (by rw [← HT.out]; exact hkF)
          simp only [← HT.out] at hs
          exact hs
        have hq : ((F[k]).1 == n) = fhas n F := by
          rw [fhas_at HR.out, ← HT.out, decide_eq_true hkF, List.getD_eq_getElem?_getD, List.getElem?_eq_getElem hkF]; rfl
        obtain ⟨x, hxe⟩ : ∃ x, x = (F[k]).1 := ⟨_, rfl⟩
        rw [← hxe] at h1 hx hq
        clear h2 hxe
        have t1 : decide ((k : Int) < (m : Int)) = true := by simp; omega
        have t2 : decide (x < n) = false := by simpa using hx
        go_wp2_with fail
        go_quiet (fail)
        go_wp2
        go_ret2
        exact ⟨rfl, (Ext.refl w).drewN _⟩
      · obtain rfl : k = m := by omega
        have hq : fhas n F = false := by
          rw [fhas_at HR.out, ← HT.out, decide_eq_false (by rw [← HM.out]; omega)]; rfl
        have hlt' : ¬ k < k := Nat.lt_irrefl k
        go_wp2_with fail
        go_quiet (fail)
        go_wp2
        go_ret2
        exact ⟨by rw [hq]; rfl, (Ext.refl w).drewN _⟩
set_option maxRecDepth 100000 in
set_option maxHeartbeats 4000000 in
theorem r5_get (n : Int) (w : World) (h : S5At w q log syn F man) (hr : Rises F) :
    Calls Try.prog 24 #[.pointer (some ⟨q, 0, none⟩), .int .i64 n] w fun e w' => e = .returned (.tuple #[.string (str (fget n F)), .int .i64 (if fhas n F then 0 else 9)]) ∧ Ext w w' := by
  cases hb : fhas n F
  · have hf := fget_none hb
    go_enter Try.func24, Try.ntmps24
    go_wp2_with (go_at_call 57; go_must (refine (r5_at n w h hr).mono ?_); rintro e w1 ⟨rfl, hE1⟩; rw [hb])
    go_ret2
    exact ⟨by first | (rw [hf]; rfl) | rfl, hE1⟩
  · obtain ⟨hl, he⟩ := fhas_lt hr hb
    have hg := fget_at hr hb
    rw [List.getD_eq_getElem?_getD, List.getElem?_eq_getElem hl] at hg
    obtain ⟨v, c0, hin⟩ := h.notes
    obtain ⟨a, c, rfl, hc, hcm, hget⟩ := hin.get
    obtain ⟨b, o, rfl, h1, h2⟩ := hget _ hl
    obtain ⟨k, hk⟩ : ∃ k, k = fat n F := ⟨_, rfl⟩
    have hg' : str (fget n F) = str (F[fat n F]).2 := congrArg str hg
    rw [← hg', ← hk] at h2
    obtain ⟨bd, hbd⟩ : ∃ bd, bd = str (fget n F) := ⟨_, rfl⟩
    rw [← hbd] at h2 ⊢
    have HK := Lib.hid hk
    obtain ⟨m, hm⟩ : ∃ m, m = F.length := ⟨_, rfl⟩
    rw [← hm] at hc c0
    have hkm : k < m := by rw [hk, hm]; exact hl
    clear h1 hg hg' hbd hm hl he hget hin
    go_enter Try.func24, Try.ntmps24
    go_wp2_with (go_at_call 57; go_must (refine (r5_at n w h hr).mono ?_); rintro e w1 ⟨rfl, hE1⟩; rw [hb, ← HK.out]; clear hk; replace c0 := hE1.cell c0; replace h2 := hE1.cell h2)
    go_ret2
    exact ⟨rfl, hE1⟩


set_option maxHeartbeats 400000 in
theorem r5_append (b : ByteArray) (hb : b.size ≤ 1000000) (hl : log.size ≤ 262144) (w : World) (h : S5At w q log syn F man) :
    Calls Try.prog 68 #[.pointer (some ⟨q, 0, none⟩), .string b] w fun e w' =>
      (e = .returned (.int .i64 (if log.size + b.size ≤ 262144 then 0 else 2)) ∧ Touch w w' [q]) ∧ S5At w' q (if log.size + b.size ≤ 262144 then log ++ b else log) syn F man := by
  have c0 := h.c0
  have f0 := h.free 0
  by_cases hs : log.size + b.size ≤ 262144
  · rw [if_pos hs, if_pos hs]
    have hlt : ¬ (262144 < (log.size : Int) + (b.size : Int)) := by omega
    go_enter Try.func68, Try.ntmps68
    go_wp2
    go_ret
    exact ⟨⟨rfl, Touch.set (by simp)⟩, h.turn (Touch.set (by simp)) fun v hv => hv.set 0 _⟩
  · rw [if_neg hs, if_neg hs]
    have hlt : 262144 < (log.size : Int) + (b.size : Int) := by omega
    go_enter Try.func68, Try.ntmps68
    go_wp2
    go_ret
    exact ⟨⟨rfl, Touch.refl _ _⟩, h⟩

set_option maxHeartbeats 1000000 in
theorem r5_turn (b : ByteArray) (hb : b.size ≤ maxLen) (w : World) (h : S5At w q log syn F man) :
    Calls Try.prog 65 #[.pointer (some ⟨q, 0, none⟩), .string b] w fun e w' =>
      (e = .returned (.int .i64 (if b.size ≤ 262144 then 0 else 2)) ∧ Touch w w' [q]) ∧ S5At w' q (if b.size ≤ 262144 then ⟨#[]⟩ else log) (if b.size ≤ 262144 then 0 else syn) F (if b.size ≤ 262144 then b else man) := by
  have c0 := h.c0
  have c1 := h.c1
  have c3 := h.c3
  have f0 := h.free 0
  have f1 := h.free 1
  have f3 := h.free 3
  unfold maxLen at hb
  by_cases hs : b.size ≤ 262144
  · rw [if_pos hs, if_pos hs, if_pos hs, if_pos hs]
    have hlt : ¬ (262144 < (b.size : Int)) := by omega
    go_enter Try.func65, Try.ntmps65
    go_wp2
    go_ret
    have T : Touch w (((w.setCell ⟨q, 3, none⟩ (.string b)).setCell ⟨q, 0, none⟩ (.string ⟨#[]⟩)).setCell ⟨q, 1, none⟩ (.int .i64 0)) [q] :=
      ((Touch.set (L := [q]) (by simp)).trans ((Touch.set (L := [q]) (by simp)).trans (Touch.set (L := [q]) (by simp)))).mono (by simp)
    exact ⟨⟨rfl, T⟩, h.turn T fun v hv => ((hv.set 3 _).set 0 _).set 1 _⟩
  · rw [if_neg hs, if_neg hs, if_neg hs, if_neg hs]
    have hlt : 262144 < (b.size : Int) := by omega
    go_enter Try.func65, Try.ntmps65
    go_wp2
    go_ret
    exact ⟨⟨rfl, Touch.refl _ _⟩, h⟩
end
end Go.Proofs.Ytmjhdfifbjdgpaa

/- clerestoryref05: Drop, Cut, Crash, Copy. -/
namespace Go.Proofs.Ytmjhdfifbjdgpaa
open Go Go.RowKit
attribute [local go_sem] yields yUpon

section
variable {q : Nat} {log : ByteArray} {syn : Nat} {F : Fl} {man : ByteArray}
set_option maxRecDepth 100000 in
set_option maxHeartbeats 8000000 in
theorem r5_drop (n : Int) (hF : F.length ≤ 1000000) (w : World) (h : S5At w q log syn F man) (hr : Rises F) :
    Calls Try.prog 63 #[.pointer (some ⟨q, 0, none⟩), .int .i64 n] w fun e w' => (e = .returned (.bool (fhas n F)) ∧ Touch w w' [q]) ∧ S5At w' q log syn (fdel n F) man := by
  cases hb : fhas n F
  · rw [fdel_not hb]
    go_enter Try.func63, Try.ntmps63
    go_wp2_with (go_at_call 57; go_must (refine (r5_at n w h hr).mono ?_); rintro e w1 ⟨rfl, hE1⟩; rw [hb])
    go_ret
    exact ⟨⟨rfl, Touch.of_ext hE1 _⟩, h.ext hE1⟩
  · obtain ⟨hl, he⟩ := fhas_lt hr hb
    rw [fdel_at hr hb]
    obtain ⟨k, hk⟩ : ∃ k, k = fat n F := ⟨_, rfl⟩
    rw [← hk] at hl ⊢
    have HK := Lib.hid hk
    clear he hk
    go_enter Try.func63, Try.ntmps63
    go_wp2_with (go_at_call 57; go_must (refine (r5_at n w h hr).mono ?_); rintro e w1 ⟨rfl, hE1⟩; rw [hb, ← HK.out])
    have h1 := h.ext hE1
    obtain ⟨v, hbx, hown⟩ := h1.box
    have hin : NotesIn w1 v F := SliceIn.of_owns hown
    obtain ⟨a, c, rfl, hc, hcm, _⟩ := hin.get
    obtain ⟨m, hm⟩ : ∃ m, m = F.length := ⟨_, rfl⟩
    rw [← hm] at hbx hin hl hc hF
    have c0 : w1.cell? ⟨q, 2, none⟩ = some (.slice a m c) := hbx.cell 2
    obtain ⟨X, hX⟩ : ∃ X, X = ncells (F.take k) := ⟨_, rfl⟩
    obtain ⟨N, hN⟩ : ∃ N, N = ncells (F.drop (k + 1)) := ⟨_, rfl⟩
    have hin1 := notes_take hin (Nat.le_of_lt hl) hm
    have hin2 := notes_drop hin hl hm
    have hXl : X.length = k * 2 := by rw [hX, ncells_length, List.length_take]; omega
    have hNl : N.length = (m - (k + 1)) * 2 := by rw [hN, ncells_length, List.length_drop]; omega
    have hX1 : ∀ u ∈ X, u.oneCell' = true := by rw [hX]; exact ncells_one _
    have hN1 : ∀ u ∈ N, u.oneCell' = true := by rw [hN]; exact ncells_one _
    have hin1' : SliceIn w1 (.slice a k c) k X := by
      have e : (F.take k).length = k := by rw [List.length_take]; omega
      unfold NotesIn at hin1; rw [← hX, e] at hin1; exact hin1
    have hin2' : SliceIn w1 (dropV a m c (k + 1) 2) (m - (k + 1)) N := by
      have e : (F.drop (k + 1)).length = m - (k + 1) := by rw [List.length_drop]; omega
      unfold NotesIn at hin2; rw [← hN, e] at hin2; exact hin2
    have HX := Lib.hid hX
    have HN := Lib.hid hN
    have HM := Lib.hid hm
    clear hX hN hm hin1 hin2 hin hown
    refine wp_region_relE (fun x => Ext w1 x) (NE 117 2 w1.heap.size (fun j => if j = 15 then some (k, X, N) else none))
      (Tab.atE [(2, fun v _ => v = .pointer (some ⟨q, 0, none⟩)), (4, fun v _ => v = .slice a m c), (7, fun v x => x.ownsRow w1.heap.size 117 2 v k X), (9, fun v _ => v = .pointer (some ⟨q, 0, none⟩)), (11, fun v _ => v = .slice a m c), (14, fun v _ => v = dropV a m c (k + 1) 2), (15, fun v x => x.ownsRow w1.heap.size 117 2 v (k + (m - (k + 1))) (X ++ N)), (16, fun v _ => v = .pointer (some ⟨q, 0, none⟩))])
      (Tab.staysE ⟨fun _ _ _ _ _ _ h => h, fun _ _ _ _ _ _ h => h, fun j hj v x y hR h => NE_own hR h (fun k' X' N' hp i u hu h1 h2 => by
          by_cases e : j = 15
          · rw [if_pos e] at hp; cases hp
            have := (List.getElem?_eq_some_iff.1 hu).1
            omega
          · rw [if_neg e] at hp; cases hp), fun _ _ _ _ _ _ h => h, fun _ _ _ _ _ _ h => h, fun _ _ _ _ _ _ h => h, fun j hj v x y hR h => NE_own hR h (fun k' X' N' hp => by
          rw [if_neg hj] at hp; cases hp), fun _ _ _ _ _ _ h => h, trivial⟩)
      18 (by kernel_rfl) (by kernel_rfl) (by kernel_rfl) (Ext.refl w1).drew ?_
    refine relE_quiet rfl rfl rfl rfl ?_; intro K hK; go_big_quiet_op; (first | refine ⟨_, fun _ _ => rfl, hK _ ?_⟩ | refine hK _ ?_); clear hK K
    refine relE_quiet rfl rfl rfl rfl ?_; intro K hK; go_big_quiet_op; (first | refine ⟨_, fun _ _ => rfl, hK _ ?_⟩ | refine hK _ ?_); clear hK K
    refine relE_val [] rfl rfl rfl (by kernel_rfl) (fun y hy hf => ?_) ?_
    · go_simp
      exact ⟨hy, NE_ext rfl (Ext.refl y), rfl⟩
    simp only [Act.put, List.setIfInBounds_toArray, List.set_cons_zero, List.set_cons_succ]
    refine relE_quiet rfl rfl rfl rfl ?_; intro K hK; go_big_quiet_op; (first | refine ⟨_, fun _ _ => rfl, hK _ ?_⟩ | refine hK _ ?_); clear hK K
    refine relE_val [] rfl rfl rfl (by kernel_rfl) (fun y hy hf => ?_) ?_
    · have z0 := hy.cell c0
      go_simp
      exact ⟨hy, NE_ext rfl (Ext.refl y), rfl⟩
    simp only [Act.put, List.setIfInBounds_toArray, List.set_cons_zero, List.set_cons_succ]
    refine relE_quiet rfl rfl rfl rfl ?_; intro K hK; go_big_quiet_op; (first | refine ⟨_, fun _ _ => rfl, hK _ ?_⟩ | refine hK _ ?_); clear hK K
    refine relE_quiet rfl rfl rfl rfl ?_; intro K hK; go_big_quiet_op; (first | refine ⟨_, fun _ _ => rfl, hK _ ?_⟩ | refine hK _ ?_); clear hK K
    refine relE_fact [] rfl rfl rfl (by kernel_rfl) (fun y hy hf => ?_) (fun v7 y7 hC7 hG7 h7 => ?_)
    · refine yields_app info_F und_Fs rfl (by decide) (.const (.slice none 0 0)) (.tmp 20) rfl w1.heap.size hy.le (.slice none 0 0) 0 [] (World.ownsRow_nil _ _ _ _) (by rfl) (SliceIn.ext hy hin1') (by rfl) hXl hX1 (by unfold maxLen; omega) (by omega) ?_
      intro v' y' ho' _ hg'
      have hE' : Ext y y' := (Ext.refl y).grown hg' (fun q hq => by cases hq)
      exact ⟨hy.trans hE', NE_ext rfl hE', by rw [Nat.zero_add, List.nil_append] at ho'; exact ho'⟩
    have h7' := h7
    obtain ⟨a7, c7, rfl⟩ := own_shape h7'
    clear hC7 hG7 h7 h7'
    simp only [Act.put, List.setIfInBounds_toArray, List.set_cons_zero, List.set_cons_succ]
    refine relE_quiet rfl rfl rfl rfl ?_; intro K hK; go_big_quiet_op; (first | refine ⟨_, fun _ _ => rfl, hK _ ?_⟩ | refine hK _ ?_); clear hK K
    refine relE_val [] rfl rfl rfl (by kernel_rfl) (fun y hy hf => ?_) ?_
    · go_simp
      exact ⟨hy, NE_ext rfl (Ext.refl y), rfl⟩
    simp only [Act.put, List.setIfInBounds_toArray, List.set_cons_zero, List.set_cons_succ]
    refine relE_quiet rfl rfl rfl rfl ?_; intro K hK; go_big_quiet_op; (first | refine ⟨_, fun _ _ => rfl, hK _ ?_⟩ | refine hK _ ?_); clear hK K
    refine relE_val [] rfl rfl rfl (by kernel_rfl) (fun y hy hf => ?_) ?_
    · have z0 := hy.cell c0
      go_simp
      exact ⟨hy, NE_ext rfl (Ext.refl y), rfl⟩
    simp only [Act.put, List.setIfInBounds_toArray, List.set_cons_zero, List.set_cons_succ]
    refine relE_quiet rfl rfl rfl rfl ?_; intro K hK; go_big_quiet_op; (first | refine ⟨_, fun _ _ => rfl, hK _ ?_⟩ | refine hK _ ?_); clear hK K
    refine relE_quiet rfl rfl rfl rfl ?_; intro K hK; go_big_quiet_op; (first | refine ⟨_, fun _ _ => rfl, hK _ ?_⟩ | refine hK _ ?_); clear hK K
    refine relE_val [] rfl rfl rfl (by kernel_rfl) (fun y hy hf => ?_) ?_
    · exact yields_from und_Fs (size := 2) (by kernel_rfl) (.tmp 25) (.tmp 27) rfl rfl (by rfl) hl ⟨hy, NE_ext rfl (Ext.refl y), rfl⟩
    simp only [Act.put, List.setIfInBounds_toArray, List.set_cons_zero, List.set_cons_succ]
    refine relE_fact [7] rfl rfl rfl (by kernel_rfl) (fun y hy hf => ?_) (fun v15 y15 hC15 hG15 h15 => ?_)
    · have h7 := (hf 7 (by simp)).2 rfl
      refine yields_app info_F und_Fs rfl (by decide) (.tmp 21) (.tmp 28) rfl w1.heap.size hy.le _ k X h7 (by rfl) (SliceIn.ext hy hin2') (by rfl) hNl hN1 (by unfold maxLen; omega) (by omega) ?_
      intro v' y' ho' hA hg'
      exact ⟨hA.to (Nat.le_refl _) hy, NE_app rfl hA, ho'⟩
    have h15' := h15
    obtain ⟨a15, c15, rfl⟩ := own_shape h15'
    clear hC15 hG15 h15 h15'
    simp only [Act.put, List.setIfInBounds_toArray, List.set_cons_zero, List.set_cons_succ]
    refine relE_val [] rfl rfl rfl (by kernel_rfl) (fun y hy hf => ?_) ?_
    · go_simp
      exact ⟨hy, NE_ext rfl (Ext.refl y), rfl⟩
    simp only [Act.put, List.setIfInBounds_toArray, List.set_cons_zero, List.set_cons_succ]
    refine relE_quiet rfl rfl rfl rfl ?_; intro K hK; go_big_quiet_op; (first | refine ⟨_, fun _ _ => rfl, hK _ ?_⟩ | refine hK _ ?_); clear hK K
    refine relE_tail rfl rfl fun w8 hE8 hG => ?_
    have h15 := (hG 15).2 rfl
    have hb8 := BoxAt.ext hE8 hbx
    have z0 : w8.cell? ⟨q, 2, none⟩ = some (.slice a m c) := hb8.cell 2
    have zf := hb8.free 2
    clear hG
    go_wp2
    go_ret
    have hqs := hbx.lt
    have T : Touch w (w8.setCell ⟨q, 2, none⟩ (.slice a15 (k + (m - (k + 1))) c15)) [q] := ((Touch.of_ext (hE1.trans hE8) [q]).trans (Touch.set (L := [q]) (by simp))).mono (by simp)
    refine ⟨⟨rfl, T⟩, ⟨_, hb8.set 2 _, ?_⟩⟩
    have ho := ownsRow_setCell_below h15 (a := ⟨q, 2, none⟩) hqs (.slice a15 (k + (m - (k + 1))) c15)
    have el : (F.take k ++ F.drop (k + 1)).length = k + (m - (k + 1)) := by simp [← HM.out]; omega
    have ec : ncells (F.take k ++ F.drop (k + 1)) = X ++ N := by rw [ncells_append, HX.out, HN.out]
    rw [el, ec]
    exact own_mono (Nat.zero_le _) ho

theorem cut_min (n : Int) (k : Nat) : min (max n 0) (k : Int) = (cutN n k : Int) := by unfold cutN; omega
set_option maxHeartbeats 2000000 in
theorem r5_cut (n : Int) (hl : log.size ≤ 262144) (w : World) (h : S5At w q log syn F man) :
    Calls Try.prog 59 #[.pointer (some ⟨q, 0, none⟩), .int .i64 n] w fun e w' => (e = .returned (.tuple #[]) ∧ Touch w w' [q]) ∧ S5At w' q (log.extract 0 (cutN n log.size)) (cutN n log.size) F man := by
  have c0 := h.c0
  have f0 := h.free 0
  have hc := cutN_le n log.size
  have hcs := cut_size log _ hc
  have hm := cut_min n log.size
  obtain ⟨K, hK⟩ : ∃ K, K = cutN n log.size := ⟨_, rfl⟩
  rw [← hK] at hc hcs hm ⊢
  clear hK
  go_enter Try.func59, Try.ntmps59
  go_wp2
  refine wp_region_tab 16 [(2, fun v _ => v = .pointer (some ⟨q, 0, none⟩)), (8, fun v _ => v = .pointer (some ⟨q, 0, none⟩)), (14, fun v _ => v = .pointer (some ⟨q, 0, none⟩))] (by kernel_rfl) (by kernel_rfl) (by kernel_rfl) ⟨stays_eq _, stays_eq _, stays_eq _, trivial⟩ ?_
  replace c0 := held c0
  refine rg_quiet rfl rfl rfl rfl ?_; intro K hK; go_big_quiet_op; go_big_quiet_on
  refine rg_quiet rfl rfl rfl rfl ?_; intro K hK; go_big_quiet_op; go_big_quiet_on
  refine rg_val [] rfl rfl rfl (by kernel_rfl) (fun w1 hE hf => ?_) ?_
  · go_simp
    exact rg_done hE (Ext.refl w1) rfl
  simp only [Act.put, List.setIfInBounds_toArray, List.set_cons_zero, List.set_cons_succ]
  refine rg_quiet rfl rfl rfl rfl ?_; intro K hK; go_big_quiet_op; go_big_quiet_on
  refine rg_quiet rfl rfl rfl rfl ?_; intro K hK; go_big_quiet_op; go_big_quiet_on
  refine rg_quiet rfl rfl rfl rfl ?_; intro K hK; go_big_quiet_op; go_big_quiet_on
  refine rg_quiet rfl rfl rfl rfl ?_; intro K hK; go_big_quiet_op; go_big_quiet_on
  refine rg_quiet rfl rfl rfl rfl ?_; intro K hK; go_big_quiet_op; go_big_quiet_on
  refine rg_val [] rfl rfl rfl (by kernel_rfl) (fun w1 hE hf => ?_) ?_
  · go_simp
    exact rg_done hE (Ext.refl w1) rfl
  simp only [Act.put, List.setIfInBounds_toArray, List.set_cons_zero, List.set_cons_succ]
  refine rg_quiet rfl rfl rfl rfl ?_; intro K hK; go_big_quiet_op; go_big_quiet_on
  refine rg_quiet rfl rfl rfl rfl ?_; intro K hK; go_big_quiet_op; go_big_quiet_on
  refine rg_quiet rfl rfl rfl rfl ?_; intro K hK; go_big_quiet_op; go_big_quiet_on
  refine rg_quiet rfl rfl rfl rfl ?_; intro K hK; go_big_quiet_op; go_big_quiet_on
  refine rg_quiet rfl rfl rfl rfl ?_; intro K hK; go_big_quiet_op; go_big_quiet_on
  refine rg_val [] rfl rfl rfl (by kernel_rfl) (fun w1 hE hf => ?_) ?_
  · go_simp
    exact rg_done hE (Ext.refl w1) rfl
  simp only [Act.put, List.setIfInBounds_toArray, List.set_cons_zero, List.set_cons_succ]
  refine rg_quiet rfl rfl rfl rfl ?_; intro K hK; go_big_quiet_op; go_big_quiet_on
  refine rel_tail rfl rfl fun w1 hE hG => ?_
  clear c0 hG
  have h1 := h.ext hE
  have c0 := h1.c0
  have f0 := h1.free 0
  have f1 := h1.free 1
  have c1 := h1.c1
  have T : Touch w ((w1.setCell ⟨q, 0, none⟩ (.string (log.extract 0 K))).setCell ⟨q, 1, none⟩ (.int .i64 (K : Int))) [q] :=
    ((Touch.of_ext hE [q]).trans ((Touch.set (L := [q]) (by simp)).trans (Touch.set (L := [q]) (by simp)))).mono (by simp)
  have hs : S5At ((w1.setCell ⟨q, 0, none⟩ (.string (log.extract 0 K))).setCell ⟨q, 1, none⟩ (.int .i64 (K : Int))) q (log.extract 0 K) K F man :=
    h1.turn (((Touch.set (L := [q]) (by simp)).trans (Touch.set (L := [q]) (by simp))).mono (by simp)) fun v hv => (hv.set 0 _).set 1 _
  go_wp2
  go_end0
  exact ⟨⟨rfl, T⟩, hs⟩

set_option maxHeartbeats 2000000 in
theorem r5_crash (n : Int) (hl : log.size ≤ 262144) (hg : syn ≤ log.size) (w : World) (h : S5At w q log syn F man) :
    Calls Try.prog 66 #[.pointer (some ⟨q, 0, none⟩), .int .i64 n] w fun e w' => (e = .returned (.tuple #[]) ∧ Touch w w' [q]) ∧ S5At w' q (log.extract 0 (crashN n syn log.size)) (crashN n syn log.size) F man := by
  have c0 := h.c0
  have c1 := h.c1
  obtain ⟨U, hU⟩ : ∃ U : Nat, (U : Int) = (log.size : Int) - (syn : Int) := ⟨log.size - syn, by omega⟩
  obtain ⟨V, hV⟩ : ∃ V : Nat, (V : Int) = min (max n 0) (U : Int) := ⟨(min (max n 0) (U : Int)).toNat, by omega⟩
  obtain ⟨C, hC⟩ : ∃ C, C = crashN n syn log.size := ⟨_, rfl⟩
  have hadd : (syn : Int) + (V : Int) = (C : Int) := by rw [hC]; unfold crashN; omega
  have hcut : Hid (cutN (C : Int) log.size = C) := Lib.hid (by have := crashN_le n hg; rw [← hC] at this; unfold cutN; omega)
  have hCl : C ≤ 262144 := by have := crashN_le n hg; omega
  rw [← hC]
  have hU' := hU.symm
  have hV' := hV.symm
  have hVl : V ≤ 262144 := by omega
  clear hU hV hC
  go_enter Try.func66, Try.ntmps66
  go_wp2
  refine wp_region_tab 19 [(2, fun v _ => v = .pointer (some ⟨q, 0, none⟩)), (8, fun v _ => v = .pointer (some ⟨q, 0, none⟩)), (13, fun v _ => v = .pointer (some ⟨q, 0, none⟩))] (by kernel_rfl) (by kernel_rfl) (by kernel_rfl) ⟨stays_eq _, stays_eq _, stays_eq _, trivial⟩ ?_
  replace c0 := held c0
  replace c1 := held c1
  refine rg_quiet rfl rfl rfl rfl ?_; intro K hK; go_big_quiet_op; go_big_quiet_on
  refine rg_quiet rfl rfl rfl rfl ?_; intro K hK; go_big_quiet_op; go_big_quiet_on
  refine rg_val [] rfl rfl rfl (by kernel_rfl) (fun w1 hE hf => ?_) ?_
  · go_simp
    exact rg_done hE (Ext.refl w1) rfl
  simp only [Act.put, List.setIfInBounds_toArray, List.set_cons_zero, List.set_cons_succ]
  refine rg_quiet rfl rfl rfl rfl ?_; intro K hK; go_big_quiet_op; go_big_quiet_on
  refine rg_quiet rfl rfl rfl rfl ?_; intro K hK; go_big_quiet_op; go_big_quiet_on
  refine rg_quiet rfl rfl rfl rfl ?_; intro K hK; go_big_quiet_op; go_big_quiet_on
  refine rg_quiet rfl rfl rfl rfl ?_; intro K hK; go_big_quiet_op; go_big_quiet_on
  refine rg_quiet rfl rfl rfl rfl ?_; intro K hK; go_big_quiet_op; go_big_quiet_on
  refine rg_val [] rfl rfl rfl (by kernel_rfl) (fun w1 hE hf => ?_) ?_
  · go_simp
    exact rg_done hE (Ext.refl w1) rfl
  simp only [Act.put, List.setIfInBounds_toArray, List.set_cons_zero, List.set_cons_succ]
  refine rg_quiet rfl rfl rfl rfl ?_; intro K hK; go_big_quiet_op; go_big_quiet_on
  refine rg_quiet rfl rfl rfl rfl ?_; intro K hK; go_big_quiet_op; go_big_quiet_on
  refine rg_quiet rfl rfl rfl rfl ?_; intro K hK; go_big_quiet_op; go_big_quiet_on
  refine rg_quiet rfl rfl rfl rfl ?_; intro K hK; go_big_quiet_op; go_big_quiet_on
  refine rg_val [] rfl rfl rfl (by kernel_rfl) (fun w1 hE hf => ?_) ?_
  · go_simp
    exact rg_done hE (Ext.refl w1) rfl
  simp only [Act.put, List.setIfInBounds_toArray, List.set_cons_zero, List.set_cons_succ]
  refine rg_quiet rfl rfl rfl rfl ?_; intro K hK; go_big_quiet_op; go_big_quiet_on
  refine rg_quiet rfl rfl rfl rfl ?_; intro K hK; go_big_quiet_op; go_big_quiet_on
  refine rg_quiet rfl rfl rfl rfl ?_; intro K hK; go_big_quiet_op; go_big_quiet_on
  refine rg_quiet rfl rfl rfl rfl ?_; intro K hK; go_big_quiet_op; go_big_quiet_on
  refine rg_quiet rfl rfl rfl rfl ?_; intro K hK; go_big_quiet_op; go_big_quiet_on
  refine rel_tail rfl rfl fun w1 hE hG => ?_
  clear c0 c1 hG
  go_wp2_with (go_at_call 59; go_must (refine (r5_cut (C : Int) hl _ (h.ext hE)).mono ?_); rintro e w2 ⟨⟨rfl, ht⟩, hs⟩; rw [hcut.out] at hs)
  go_end0
  exact ⟨⟨rfl, ((Touch.of_ext hE [q]).trans ht).mono (by simp)⟩, hs⟩

set_option maxHeartbeats 2000000 in
theorem r5_copy (hF : F.length ≤ 1000000) (w : World) (h : S5At w q log syn F man) :
    Calls Try.prog 28 #[.pointer (some ⟨q, 0, none⟩)] w fun e w' => ∃ q', (e = .returned (.pointer (some ⟨q', 0, none⟩)) ∧ w.heap.size ≤ q') ∧ Ext w w' ∧ S5At w' q' log syn F man := by
  have c0 := h.c0
  have c1 := h.c1
  have c3 := h.c3
  obtain ⟨v, c2, hin⟩ := h.notes
  obtain ⟨a, c, rfl, hc, hcm, _⟩ := hin.get
  have hone := ncells_one F
  have hfl := ncells_length F
  obtain ⟨m, hm⟩ : ∃ m, m = F.length := ⟨_, rfl⟩
  have hin' : SliceIn w (.slice a m c) m (ncells F) := by rw [hm]; exact hin
  rw [← hm] at c2 hc hF hfl
  have HM := Lib.hid hm
  clear hm hin
  go_enter Try.func28, Try.ntmps28
  go_wp2
  refine wp_region_tab 18 [(1, fun v _ => v = .pointer (some ⟨q, 0, none⟩)), (5, fun v _ => v = .pointer (some ⟨q, 0, none⟩)), (9, fun v _ => v = .pointer (some ⟨q, 0, none⟩)), (12, fun v x => x.ownsRow w.heap.size 117 2 v m (ncells F)), (14, fun v _ => v = .pointer (some ⟨q, 0, none⟩))] (by kernel_rfl) (by kernel_rfl) (by kernel_rfl) ⟨stays_eq _, stays_eq _, stays_eq _, fun _ _ _ hE h => ownsRow_ext h hE, stays_eq _, trivial⟩ ?_
  replace c0 := held c0
  replace c1 := held c1
  replace c2 := held c2
  replace c3 := held c3
  refine rg_quiet rfl rfl rfl rfl ?_; intro K hK; go_big_quiet_op; go_big_quiet_on
  refine rg_val [] rfl rfl rfl (by kernel_rfl) (fun w1 hE hf => ?_) ?_
  · go_simp
    exact rg_done hE (Ext.refl w1) rfl
  simp only [Act.put, List.setIfInBounds_toArray, List.set_cons_zero, List.set_cons_succ]
  refine rg_quiet rfl rfl rfl rfl ?_; intro K hK; go_big_quiet_op; go_big_quiet_on
  refine rg_quiet rfl rfl rfl rfl ?_; intro K hK; go_big_quiet_op; go_big_quiet_on
  refine rg_quiet rfl rfl rfl rfl ?_; intro K hK; go_big_quiet_op; go_big_quiet_on
  refine rg_val [] rfl rfl rfl (by kernel_rfl) (fun w1 hE hf => ?_) ?_
  · go_simp
    exact rg_done hE (Ext.refl w1) rfl
  simp only [Act.put, List.setIfInBounds_toArray, List.set_cons_zero, List.set_cons_succ]
  refine rg_quiet rfl rfl rfl rfl ?_; intro K hK; go_big_quiet_op; go_big_quiet_on
  refine rg_quiet rfl rfl rfl rfl ?_; intro K hK; go_big_quiet_op; go_big_quiet_on
  refine rg_quiet rfl rfl rfl rfl ?_; intro K hK; go_big_quiet_op; go_big_quiet_on
  refine rg_val [] rfl rfl rfl (by kernel_rfl) (fun w1 hE hf => ?_) ?_
  · go_simp
    exact rg_done hE (Ext.refl w1) rfl
  simp only [Act.put, List.setIfInBounds_toArray, List.set_cons_zero, List.set_cons_succ]
  refine rg_quiet rfl rfl rfl rfl ?_; intro K hK; go_big_quiet_op; go_big_quiet_on
  refine rg_quiet rfl rfl rfl rfl ?_; intro K hK; go_big_quiet_op; go_big_quiet_on
  refine rg_fact [] rfl rfl rfl (by kernel_rfl) (fun y hE hf => ?_) (fun v12 y12 hE12 hG12 h12 => ?_)
  · refine yields_app info_F und_Fs rfl (by decide) (.const (.slice none 0 0)) (.tmp 14) rfl w.heap.size hE.le (.slice none 0 0) 0 [] (World.ownsRow_nil _ _ _ _) (by rfl) (SliceIn.ext hE hin') (by rfl) hfl hone (by unfold maxLen; omega) (by omega) ?_
    intro v' y' ho' _ hg'
    have hE' : Ext y y' := (Ext.refl y).grown hg' (fun q hq => by cases hq)
    exact rg_doneR hE hE' (by rw [Nat.zero_add, List.nil_append] at ho'; exact ho')
  have h12' := h12
  obtain ⟨a12, c12, rfl⟩ := own_shape h12'
  clear hE12 hG12 h12 h12'
  simp only [Act.put, List.setIfInBounds_toArray, List.set_cons_zero, List.set_cons_succ]
  refine rg_quiet rfl rfl rfl rfl ?_; intro K hK; go_big_quiet_op; go_big_quiet_on
  refine rg_val [] rfl rfl rfl (by kernel_rfl) (fun w1 hE hf => ?_) ?_
  · go_simp
    exact rg_done hE (Ext.refl w1) rfl
  simp only [Act.put, List.setIfInBounds_toArray, List.set_cons_zero, List.set_cons_succ]
  refine rg_quiet rfl rfl rfl rfl ?_; intro K hK; go_big_quiet_op; go_big_quiet_on
  refine rg_quiet rfl rfl rfl rfl ?_; intro K hK; go_big_quiet_op; go_big_quiet_on
  refine rg_quiet rfl rfl rfl rfl ?_; intro K hK; go_big_quiet_op; go_big_quiet_on
  refine rel_tail rfl rfl fun w8 hE8 hG => ?_
  have h12 := (hG 12).2 rfl
  clear c0 c1 c2 c3 hG
  go_wp2
  go_ret
  refine ⟨_, ⟨rfl, hE8.le⟩, hE8.alloc _, ⟨_, BoxAt.made w8 _ _, ?_⟩⟩
  rw [← HM.out]
  exact own_mono (Nat.zero_le _) (h12.alloc _)
end
end Go.Proofs.Ytmjhdfifbjdgpaa
