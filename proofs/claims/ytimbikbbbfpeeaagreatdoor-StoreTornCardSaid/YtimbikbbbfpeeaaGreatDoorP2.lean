/- Bodies by numbers: a map of the program as a list that rises. -/
import Derived.Maps.OwnSet
import Derived.Maps.RangeWalk
import Derived.Maps.StringElems
import Derived.Test.YtimbikbbbfpeeaaGreatDoorP1
import Derived.Test.YtimbikbbbfpeeaaGreatDoorProg
import Derived.WideAt
import Derived.WideShapes
import Derived.Sort.KeysCollected
set_option linter.unusedSimpArgs false
set_option linter.unusedVariables false
namespace Go.Proofs.YtimbikbbbfpeeaaGreatDoor
open Go

abbrev Fl := List (Int × List UInt8)
def fD {H : Type} (F : Fl) : DataW H := .map (F.map fun p => (Lit.int .i64 p.1, DataW.lit (.string p.2)))
def Rises (F : Fl) : Prop := F.Pairwise fun p q => p.1 < q.1
def fhas (n : Int) (F : Fl) : Bool := F.any fun p => p.1 == n
def fget (n : Int) (F : Fl) : List UInt8 := ((F.find? fun p => p.1 == n).map (·.2)).getD []
def fdel (n : Int) (F : Fl) : Fl := F.filter fun p => !(p.1 == n)
def fput (n : Int) (b : List UInt8) : Fl → Fl
  | [] => [(n, b)]
  | p :: l => if p.1 < n then p :: fput n b l else if p.1 == n then (n, b) :: l else (n, b) :: p :: l

theorem sameKey_int (a b : Int) : (Lit.int .i64 a).sameKey (.int .i64 b) = (a == b) := by
  by_cases h : a = b
  · subst h; simp [Lit.sameKey]
  · simp [Lit.sameKey, h]
theorem before_int (a b : Int) : (Lit.int .i64 a).before (.int .i64 b) = decide (a < b) := rfl
theorem fD_has {H : Type} (F : Fl) (n : Int) : Maps.has (fD F : DataW H) (.int .i64 n) = fhas n F := by
  simp [Maps.has, fD, fhas, sameKey_int, Function.comp_def]
theorem fD_at {H : Type} (F : Fl) (n : Int) : (fD F : DataW H).atKey (.int .i64 n) (.lit (.string [])) = .lit (.string (fget n F)) := by
  simp only [fD, DataW.atKey, fget, List.find?_map, Function.comp_def, sameKey_int]
  cases F.find? fun p => p.1 == n <;> rfl
theorem fD_size {H : Type} (F : Fl) : Maps.size (fD F : DataW H) = F.length := by simp [Maps.size, fD]
theorem fD_del {H : Type} (F : Fl) (n : Int) : (fD F : DataW H).del (.int .i64 n) = fD (fdel n F) := by
  simp [fD, DataW.del, fdel, List.filter_map, Function.comp_def, sameKey_int]
theorem Rises.tail {p : Int × List UInt8} {F : Fl} (h : Rises (p :: F)) : Rises F := (List.pairwise_cons.1 h).2
theorem Rises.head {p : Int × List UInt8} {F : Fl} (h : Rises (p :: F)) : ∀ q ∈ F, p.1 < q.1 := (List.pairwise_cons.1 h).1
theorem fdel_above {n : Int} {F : Fl} (h : ∀ q ∈ F, n < q.1) : fdel n F = F := by
  unfold fdel
  rw [List.filter_eq_self]
  intro q hq
  have := h q hq
  simp; omega
theorem fD_put {H : Type} (n : Int) (b : List UInt8) : ∀ (F : Fl), Rises F → (fD F : DataW H).put (.int .i64 n) (.lit (.string b)) = fD (fput n b F) := by
  intro F hF
  have key : ∀ F : Fl, Rises F → DataW.insert (H := H) (.int .i64 n, .lit (.string b)) ((fdel n F).map fun p => (Lit.int .i64 p.1, DataW.lit (.string p.2))) = (fput n b F).map fun p => (Lit.int .i64 p.1, DataW.lit (.string p.2)) := by
    intro F
    induction F with
    | nil => intro _; rfl
    | cons p l ih =>
      intro h
      have ih := ih h.tail
      by_cases h1 : p.1 < n
      · have e : fdel n (p :: l) = p :: fdel n l := by simp only [fdel, List.filter_cons]; rw [if_pos (by simp; omega)]
        rw [e, fput, if_pos h1, List.map_cons, List.map_cons, DataW.insert, if_neg (by simp only [before_int]; simp; omega), ih]
      · by_cases h2 : p.1 = n
        · have e : fdel n (p :: l) = l := by
            simp only [fdel, List.filter_cons]; rw [if_neg (by simp [h2])]
            exact fdel_above (fun q hq => by have := h.head q hq; omega)
          rw [e, fput, if_neg h1, if_pos (by simp [h2]), List.map_cons]
          cases l with
          | nil => rfl
          | cons q m => rw [List.map_cons, DataW.insert, if_pos (by have := h.head q (by simp); simp only [before_int]; simp; omega)]
        · have e : fdel n (p :: l) = p :: l := fdel_above (fun q hq => by
            rcases List.mem_cons.1 hq with rfl | hq
            · omega
            · have := h.head q hq; omega)
          rw [e, fput, if_neg h1, if_neg (by simp [h2]), List.map_cons, List.map_cons, DataW.insert, if_pos (by simp only [before_int]; simp; omega)]
          rfl
  have := key F hF
  simp only [fD, DataW.put, DataW.map.injEq]
  rw [← this]
  congr 1
  simp [fdel, List.filter_map, Function.comp_def, sameKey_int]
theorem fput_mem {n : Int} {b : List UInt8} : ∀ {F : Fl} {q : Int × List UInt8}, q ∈ fput n b F → q = (n, b) ∨ q ∈ F
  | [], q, h => by simp [fput] at h; exact .inl h
  | p :: l, q, h => by
    simp only [fput] at h
    split at h
    · rcases List.mem_cons.1 h with rfl | h
      · exact .inr (by simp)
      · exact (fput_mem h).imp id (by intro h; simp [h])
    · split at h
      · rcases List.mem_cons.1 h with rfl | h
        · exact .inl rfl
        · exact .inr (by simp [h])
      · rcases List.mem_cons.1 h with rfl | h
        · exact .inl rfl
        · exact .inr h
theorem fput_rises {n : Int} {b : List UInt8} : ∀ {F : Fl}, Rises F → Rises (fput n b F)
  | [], _ => by simp [fput, Rises]
  | p :: l, h => by
    simp only [fput]
    split
    · rename_i h1
      refine List.pairwise_cons.2 ⟨fun q hq => ?_, fput_rises h.tail⟩
      rcases fput_mem hq with rfl | hq
      · exact h1
      · exact h.head q hq
    · split
      · rename_i h1 h2
        simp only [beq_iff_eq] at h2
        exact List.pairwise_cons.2 ⟨fun q hq => by have := h.head q hq; simp; omega, h.tail⟩
      · rename_i h1 h2
        simp only [beq_iff_eq] at h2
        refine List.pairwise_cons.2 ⟨fun q hq => ?_, h⟩
        rcases List.mem_cons.1 hq with rfl | hq
        · simp; omega
        · have := h.head q hq; simp; omega
theorem fdel_rises {n : Int} {F : Fl} (h : Rises F) : Rises (fdel n F) := List.Pairwise.filter _ h
theorem fput_length {n : Int} {b : List UInt8} : ∀ {F : Fl}, Rises F → (fput n b F).length = if fhas n F then F.length else F.length + 1
  | [], _ => by simp [fput, fhas]
  | p :: l, h => by
    simp only [fput]
    have ih := fput_length (n := n) (b := b) h.tail
    split
    · rename_i h1
      have : fhas n (p :: l) = fhas n l := by simp only [fhas, List.any_cons]; rw [show (p.1 == n) = false by simp; omega]; rfl
      rw [this, List.length_cons, ih]; split <;> simp
    · split
      · rename_i h1 h2; simp [fhas, h2]
      · rename_i h1 h2
        simp only [beq_iff_eq] at h2
        have : fhas n (p :: l) = false := by
          simp only [fhas, List.any_eq_false, beq_iff_eq]
          intro q hq
          rcases List.mem_cons.1 hq with rfl | hq
          · exact h2
          · have := h.head q hq; omega
        rw [this]; simp
theorem fdel_not {n : Int} {F : Fl} (h : fhas n F = false) : fdel n F = F := by
  unfold fdel
  rw [List.filter_eq_self]
  simp only [fhas, List.any_eq_false] at h
  intro q hq
  have := h q hq
  simpa using this
theorem fhas_put {n m : Int} {b : List UInt8} : ∀ {F : Fl}, fhas m (fput n b F) = ((n == m) || fhas m F)
  | [] => by simp [fput, fhas]
  | p :: l => by
    have ih := fhas_put (n := n) (m := m) (b := b) (F := l)
    simp only [fput]
    split
    · simp only [fhas, List.any_cons] at ih ⊢
      rw [ih]
      cases (p.1 == m) <;> cases (n == m) <;> rfl
    · split
      · rename_i h1 h2
        simp only [beq_iff_eq] at h2
        simp only [fhas, List.any_cons, h2]
        cases (n == m) <;> rfl
      · simp [fhas]
theorem fget_put {n m : Int} {b : List UInt8} : ∀ {F : Fl}, Rises F → fget m (fput n b F) = if n = m then b else fget m F
  | [], _ => by
    by_cases h : n = m
    · simp [fput, fget, h]
    · simp [fput, fget, h]
  | p :: l, h => by
    have ih := fget_put (n := n) (m := m) (b := b) h.tail
    simp only [fput]
    split
    · rename_i h1
      simp only [fget, List.find?_cons] at ih ⊢
      by_cases hpm : p.1 = m
      · rw [show (p.1 == m) = true by simpa using hpm, if_neg (by omega)]
      · rw [show (p.1 == m) = false by simpa using hpm]
        exact ih
    · split
      · rename_i h1 h2
        simp only [beq_iff_eq] at h2
        by_cases hnm : n = m
        · simp [fget, hnm]
        · simp [fget, hnm, h2]
      · by_cases hnm : n = m
        · simp [fget, hnm]
        · simp [fget, hnm]
theorem fhas_del {n m : Int} {F : Fl} : fhas m (fdel n F) = (fhas m F && !(n == m)) := by
  induction F with
  | nil => simp [fdel, fhas]
  | cons p l ih =>
    simp only [fdel, List.filter_cons, fhas, List.any_cons] at ih ⊢
    by_cases h : p.1 = n
    · rw [show (p.1 == n) = true by simpa using h]
      simp only [Bool.not_true, Bool.false_eq_true, if_false, ih]
      by_cases hm : n = m
      · simp [hm]
      · rw [show (p.1 == m) = false by simp; omega]; rfl
    · rw [show (p.1 == n) = false by simpa using h]
      simp only [Bool.not_false, if_true, List.any_cons, ih]
      by_cases hpm : p.1 = m
      · have : n ≠ m := fun hx => h (by omega)
        simp [hpm, this]
      · rw [show (p.1 == m) = false by simpa using hpm]; rfl
theorem fget_del {n m : Int} {F : Fl} : fget m (fdel n F) = if n = m then [] else fget m F := by
  induction F with
  | nil => simp [fdel, fget]
  | cons p l ih =>
    simp only [fdel, List.filter_cons, fget] at ih ⊢
    by_cases h : p.1 = n
    · rw [show (p.1 == n) = true by simpa using h]
      simp only [Bool.not_true, Bool.false_eq_true, if_false, ih, List.find?_cons]
      by_cases hm : n = m
      · simp [hm]
      · rw [show (p.1 == m) = false by simp; omega]
    · rw [show (p.1 == n) = false by simpa using h]
      simp only [Bool.not_false, if_true, List.find?_cons]
      by_cases hpm : p.1 = m
      · rw [show (p.1 == m) = true by simpa using hpm, if_neg (by omega)]
      · rw [show (p.1 == m) = false by simpa using hpm]
        exact ih
theorem fdel_length {n : Int} {F : Fl} (h : Rises F) : (fdel n F).length = if fhas n F then F.length - 1 else F.length := by
  induction F with
  | nil => simp [fdel, fhas]
  | cons p l ih =>
    have ih := ih h.tail
    by_cases hp : p.1 = n
    · have e : fdel n (p :: l) = l := by
        simp only [fdel, List.filter_cons]; rw [if_neg (by simp [hp])]
        exact fdel_above (fun q hq => by have := h.head q hq; omega)
      rw [e, if_pos (by simp [fhas, hp])]; rfl
    · have e : fdel n (p :: l) = p :: fdel n l := by simp only [fdel, List.filter_cons]; rw [if_pos (by simpa using hp)]
      have e2 : fhas n (p :: l) = fhas n l := by simp only [fhas, List.any_cons]; rw [show (p.1 == n) = false by simpa using hp]; rfl
      rw [e, e2, List.length_cons, ih]
      split
      · rename_i hh
        have : l ≠ [] := fun hx => by rw [hx] at hh; cases hh
        have : 0 < l.length := by cases l <;> simp_all
        simp; omega
      · rfl

/-! ### As the reference has it: the place where a number stands, or would -/
def fat (n : Int) : Fl → Nat
  | [] => 0
  | p :: l => if p.1 < n then fat n l + 1 else 0
theorem fat_le (n : Int) : ∀ F : Fl, fat n F ≤ F.length
  | [] => Nat.le_refl _
  | p :: l => by have := fat_le n l; simp only [fat]; split <;> simp <;> omega
theorem fput_at {n : Int} {b : List UInt8} : ∀ {F : Fl}, fhas n F = false → fput n b F = F.take (fat n F) ++ (n, b) :: F.drop (fat n F)
  | [], _ => rfl
  | p :: l, h => by
    simp only [fhas, List.any_cons, Bool.or_eq_false_iff, beq_eq_false_iff_ne] at h
    simp only [fput, fat]
    split
    · rw [fput_at h.2]; rfl
    · rw [if_neg (by simpa using h.1)]; rfl
theorem fput_at_has {n : Int} {b : List UInt8} : ∀ {F : Fl}, Rises F → fhas n F = true → fput n b F = F.set (fat n F) (n, b)
  | [], _, h => by cases h
  | p :: l, hr, h => by
    simp only [fput, fat]
    split
    · rename_i h1
      have : fhas n l = true := by
        simp only [fhas, List.any_cons, Bool.or_eq_true, beq_iff_eq] at h ⊢
        rcases h with h | h
        · omega
        · exact h
      rw [fput_at_has hr.tail this]; rfl
    · rename_i h1
      have : p.1 = n := by
        simp only [fhas, List.any_cons, Bool.or_eq_true, beq_iff_eq, List.any_eq_true] at h
        rcases h with h | ⟨q, hq, h⟩
        · exact h
        · have := hr.head q hq; omega
      rw [if_pos (by simpa using this)]; rfl
theorem fdel_at {n : Int} : ∀ {F : Fl}, Rises F → fhas n F = true → fdel n F = F.take (fat n F) ++ F.drop (fat n F + 1)
  | [], _, h => by cases h
  | p :: l, hr, h => by
    by_cases h1 : p.1 < n
    · have hl : fhas n l = true := by
        simp only [fhas, List.any_cons, Bool.or_eq_true, beq_iff_eq] at h ⊢
        rcases h with h | h
        · omega
        · exact h
      have e : fdel n (p :: l) = p :: fdel n l := by simp only [fdel, List.filter_cons]; rw [if_pos (by simp; omega)]
      rw [e, fdel_at hr.tail hl]
      simp [fat, h1]
    · have : p.1 = n := by
        simp only [fhas, List.any_cons, Bool.or_eq_true, beq_iff_eq, List.any_eq_true] at h
        rcases h with h | ⟨q, hq, h⟩
        · exact h
        · have := hr.head q hq; omega
      have e : fdel n (p :: l) = l := by
        simp only [fdel, List.filter_cons]; rw [if_neg (by simp [this])]
        exact fdel_above (fun q hq => by have := hr.head q hq; omega)
      rw [e]; simp [fat, h1]
theorem fhas_at {n : Int} : ∀ {F : Fl}, Rises F → fhas n F = (decide (fat n F < F.length) && ((F.getD (fat n F) (0, [])).1 == n))
  | [], _ => rfl
  | p :: l, hr => by
    simp only [fat]
    split
    · rename_i h1
      have : fhas n (p :: l) = fhas n l := by simp only [fhas, List.any_cons]; rw [show (p.1 == n) = false by simp; omega]; rfl
      rw [this, fhas_at hr.tail]
      simp
    · rename_i h1
      have : fhas n l = false ∨ p.1 = n := by
        by_cases hp : p.1 = n
        · exact .inr hp
        · left
          simp only [fhas, List.any_eq_false, beq_iff_eq]
          intro q hq
          have := hr.head q hq; omega
      simp only [fhas, List.any_cons] at this ⊢
      rcases this with h | h
      · rw [h]; simp
      · simp [h]
theorem fget_at {n : Int} : ∀ {F : Fl}, Rises F → fhas n F = true → fget n F = (F.getD (fat n F) (0, [])).2
  | [], _, h => by cases h
  | p :: l, hr, h => by
    simp only [fat]
    by_cases h1 : p.1 < n
    · have hl : fhas n l = true := by
        simp only [fhas, List.any_cons, Bool.or_eq_true, beq_iff_eq] at h ⊢
        rcases h with h | h
        · omega
        · exact h
      have := fget_at hr.tail hl
      rw [if_pos h1]
      simp only [fget, List.find?_cons] at this ⊢
      rw [show (p.1 == n) = false by simp; omega, this]; rfl
    · have : p.1 = n := by
        simp only [fhas, List.any_cons, Bool.or_eq_true, beq_iff_eq, List.any_eq_true] at h
        rcases h with h | ⟨q, hq, h⟩
        · exact h
        · have := hr.head q hq; omega
      rw [if_neg h1]
      simp [fget, this]
end Go.Proofs.YtimbikbbbfpeeaaGreatDoor

/- A world in which blocks of a list may have turned; maps of bodies by numbers in memory. -/
namespace Go.Proofs.YtimbikbbbfpeeaaGreatDoor
open Go Go.RowKit

structure Touch (w w' : World) (L : List Nat) : Prop where
  os : w'.os = w.os
  tape : w'.tape = w.tape
  output : w'.output = w.output
  size : w.heap.size ≤ w'.heap.size
  block : ∀ k, k < w.heap.size → k ∉ L → w'.heap[k]? = w.heap[k]?
theorem Touch.refl (w : World) (L : List Nat) : Touch w w L := ⟨rfl, rfl, rfl, Nat.le_refl _, fun _ _ _ => rfl⟩
theorem Touch.trans {a b c : World} {L M : List Nat} (h : Touch a b L) (k : Touch b c M) : Touch a c (L ++ M) :=
  ⟨k.os.trans h.os, k.tape.trans h.tape, k.output.trans h.output, Nat.le_trans h.size k.size, fun i hi hn => by
    rw [List.mem_append, not_or] at hn
    rw [k.block i (Nat.lt_of_lt_of_le hi h.size) hn.2, h.block i hi hn.1]⟩
theorem Touch.mono {w w' : World} {L M : List Nat} (h : Touch w w' L) (hs : ∀ k ∈ L, k < w.heap.size → k ∈ M) : Touch w w' M :=
  ⟨h.os, h.tape, h.output, h.size, fun k hk hn => h.block k hk fun hl => hn (hs k hl hk)⟩
theorem Touch.of_ext {w w' : World} (h : Ext w w') (L : List Nat) : Touch w w' L := ⟨h.os, h.tape, h.output, h.size, fun k hk _ => h.block k hk⟩
theorem Touch.of_grown {w w' : World} {r : Nat} {L : List Nat} (h : w.grownBy w' (some r)) (hr : r ∈ L) : Touch w w' L :=
  ⟨h.os, h.tape, h.output, h.size, fun k hk hn => h.block k hk fun e => hn (by cases e; exact hr)⟩
theorem Touch.set {w : World} {p i : Nat} {u : Value} {L : List Nat} (hp : p ∈ L) : Touch w (w.setCell ⟨p, i, none⟩ u) L :=
  ⟨rfl, rfl, rfl, by rw [Deep.nblk_setCell]; exact Nat.le_refl _, fun k _ hn => heap_setCell_other _ _ _ _ fun e => hn (by rw [e]; exact hp)⟩
theorem Touch.drew {a w : World} {L : List Nat} (h : Touch a w L) : Touch a w.drew L := ⟨h.os, h.tape, h.output, h.size, h.block⟩
theorem Touch.drewN {a w : World} {L : List Nat} (h : Touch a w L) (n : Nat) : Touch a (w.drewN n) L := ⟨h.os, h.tape, h.output, h.size, h.block⟩
theorem Touch.ext {a w w' : World} {L : List Nat} (h : Touch w w' L) (hE : Ext a w) (hL : ∀ k ∈ L, a.heap.size ≤ k) : Ext a w' :=
  ⟨h.os.trans hE.os, h.tape.trans hE.tape, h.output.trans hE.output, Nat.le_trans hE.size h.size, fun k hk => by
    rw [h.block k (Nat.lt_of_lt_of_le hk hE.size) fun hl => by have := hL k hl; omega]
    exact hE.block k hk⟩
theorem Touch.box {w w' : World} {L : List Nat} (h : Touch w w' L) {p : Nat} {cs : Array Value} {e : TypeId} (hb : BoxAt w p cs e) (hp : p ∉ L) : BoxAt w' p cs e := by
  unfold BoxAt at *
  rw [h.block p (Array.getElem?_eq_some_iff.1 hb).1 hp]; exact hb
theorem Touch.cell {w w' : World} {L : List Nat} (h : Touch w w' L) {b o : Nat} {v : Value} (hc : w.cell? ⟨b, o, none⟩ = some v) (hp : b ∉ L) : w'.cell? ⟨b, o, none⟩ = some v := by
  rw [World.cell?_of_block (w := w) (h.block b (World.block_lt_of_cell? w _ hc) hp)]; exact hc
theorem Touch.owns {w w' : World} {L : List Nat} (h : Touch w w' L) {b : Nat} {e : TypeId} {size : Nat} {v : Value} {n : Nat} {xs : List Value} (ho : w.ownsRow b e size v n xs) (hv : ∀ k, v.ownBlock = some k → k ∉ L) : w'.ownsRow b e size v n xs := by
  obtain ⟨h1, h2⟩ := ho
  refine ⟨h1, h2.imp id ?_⟩
  rintro ⟨g, cap, cur, h3⟩
  refine ⟨g, cap, cur, h3.1, h3.2.1, ?_, h3.2.2.2⟩
  rw [h.block g (Array.getElem?_eq_some_iff.1 h3.2.2.1).1 (hv g (by rw [h3.1]; rfl))]
  exact h3.2.2.1

/-- Block m is a map of bodies by numbers. -/
def FilesAt (w : World) (m : Nat) (F : Fl) : Prop := w.ownsMap Tryz.prog 3 (plainElem (H := Nat) Tryz.prog 9) m F.length (fD F) ∧ Rises F
theorem FilesAt.lt {w : World} {m : Nat} {F : Fl} (h : FilesAt w m F) : m < w.heap.size := h.1.lt
theorem Touch.files {w w' : World} {L : List Nat} (h : Touch w w' L) {m : Nat} {F : Fl} (hf : FilesAt w m F) (hm : m ∉ L) : FilesAt w' m F := by
  obtain ⟨⟨es, clock, hb, F1, hs, hD⟩, hr⟩ := hf
  exact ⟨⟨es, clock, by rw [h.block m (Array.getElem?_eq_some_iff.1 hb).1 hm]; exact hb, F1, hs, hD⟩, hr⟩
theorem FilesAt.ext {w w' : World} {m : Nat} {F : Fl} (hf : FilesAt w m F) (hE : Ext w w') : FilesAt w' m F := (Touch.of_ext hE []).files hf (by simp)
theorem und_mapis : Tryz.prog.underlying 70 = some (.map 3 9) := by kernel_rfl
theorem und_int0 : Tryz.prog.underlying 3 = some (.int .i64) := by kernel_rfl
theorem und_str0 : Tryz.prog.underlying 9 = some .string := by kernel_rfl
theorem keyed0 : Maps.Keyed Tryz.prog 3 := Maps.int_keyed und_int0
theorem zero_str (w : World) : (zeroValue 9).run Tryz.prog w = .ok (.string ⟨#[]⟩) w := by kernel_rfl
theorem elem_str {s : ByteArray} (hs : s.size ≤ maxLen) : plainElem (H := Nat) Tryz.prog 9 (.string s) = some (.lit (.string s.data.toList), []) := plainElem_string und_str0 hs
theorem wf_in {n : Int} (h0 : -9223372036854775808 ≤ n) (h1 : n ≤ 9223372036854775807) : (Lit.int .i64 n).wf = true := WalkArith.wf_i64 (by omega)
theorem owns_tight {w : World} {P : Program} {k : TypeId} {R : Value → Option (DataW Nat × List MemPlace)} {b n : Nat} {D : DataW Nat} (h : w.ownsMap P k R b n D) {n' : Nat} (hn : Maps.size D = n') : w.ownsMap P k R b n' D := by
  obtain ⟨es, clock, hb, F, hs, hD⟩ := h
  refine ⟨es, clock, hb, F, ?_, hD⟩
  rw [← hn, hD]
  simp [Maps.size, length_sorted]
theorem files_new (w : World) : FilesAt (w.alloc (.map #[] 0)) w.heap.size [] := ⟨World.ownsMap_made w Tryz.prog 3 _, List.Pairwise.nil⟩
theorem str_eq {s : ByteArray} {l : List UInt8} (h : s.data.toList = l) : s = str l := by
  subst h
  obtain ⟨d⟩ := s
  simp [str]
theorem files_look {w : World} {m : Nat} {F : Fl} (h : FilesAt w m F) {n : Int} (h0 : -9223372036854775808 ≤ n) (h1 : n ≤ 9223372036854775807) :
    (Instr.lookup 70 (.map (some m)) (.int .i64 n) true).run Tryz.prog w = .ok (.tuple #[.string (str (fget n F)), .bool (fhas n F)]) w ∧ (fget n F).length ≤ maxLen := by
  obtain ⟨v, ps, hr, hv⟩ := h.1.look_ok keyed0 und_mapis (zero_str w) (elem_str (s := ⟨#[]⟩) (by simp [ByteArray.size])) (Maps.keyOf_int_mk und_int0 (wf_in h0 h1))
  rw [fD_has] at hr
  have e : DataW.atKey (fD F : DataW Nat) (.int .i64 n) (.lit (.string (#[] : Array UInt8).toList)) = .lit (.string (fget n F)) := fD_at F n
  rw [e] at hv
  obtain ⟨s, rfl, hz, hs⟩ := plainElem_string_inv und_str0 hv
  have e2 : s.data.toList = fget n F := by
    simp only [Prod.mk.injEq, DataW.lit.injEq, Lit.string.injEq] at hz
    exact hz.1.symm
  obtain rfl := str_eq e2
  exact ⟨hr, by simpa using hs⟩
theorem files_len {w : World} {m : Nat} {F : Fl} (h : FilesAt w m F) (ty : TypeId) : (Builtin.len_ #[70] ty #[.map (some m)]).run Tryz.prog w = .ok (.int .i64 (F.length : Int)) w := by
  rw [h.1.len und_mapis ty, fD_size]
theorem mapTurned_touch {w w' : World} {m : Nat} (h : w.mapTurned w' m) : Touch w w' [m] := Touch.of_grown h.grown (by simp)
theorem files_put {w : World} {m : Nat} {F : Fl} (h : FilesAt w m F) {n : Int} (h0 : -9223372036854775808 ≤ n) (h1 : n ≤ 9223372036854775807) {b : ByteArray} (hb : b.size ≤ maxLen) (hn : F.length < maxLen) :
    ∃ w', (Instr.mapUpdate 70 (.map (some m)) (.int .i64 n) (.string b)).run Tryz.prog w = .ok () w' ∧ FilesAt w' m (fput n b.data.toList F) ∧ Touch w w' [m] := by
  obtain ⟨w', hr, ho, ht⟩ := h.1.store keyed0 und_mapis hn (Maps.keyOf_int_mk und_int0 (wf_in h0 h1)) (elem_str hb)
  rw [fD_put n _ F h.2] at ho
  exact ⟨w', hr, ⟨owns_tight ho (fD_size _), fput_rises h.2⟩, mapTurned_touch ht⟩
theorem files_del {w : World} {m : Nat} {F : Fl} (h : FilesAt w m F) {n : Int} (h0 : -9223372036854775808 ≤ n) (h1 : n ≤ 9223372036854775807) (ty : TypeId) :
    ∃ w', (Builtin.delete_ #[70, 3] ty #[.map (some m), .int .i64 n]).run Tryz.prog w = .ok (.tuple #[]) w' ∧ FilesAt w' m (fdel n F) ∧ Touch w w' [m] := by
  obtain ⟨w', hr, ho, ht⟩ := h.1.drop keyed0 und_mapis (Maps.keyOf_int_mk und_int0 (wf_in h0 h1)) ty
  rw [fD_del] at ho
  exact ⟨w', hr, ⟨owns_tight ho (fD_size _), fdel_rises h.2⟩, mapTurned_touch ht⟩
end Go.Proofs.YtimbikbbbfpeeaaGreatDoor

/- Maps with strings as keys, whatever their elements, as lists that rise. -/
namespace Go.Proofs.YtimbikbbbfpeeaaGreatDoor
open Go Go.RowKit

/-! ### Plain: lists with keys that rise -/
def kb (a b : ByteArray) : Bool := bytesBefore a.data.toList b.data.toList
theorem ba_ext {a b : ByteArray} (h : a.data.toList = b.data.toList) : a = b := by
  obtain ⟨⟨a⟩⟩ := a
  obtain ⟨⟨b⟩⟩ := b
  simp at h
  rw [h]
theorem kb_irrefl (a : ByteArray) : kb a a = false := WideAt.bytes_irrefl _
theorem kb_trans {a b c : ByteArray} (h : kb a b = true) (h' : kb b c = true) : kb a c = true := WideShapes.bytes_trans _ _ _ h h'
theorem kb_total {a b : ByteArray} (h : a ≠ b) : kb a b = true ∨ kb b a = true := WideAt.bytes_total _ _ fun e => h (ba_ext e)
theorem kb_ne {a b : ByteArray} (h : kb a b = true) : a ≠ b := fun e => by rw [e, kb_irrefl] at h; cases h
theorem kb_asymm {a b : ByteArray} (h : kb a b = true) : kb b a = false := by
  cases hb : kb b a
  · rfl
  · have := kb_trans h hb
    rw [kb_irrefl] at this; cases this
section
variable {α : Type} (key : α → ByteArray)
def KRises (L : List α) : Prop := L.Pairwise fun x y => kb (key x) (key y) = true
def kfind (k : ByteArray) (L : List α) : Option α := L.find? fun x => decide (key x = k)
def kput (x : α) : List α → List α
  | [] => [x]
  | y :: l => if kb (key y) (key x) then y :: kput x l else if key y = key x then x :: l else x :: y :: l
variable {key}
theorem KRises.nil : KRises key ([] : List α) := List.Pairwise.nil
theorem KRises.tail {x : α} {L : List α} (h : KRises key (x :: L)) : KRises key L := (List.pairwise_cons.1 h).2
theorem KRises.head {x : α} {L : List α} (h : KRises key (x :: L)) : ∀ y ∈ L, kb (key x) (key y) = true := (List.pairwise_cons.1 h).1
theorem KRises.map {β : Type} {key' : β → ByteArray} {f : α → β} (hf : ∀ x, key' (f x) = key x) {L : List α} (h : KRises key L) : KRises key' (L.map f) := by
  unfold KRises
  rw [List.pairwise_map]
  refine List.Pairwise.imp (fun {a b} h => ?_) h
  rw [hf, hf]; exact h
theorem kfind_none {k : ByteArray} {L : List α} (h : kfind key k L = none) : ∀ x ∈ L, key x ≠ k := by
  unfold kfind at h
  rw [List.find?_eq_none] at h
  exact fun x hx => by simpa using h x hx
theorem kfind_not {k : ByteArray} {L : List α} (h : ∀ x ∈ L, key x ≠ k) : kfind key k L = none := by
  unfold kfind
  rw [List.find?_eq_none]
  exact fun x hx => by simpa using h x hx
theorem kfind_some {k : ByteArray} {L : List α} {x : α} (h : kfind key k L = some x) : x ∈ L ∧ key x = k := by
  unfold kfind at h
  exact ⟨List.mem_of_find?_eq_some h, by simpa using List.find?_some h⟩
theorem kfind_cons (k : ByteArray) (x : α) (L : List α) : kfind key k (x :: L) = if key x = k then some x else kfind key k L := by
  unfold kfind
  rw [List.find?_cons]
  by_cases h : key x = k <;> simp [h]
theorem kfind_map {β : Type} {key' : β → ByteArray} {f : α → β} (hf : ∀ x, key' (f x) = key x) (k : ByteArray) (L : List α) : kfind key' k (L.map f) = (kfind key k L).map f := by
  unfold kfind
  rw [List.find?_map]
  congr 2
  funext x
  simp [hf]
theorem kfind_of_mem {L : List α} (h : KRises key L) {x : α} (hx : x ∈ L) : kfind key (key x) L = some x := by
  induction L with
  | nil => cases hx
  | cons y l ih =>
    rw [kfind_cons]
    rcases List.mem_cons.1 hx with rfl | hm
    · simp
    · rw [if_neg (kb_ne (h.head _ hm)), ih h.tail hm]
theorem kput_mem {x : α} : ∀ {L : List α} {y : α}, y ∈ kput key x L → y = x ∨ y ∈ L
  | [], y, h => by simp [kput] at h; exact .inl h
  | z :: l, y, h => by
    simp only [kput] at h
    split at h
    · rcases List.mem_cons.1 h with rfl | h
      · exact .inr (by simp)
      · exact (kput_mem h).imp id (by intro h; simp [h])
    · split at h
      · rcases List.mem_cons.1 h with rfl | h
        · exact .inl rfl
        · exact .inr (by simp [h])
      · rcases List.mem_cons.1 h with rfl | h
        · exact .inl rfl
        · exact .inr h
theorem kput_mem' {x : α} : ∀ {L : List α} (_ : KRises key L) {y : α}, y ∈ kput key x L → y = x ∨ y ∈ L ∧ key y ≠ key x
  | [], _, y, h => by simp [kput] at h; exact .inl h
  | z :: l, hr, y, h => by
    simp only [kput] at h
    split at h
    · rename_i h1
      rcases List.mem_cons.1 h with rfl | h
      · exact .inr ⟨by simp, kb_ne h1⟩
      · exact (kput_mem' hr.tail h).imp id (fun ⟨a, b⟩ => ⟨by simp [a], b⟩)
    · split at h
      · rename_i h1 h2
        rcases List.mem_cons.1 h with rfl | h
        · exact .inl rfl
        · exact .inr ⟨by simp [h], fun e => kb_ne (hr.head _ h) (h2.trans e.symm)⟩
      · rename_i h1 h2
        have h3 : kb (key x) (key z) = true := (kb_total h2).resolve_left (by simpa using h1)
        rcases List.mem_cons.1 h with rfl | h
        · exact .inl rfl
        · refine .inr ⟨h, fun e => ?_⟩
          rcases List.mem_cons.1 h with rfl | h
          · exact h2 e
          · exact kb_ne (kb_trans h3 (hr.head _ h)) e.symm
theorem mem_kput (x : α) : ∀ (L : List α), x ∈ kput key x L
  | [] => by simp [kput]
  | z :: l => by
    simp only [kput]
    split
    · exact List.mem_cons_of_mem _ (mem_kput x l)
    · split <;> simp
theorem kput_old {x y : α} : ∀ {L : List α}, y ∈ L → key y ≠ key x → y ∈ kput key x L
  | [], h, _ => by cases h
  | z :: l, h, hn => by
    simp only [kput]
    split
    · rcases List.mem_cons.1 h with rfl | h
      · simp
      · exact List.mem_cons_of_mem _ (kput_old h hn)
    · split
      · rename_i h1 h2
        rcases List.mem_cons.1 h with rfl | h
        · exact absurd h2 hn
        · exact List.mem_cons_of_mem _ h
      · exact List.mem_cons_of_mem _ h
theorem kput_same {x : α} : ∀ {L : List α}, KRises key L → kfind key (key x) L = some x → kput key x L = L
  | [], _, h => by cases h
  | y :: l, hr, h => by
    simp only [kput]
    rw [kfind_cons] at h
    by_cases h1 : key y = key x
    · rw [if_pos h1] at h
      have := Option.some.inj h
      subst this
      rw [if_neg (by rw [kb_irrefl]; decide), if_pos rfl]
    · rw [if_neg h1] at h
      obtain ⟨h2, _⟩ := kfind_some h
      rw [if_pos (hr.head _ h2), kput_same hr.tail h]
theorem kput_pairwise {R : α → α → Prop} (hs : ∀ a b, R a b → R b a) {x : α} : ∀ {L : List α}, KRises key L → L.Pairwise R → (∀ y ∈ L, key y ≠ key x → R y x) → (kput key x L).Pairwise R
  | [], _, _, _ => by simp [kput]
  | y :: l, hr, hp, hx => by
    obtain ⟨p1, p2⟩ := List.pairwise_cons.1 hp
    simp only [kput]
    split
    · rename_i h1
      refine List.pairwise_cons.2 ⟨fun z hz => ?_, kput_pairwise hs hr.tail p2 fun z hz => hx z (by simp [hz])⟩
      rcases kput_mem hz with rfl | hz
      · exact hx y (by simp) (kb_ne h1)
      · exact p1 z hz
    · split
      · rename_i h1 h2
        refine List.pairwise_cons.2 ⟨fun z hz => hs _ _ (hx z (by simp [hz]) fun e => kb_ne (hr.head _ hz) (h2.trans e.symm)), p2⟩
      · rename_i h1 h2
        have h3 : kb (key x) (key y) = true := (kb_total h2).resolve_left (by simpa using h1)
        refine List.pairwise_cons.2 ⟨fun z hz => ?_, hp⟩
        refine hs _ _ (hx z hz fun e => ?_)
        rcases List.mem_cons.1 hz with rfl | hz
        · exact h2 e
        · exact kb_ne (kb_trans h3 (hr.head _ hz)) e.symm
theorem kput_rises {x : α} : ∀ {L : List α}, KRises key L → KRises key (kput key x L)
  | [], _ => by simp [kput, KRises]
  | y :: l, h => by
    simp only [kput]
    split
    · rename_i h1
      refine List.pairwise_cons.2 ⟨fun z hz => ?_, kput_rises h.tail⟩
      rcases kput_mem hz with rfl | hz
      · exact h1
      · exact h.head z hz
    · split
      · rename_i h1 h2
        exact List.pairwise_cons.2 ⟨fun z hz => by rw [← h2]; exact h.head z hz, h.tail⟩
      · rename_i h1 h2
        have h3 : kb (key x) (key y) = true := (kb_total h2).resolve_left (by simpa using h1)
        refine List.pairwise_cons.2 ⟨fun z hz => ?_, h⟩
        rcases List.mem_cons.1 hz with rfl | hz
        · exact h3
        · exact kb_trans h3 (h.head z hz)
theorem kfind_put {x : α} {k : ByteArray} : ∀ {L : List α}, KRises key L → kfind key k (kput key x L) = if key x = k then some x else kfind key k L
  | [], _ => by simp [kput, kfind_cons]
  | y :: l, h => by
    have ih := kfind_put (x := x) (k := k) h.tail
    simp only [kput]
    split
    · rename_i h1
      rw [kfind_cons, kfind_cons, ih]
      by_cases hy : key y = k
      · rw [if_pos hy, if_pos hy, if_neg (fun e => kb_ne h1 (hy.trans e.symm))]
      · rw [if_neg hy, if_neg hy]
    · split
      · rename_i h1 h2
        rw [kfind_cons, kfind_cons, h2]
        by_cases hy : key x = k
        · rw [if_pos hy, if_pos hy]
        · rw [if_neg hy, if_neg hy, if_neg hy]
      · rw [kfind_cons]
theorem kput_length {x : α} : ∀ {L : List α}, KRises key L → (kput key x L).length = if (kfind key (key x) L).isSome then L.length else L.length + 1
  | [], _ => by simp [kput, kfind]
  | y :: l, h => by
    have ih := kput_length (x := x) h.tail
    simp only [kput]
    split
    · rename_i h1
      rw [kfind_cons, if_neg (kb_ne h1), List.length_cons, ih]
      split <;> simp
    · split
      · rename_i h1 h2
        rw [kfind_cons, if_pos h2]; simp
      · rename_i h1 h2
        have h3 : kb (key x) (key y) = true := (kb_total h2).resolve_left (by simpa using h1)
        have : kfind key (key x) (y :: l) = none := kfind_not fun z hz => by
          rcases List.mem_cons.1 hz with rfl | hz
          · exact h2
          · exact (kb_ne (kb_trans h3 (h.head z hz))).symm
        rw [this]; simp
theorem kput_map {β : Type} {key' : β → ByteArray} {f : α → β} (hf : ∀ x, key' (f x) = key x) (x : α) : ∀ (L : List α), (kput key x L).map f = kput key' (f x) (L.map f)
  | [] => rfl
  | y :: l => by
    simp only [kput, List.map_cons, hf]
    split
    · rw [List.map_cons, kput_map hf x l]
    · split <;> rfl
end

/-! ### In memory -/
abbrev Sm := List (ByteArray × Value)
/-- An element, whatever it is, is read as itself. -/
def rawE (v : Value) : Option (DataW Value × List MemPlace) := some (.held v, [])
def sD (L : Sm) : DataW Value := .map (L.map fun p => (Lit.string p.1.data.toList, DataW.held p.2))
theorem sameKey_str (a b : ByteArray) : (Lit.string a.data.toList).sameKey (.string b.data.toList) = decide (a = b) := by
  by_cases h : a = b
  · subst h; simp [Lit.sameKey]
  · have : a.data.toList ≠ b.data.toList := fun e => h (ba_ext e)
    simp only [Lit.sameKey, h, decide_false]
    simpa using fun e => h (ba_ext (by rw [e]))
theorem sD_has (L : Sm) (k : ByteArray) : Maps.has (sD L) (.string k.data.toList) = (kfind Prod.fst k L).isSome := by
  simp only [Maps.has, sD, List.any_map, Function.comp_def, sameKey_str, kfind, List.isSome_find?]
theorem sD_at (L : Sm) (k : ByteArray) (z : Value) : (sD L).atKey (.string k.data.toList) (.held z) = .held (((kfind Prod.fst k L).map (·.2)).getD z) := by
  simp only [sD, DataW.atKey, List.find?_map, Function.comp_def, sameKey_str, kfind]
  cases L.find? fun x => decide (x.1 = k) <;> rfl
theorem sD_size (L : Sm) : Maps.size (sD L) = L.length := by simp [Maps.size, sD]
theorem before_str (a b : ByteArray) : (Lit.string a.data.toList).before (.string b.data.toList) = kb a b := rfl
theorem sD_put (k : ByteArray) (v : Value) : ∀ (L : Sm), KRises Prod.fst L → (sD L).put (.string k.data.toList) (.held v) = sD (kput Prod.fst (k, v) L) := by
  intro L hL
  have keyl : ∀ L : Sm, KRises Prod.fst L → DataW.insert (.string k.data.toList, .held v) ((L.filter fun p => !decide (p.1 = k)).map fun p => (Lit.string p.1.data.toList, DataW.held p.2)) = (kput Prod.fst (k, v) L).map fun p => (Lit.string p.1.data.toList, DataW.held p.2) := by
    intro L
    induction L with
    | nil => intro _; rfl
    | cons p l ih =>
      intro h
      have ih := ih h.tail
      by_cases h1 : kb p.1 k = true
      · have e : (p :: l).filter (fun p => !decide (p.1 = k)) = p :: l.filter fun p => !decide (p.1 = k) := by rw [List.filter_cons, if_pos (by simpa using kb_ne h1)]
        rw [e, kput, if_pos h1, List.map_cons, List.map_cons, DataW.insert, if_neg (by simp only [before_str]; rw [kb_asymm h1]; decide), ih]
      · by_cases h2 : p.1 = k
        · have e : (p :: l).filter (fun p => !decide (p.1 = k)) = l := by
            rw [List.filter_cons, if_neg (by simp [h2])]
            exact List.filter_eq_self.2 fun q hq => by simpa using (kb_ne (by rw [← h2]; exact h.head q hq)).symm
          rw [e, kput, if_neg h1, if_pos h2, List.map_cons]
          cases l with
          | nil => rfl
          | cons q m => rw [List.map_cons, DataW.insert, if_pos (by simp only [before_str]; rw [← h2]; exact h.head q (by simp))]
        · have h3 : kb k p.1 = true := (kb_total h2).resolve_left h1
          have e : (p :: l).filter (fun p => !decide (p.1 = k)) = p :: l := List.filter_eq_self.2 fun q hq => by
            rcases List.mem_cons.1 hq with rfl | hq
            · simpa using h2
            · simpa using (kb_ne (kb_trans h3 (h.head q hq))).symm
          rw [e, kput, if_neg h1, if_neg h2, List.map_cons, List.map_cons, DataW.insert, if_pos (by simp only [before_str]; exact h3)]
          rfl
  have := keyl L hL
  simp only [sD, DataW.put, DataW.map.injEq]
  rw [← this]
  congr 1
  simp [List.filter_map, Function.comp_def, sameKey_str]

/-- Block m is a map of elements by strings. -/
structure SMapAt (w : World) (m : Nat) (L : Sm) : Prop where
  own : w.ownsMap Tryz.prog 9 rawE m L.length (sD L)
  rises : KRises Prod.fst L
theorem SMapAt.lt {w : World} {m : Nat} {L : Sm} (h : SMapAt w m L) : m < w.heap.size := h.own.lt
theorem SMapAt.isMap {w : World} {m : Nat} {L : Sm} (h : SMapAt w m L) : ∃ es c, w.heap[m]? = some (.map es c) := let ⟨⟨es, c, hb, _⟩, _⟩ := h; ⟨es, c, hb⟩
theorem SMapAt.touch {w w' : World} {K : List Nat} (h : Touch w w' K) {m : Nat} {L : Sm} (hf : SMapAt w m L) (hm : m ∉ K) : SMapAt w' m L := by
  obtain ⟨⟨es, clock, hb, F1, hs, hD⟩, hr⟩ := hf
  exact ⟨⟨es, clock, by rw [h.block m (Array.getElem?_eq_some_iff.1 hb).1 hm]; exact hb, F1, hs, hD⟩, hr⟩
theorem SMapAt.ext {w w' : World} {m : Nat} {L : Sm} (hf : SMapAt w m L) (hE : Ext w w') : SMapAt w' m L := hf.touch (Touch.of_ext hE []) (by simp)
theorem keyedS : Maps.Keyed Tryz.prog 9 := Maps.string_keyed und_str0
theorem smap_new (w : World) : SMapAt (w.alloc (.map #[] 0)) w.heap.size [] := ⟨World.ownsMap_made w Tryz.prog 9 _, List.Pairwise.nil⟩
theorem owns_tightS {w : World} {b n : Nat} {D : DataW Value} (h : w.ownsMap Tryz.prog 9 rawE b n D) {n' : Nat} (hn : Maps.size D = n') : w.ownsMap Tryz.prog 9 rawE b n' D := by
  obtain ⟨es, clock, hb, F, hs, hD⟩ := h
  refine ⟨es, clock, hb, F, ?_, hD⟩
  rw [← hn, hD]
  simp [Maps.size, length_sorted]
section
variable {w : World} {m : Nat} {L : Sm} {T e : TypeId} {z : Value}
theorem rawE_inv {v x : Value} {ps : List MemPlace} (h : rawE v = some (.held x, ps)) : v = x := by
  unfold rawE at h
  cases h; rfl
theorem smap_look (h : SMapAt w m L) (ht : Tryz.prog.underlying T = some (.map 9 e)) (hz : (zeroValue e).run Tryz.prog w = .ok z w) {k : ByteArray} (hk : k.size ≤ maxLen) :
    (Instr.lookup T (.map (some m)) (.string k) true).run Tryz.prog w = .ok (.tuple #[((kfind Prod.fst k L).map (·.2)).getD z, .bool (kfind Prod.fst k L).isSome]) w := by
  obtain ⟨v, ps, hr, hv⟩ := h.own.look_ok keyedS ht hz (zd := .held z) (zp := []) rfl (WideMaps.keyOf_string_mk und_str0 hk)
  rw [sD_has] at hr
  rw [sD_at] at hv
  rw [rawE_inv hv] at hr
  exact hr
theorem smap_look0 (h : SMapAt w m L) (ht : Tryz.prog.underlying T = some (.map 9 e)) (hz : (zeroValue e).run Tryz.prog w = .ok z w) {k : ByteArray} (hk : k.size ≤ maxLen) :
    (Instr.lookup T (.map (some m)) (.string k) false).run Tryz.prog w = .ok (((kfind Prod.fst k L).map (·.2)).getD z) w := by
  obtain ⟨v, ps, hr, hv⟩ := h.own.lookup keyedS ht hz (zd := .held z) (zp := []) rfl (WideMaps.keyOf_string_mk und_str0 hk)
  rw [sD_at] at hv
  rw [rawE_inv hv] at hr
  exact hr
theorem smap_len (h : SMapAt w m L) (ht : Tryz.prog.underlying T = some (.map 9 e)) (ty : TypeId) : (Builtin.len_ #[T] ty #[.map (some m)]).run Tryz.prog w = .ok (.int .i64 (L.length : Int)) w := by
  rw [h.own.len ht ty, sD_size]
theorem smap_put (h : SMapAt w m L) (ht : Tryz.prog.underlying T = some (.map 9 e)) {k : ByteArray} (hk : k.size ≤ maxLen) (v : Value) (hn : L.length < maxLen) :
    ∃ w', (Instr.mapUpdate T (.map (some m)) (.string k) v).run Tryz.prog w = .ok () w' ∧ SMapAt w' m (kput Prod.fst (k, v) L) ∧ Touch w w' [m] := by
  obtain ⟨w', hr, ho, htu⟩ := h.own.store keyedS ht hn (WideMaps.keyOf_string_mk und_str0 hk) (d := .held v) (ps := []) rfl
  rw [sD_put k v L h.rises] at ho
  exact ⟨w', hr, ⟨owns_tightS ho (sD_size _), kput_rises h.rises⟩, mapTurned_touch htu⟩
theorem smap_clear (h : SMapAt w m L) (ht : Tryz.prog.underlying T = some (.map 9 e)) (ty : TypeId) :
    ∃ w', (Builtin.clear_ #[T] ty #[.map (some m)]).run Tryz.prog w = .ok (.tuple #[]) w' ∧ SMapAt w' m [] ∧ Touch w w' [m] := by
  obtain ⟨⟨es, clock, hb, F, hs, hD⟩, hr⟩ := h
  refine ⟨ChangeMaps.setBlock w m (.map #[] clock), ?_, ⟨⟨#[], clock, ChangeMaps.heap_setBlock_same hb _, ⟨by simp, ⟨by simp, by simp, by simp⟩, by simp⟩, by simp, rfl⟩, List.Pairwise.nil⟩, mapTurned_touch ⟨es, clock, #[], clock, hb, rfl⟩⟩
  simp [Builtin.clear_, run_underlying ht, MapKept.run_getObj_map hb, MapKept.run_setObj_map _ hb, Result.andThen, ChangeMaps.setBlock]
end
end Go.Proofs.YtimbikbbbfpeeaaGreatDoor
