/- Bodies by numbers: a map of the program as a list that rises. -/
import Derived.Maps.OwnSet
import Derived.Maps.RangeWalk
import Derived.Maps.StringElems
import Derived.Test.YtmjhdfifbjdgpaaK1
import Derived.Test.YtmjhdfifbjdgpaaProg
import Derived.ProofKit
import Derived.ChangeSlices
import Derived.WideShapes
import Derived.Shelf.Small.Bits
import Derived.Shelf.Small.Wraps
import Derived.Shelf.Strconv.Itoa0
import Derived.Shelf.Sort.Plain
import Derived.Shelf.Slices.In.SortNone
set_option linter.unusedSimpArgs false
set_option linter.unusedVariables false
namespace Go.Proofs.Ytmjhdfifbjdgpaa
open Go

abbrev Fl := List (Int × List UInt8)
def fD {H : Type} (F : Fl) : DataW H := .map (F.map fun p => (Lit.int .i64 p.1, DataW.lit (.string p.2)))
def Rises (F : Fl) : Prop := F.Pairwise fun p q => p.1 < q.1
def fhas (n : Int) (F : Fl) : Bool := F.any fun p => p.1 == n
def fget (n : Int) (F : Fl) : List UInt8 := ((F.find? fun p => p.1 == n).map (·.2)).getD []
def fdel (n : Int) (F : Fl) : Fl := F.filter fun p => !(p.1 == n)
def fput (n : Int) (b : List UInt8) : Fl → Fl
  | [] => [(n, b)]
  | p :: l => if p.1 < n then p :: fput n b l else if p.1 == n then (n, b) :: l else (n, b) :: p :: l

theorem sameKey_int (a b : Int) : (Lit.int .i64 a).sameKey (.int .i64 b) = (a == b) := by
  by_cases h : a = b
  · subst h; simp [Lit.sameKey]
  · simp [Lit.sameKey, h]
theorem before_int (a b : Int) : (Lit.int .i64 a).before (.int .i64 b) = decide (a < b) := rfl
theorem fD_has {H : Type} (F : Fl) (n : Int) : Maps.has (fD F : DataW H) (.int .i64 n) = fhas n F := by
  simp [Maps.has, fD, fhas, sameKey_int, Function.comp_def]
theorem fD_at {H : Type} (F : Fl) (n : Int) : (fD F : DataW H).atKey (.int .i64 n) (.lit (.string [])) = .lit (.string (fget n F)) := by
  simp only [fD, DataW.atKey, fget, List.find?_map, Function.comp_def, sameKey_int]
  cases F.find? fun p => p.1 == n <;> rfl
theorem fD_size {H : Type} (F : Fl) : Maps.size (fD F : DataW H) = F.length := by simp [Maps.size, fD]
theorem fD_del {H : Type} (F : Fl) (n : Int) : (fD F : DataW H).del (.int .i64 n) = fD (fdel n F) := by
  simp [fD, DataW.del, fdel, List.filter_map, Function.comp_def, sameKey_int]
theorem Rises.tail {p : Int × List UInt8} {F : Fl} (h : Rises (p :: F)) : Rises F := (List.pairwise_cons.1 h).2
theorem Rises.head {p : Int × List UInt8} {F : Fl} (h : Rises (p :: F)) : ∀ q ∈ F, p.1 < q.1 := (List.pairwise_cons.1 h).1
theorem fdel_above {n : Int} {F : Fl} (h : ∀ q ∈ F, n < q.1) : fdel n F = F := by
  unfold fdel
  rw [List.filter_eq_self]
  intro q hq
  have := h q hq
  simp; omega
theorem fD_put {H : Type} (n : Int) (b : List UInt8) : ∀ (F : Fl), Rises F → (fD F : DataW H).put (.int .i64 n) (.lit (.string b)) = fD (fput n b F) := by
  intro F hF
  have key : ∀ F : Fl, Rises F → DataW.insert (H := H) (.int .i64 n, .lit (.string b)) ((fdel n F).map fun p => (Lit.int .i64 p.1, DataW.lit (.string p.2))) = (fput n b F).map fun p => (Lit.int .i64 p.1, DataW.lit (.string p.2)) := by
    intro F
    induction F with
    | nil => intro _; rfl
    | cons p l ih =>
      intro h
      have ih := ih h.tail
      by_cases h1 : p.1 < n
      · have e : fdel n (p :: l) = p :: fdel n l := by simp only [fdel, List.filter_cons]; rw [if_pos (by simp; omega)]
        rw [e, fput, if_pos h1, List.map_cons, List.map_cons, DataW.insert, if_neg (by simp only [before_int]; simp; omega), ih]
      · by_cases h2 : p.1 = n
        · have e : fdel n (p :: l) = l := by
            simp only [fdel, List.filter_cons]; rw [if_neg (by simp [h2])]
            exact fdel_above (fun q hq => by have := h.head q hq; omega)
          rw [e, fput, if_neg h1, if_pos (by simp [h2]), List.map_cons]
          cases l with
          | nil => rfl
          | cons q m => rw [List.map_cons, DataW.insert, if_pos (by have := h.head q (by simp); simp only [before_int]; simp; omega)]
        · have e : fdel n (p :: l) = p :: l := fdel_above (fun q hq => by
            rcases List.mem_cons.1 hq with rfl | hq
            · omega
            · have := h.head q hq; omega)
          rw [e, fput, if_neg h1, if_neg (by simp [h2]), List.map_cons, List.map_cons, DataW.insert, if_pos (by simp only [before_int]; simp; omega)]
          rfl
  have := key F hF
  simp only [fD, DataW.put, DataW.map.injEq]
  rw [← this]
  congr 1
  simp [fdel, List.filter_map, Function.comp_def, sameKey_int]
theorem fput_mem {n : Int} {b : List UInt8} : ∀ {F : Fl} {q : Int × List UInt8}, q ∈ fput n b F → q = (n, b) ∨ q ∈ F
  | [], q, h => by simp [fput] at h; exact .inl h
  | p :: l, q, h => by
    simp only [fput] at h
    split at h
    · rcases List.mem_cons.1 h with rfl | h
      · exact .inr (by simp)
      · exact (fput_mem h).imp id (by intro h; simp [h])
    · split at h
      · rcases List.mem_cons.1 h with rfl | h
        · exact .inl rfl
        · exact .inr (by simp [h])
      · rcases List.mem_cons.1 h with rfl | h
        · exact .inl rfl
        · exact .inr h
theorem fput_rises {n : Int} {b : List UInt8} : ∀ {F : Fl}, Rises F → Rises (fput n b F)
  | [], _ => by simp [fput, Rises]
  | p :: l, h => by
    simp only [fput]
    split
    · rename_i h1
      refine List.pairwise_cons.2 ⟨fun q hq => ?_, fput_rises h.tail⟩
      rcases fput_mem hq with rfl | hq
      · exact h1
      · exact h.head q hq
    · split
      · rename_i h1 h2
        simp only [beq_iff_eq] at h2
        exact List.pairwise_cons.2 ⟨fun q hq => by have := h.head q hq; simp; omega, h.tail⟩
      · rename_i h1 h2
        simp only [beq_iff_eq] at h2
        refine List.pairwise_cons.2 ⟨fun q hq => ?_, h⟩
        rcases List.mem_cons.1 hq with rfl | hq
        · simp; omega
        · have := h.head q hq; simp; omega
theorem fdel_rises {n : Int} {F : Fl} (h : Rises F) : Rises (fdel n F) := List.Pairwise.filter _ h
theorem fput_length {n : Int} {b : List UInt8} : ∀ {F : Fl}, Rises F → (fput n b F).length = if fhas n F then F.length else F.length + 1
  | [], _ => by simp [fput, fhas]
  | p :: l, h => by
    simp only [fput]
    have ih := fput_length (n := n) (b := b) h.tail
    split
    · rename_i h1
      have : fhas n (p :: l) = fhas n l := by simp only [fhas, List.any_cons]; rw [show (p.1 == n) = false by simp; omega]; rfl
      rw [this, List.length_cons, ih]; split <;> simp
    · split
      · rename_i h1 h2; simp [fhas, h2]
      · rename_i h1 h2
        simp only [beq_iff_eq] at h2
        have : fhas n (p :: l) = false := by
          simp only [fhas, List.any_eq_false, beq_iff_eq]
          intro q hq
          rcases List.mem_cons.1 hq with rfl | hq
          · exact h2
          · have := h.head q hq; omega
        rw [this]; simp
theorem fdel_not {n : Int} {F : Fl} (h : fhas n F = false) : fdel n F = F := by
  unfold fdel
  rw [List.filter_eq_self]
  simp only [fhas, List.any_eq_false] at h
  intro q hq
  have := h q hq
  simpa using this
theorem fhas_put {n m : Int} {b : List UInt8} : ∀ {F : Fl}, fhas m (fput n b F) = ((n == m) || fhas m F)
  | [] => by simp [fput, fhas]
  | p :: l => by
    have ih := fhas_put (n := n) (m := m) (b := b) (F := l)
    simp only [fput]
    split
    · simp only [fhas, List.any_cons] at ih ⊢
      rw [ih]
      cases (p.1 == m) <;> cases (n == m) <;> rfl
    · split
      · rename_i h1 h2
        simp only [beq_iff_eq] at h2
        simp only [fhas, List.any_cons, h2]
        cases (n == m) <;> rfl
      · simp [fhas]
theorem fget_put {n m : Int} {b : List UInt8} : ∀ {F : Fl}, Rises F → fget m (fput n b F) = if n = m then b else fget m F
  | [], _ => by
    by_cases h : n = m
    · simp [fput, fget, h]
    · simp [fput, fget, h]
  | p :: l, h => by
    have ih := fget_put (n := n) (m := m) (b := b) h.tail
    simp only [fput]
    split
    · rename_i h1
      simp only [fget, List.find?_cons] at ih ⊢
      by_cases hpm : p.1 = m
      · rw [show (p.1 == m) = true by simpa using hpm, if_neg (by omega)]
      · rw [show (p.1 == m) = false by simpa using hpm]
        exact ih
    · split
      · rename_i h1 h2
        simp only [beq_iff_eq] at h2
        by_cases hnm : n = m
        · simp [fget, hnm]
        · simp [fget, hnm, h2]
      · by_cases hnm : n = m
        · simp [fget, hnm]
        · simp [fget, hnm]
theorem fhas_del {n m : Int} {F : Fl} : fhas m (fdel n F) = (fhas m F && !(n == m)) := by
  induction F with
  | nil => simp [fdel, fhas]
  | cons p l ih =>
    simp only [fdel, List.filter_cons, fhas, List.any_cons] at ih ⊢
    by_cases h : p.1 = n
    · rw [show (p.1 == n) = true by simpa using h]
      simp only [Bool.not_true, Bool.false_eq_true, if_false, ih]
      by_cases hm : n = m
      · simp [hm]
      · rw [show (p.1 == m) = false by simp; omega]; rfl
    · rw [show (p.1 == n) = false by simpa using h]
      simp only [Bool.not_false, if_true, List.any_cons, ih]
      by_cases hpm : p.1 = m
      · have : n ≠ m := fun hx => h (by omega)
        simp [hpm, this]
      · rw [show (p.1 == m) = false by simpa using hpm]; rfl
theorem fget_del {n m : Int} {F : Fl} : fget m (fdel n F) = if n = m then [] else fget m F := by
  induction F with
  | nil => simp [fdel, fget]
  | cons p l ih =>
    simp only [fdel, List.filter_cons, fget] at ih ⊢
    by_cases h : p.1 = n
    · rw [show (p.1 == n) = true by simpa using h]
      simp only [Bool.not_true, Bool.false_eq_true, if_false, ih, List.find?_cons]
      by_cases hm : n = m
      · simp [hm]
      · rw [show (p.1 == m) = false by simp; omega]
    · rw [show (p.1 == n) = false by simpa using h]
      simp only [Bool.not_false, if_true, List.find?_cons]
      by_cases hpm : p.1 = m
      · rw [show (p.1 == m) = true by simpa using hpm, if_neg (by omega)]
      · rw [show (p.1 == m) = false by simpa using hpm]
        exact ih
theorem fdel_length {n : Int} {F : Fl} (h : Rises F) : (fdel n F).length = if fhas n F then F.length - 1 else F.length := by
  induction F with
  | nil => simp [fdel, fhas]
  | cons p l ih =>
    have ih := ih h.tail
    by_cases hp : p.1 = n
    · have e : fdel n (p :: l) = l := by
        simp only [fdel, List.filter_cons]; rw [if_neg (by simp [hp])]
        exact fdel_above (fun q hq => by have := h.head q hq; omega)
      rw [e, if_pos (by simp [fhas, hp])]; rfl
    · have e : fdel n (p :: l) = p :: fdel n l := by simp only [fdel, List.filter_cons]; rw [if_pos (by simpa using hp)]
      have e2 : fhas n (p :: l) = fhas n l := by simp only [fhas, List.any_cons]; rw [show (p.1 == n) = false by simpa using hp]; rfl
      rw [e, e2, List.length_cons, ih]
      split
      · rename_i hh
        have : l ≠ [] := fun hx => by rw [hx] at hh; cases hh
        have : 0 < l.length := by cases l <;> simp_all
        simp; omega
      · rfl

/-! ### As the reference has it: the place where a number stands, or would -/
def fat (n : Int) : Fl → Nat
  | [] => 0
  | p :: l => if p.1 < n then fat n l + 1 else 0
theorem fat_le (n : Int) : ∀ F : Fl, fat n F ≤ F.length
  | [] => Nat.le_refl _
  | p :: l => by have := fat_le n l; simp only [fat]; split <;> simp <;> omega
theorem fput_at {n : Int} {b : List UInt8} : ∀ {F : Fl}, fhas n F = false → fput n b F = F.take (fat n F) ++ (n, b) :: F.drop (fat n F)
  | [], _ => rfl
  | p :: l, h => by
    simp only [fhas, List.any_cons, Bool.or_eq_false_iff, beq_eq_false_iff_ne] at h
    simp only [fput, fat]
    split
    · rw [fput_at h.2]; rfl
    · rw [if_neg (by simpa using h.1)]; rfl
theorem fput_at_has {n : Int} {b : List UInt8} : ∀ {F : Fl}, Rises F → fhas n F = true → fput n b F = F.set (fat n F) (n, b)
  | [], _, h => by cases h
  | p :: l, hr, h => by
    simp only [fput, fat]
    split
    · rename_i h1
      have : fhas n l = true := by
        simp only [fhas, List.any_cons, Bool.or_eq_true, beq_iff_eq] at h ⊢
        rcases h with h | h
        · omega
        · exact h
      rw [fput_at_has hr.tail this]; rfl
    · rename_i h1
      have : p.1 = n := by
        simp only [fhas, List.any_cons, Bool.or_eq_true, beq_iff_eq, List.any_eq_true] at h
        rcases h with h | ⟨q, hq, h⟩
        · exact h
        · have := hr.head q hq; omega
      rw [if_pos (by simpa using this)]; rfl
theorem fdel_at {n : Int} : ∀ {F : Fl}, Rises F → fhas n F = true → fdel n F = F.take (fat n F) ++ F.drop (fat n F + 1)
  | [], _, h => by cases h
  | p :: l, hr, h => by
    by_cases h1 : p.1 < n
    · have hl : fhas n l = true := by
        simp only [fhas, List.any_cons, Bool.or_eq_true, beq_iff_eq] at h ⊢
        rcases h with h | h
        · omega
        · exact h
      have e : fdel n (p :: l) = p :: fdel n l := by simp only [fdel, List.filter_cons]; rw [if_pos (by simp; omega)]
      rw [e, fdel_at hr.tail hl]
      simp [fat, h1]
    · have : p.1 = n := by
        simp only [fhas, List.any_cons, Bool.or_eq_true, beq_iff_eq, List.any_eq_true] at h
        rcases h with h | ⟨q, hq, h⟩
        · exact h
        · have := hr.head q hq; omega
      have e : fdel n (p :: l) = l := by
        simp only [fdel, List.filter_cons]; rw [if_neg (by simp [this])]
        exact fdel_above (fun q hq => by have := hr.head q hq; omega)
      rw [e]; simp [fat, h1]
theorem fhas_at {n : Int} : ∀ {F : Fl}, Rises F → fhas n F = (decide (fat n F < F.length) && ((F.getD (fat n F) (0, [])).1 == n))
  | [], _ => rfl
  | p :: l, hr => by
    simp only [fat]
    split
    · rename_i h1
      have : fhas n (p :: l) = fhas n l := by simp only [fhas, List.any_cons]; rw [show (p.1 == n) = false by simp; omega]; rfl
      rw [this, fhas_at hr.tail]
      simp
    · rename_i h1
      have : fhas n l = false ∨ p.1 = n := by
        by_cases hp : p.1 = n
        · exact .inr hp
        · left
          simp only [fhas, List.any_eq_false, beq_iff_eq]
          intro q hq
          have := hr.head q hq; omega
      simp only [fhas, List.any_cons] at this ⊢
      rcases this with h | h
      · rw [h]; simp
      · simp [h]
theorem fget_at {n : Int} : ∀ {F : Fl}, Rises F → fhas n F = true → fget n F = (F.getD (fat n F) (0, [])).2
  | [], _, h => by cases h
  | p :: l, hr, h => by
    simp only [fat]
    by_cases h1 : p.1 < n
    · have hl : fhas n l = true := by
        simp only [fhas, List.any_cons, Bool.or_eq_true, beq_iff_eq] at h ⊢
        rcases h with h | h
        · omega
        · exact h
      have := fget_at hr.tail hl
      rw [if_pos h1]
      simp only [fget, List.find?_cons] at this ⊢
      rw [show (p.1 == n) = false by simp; omega, this]; rfl
    · have : p.1 = n := by
        simp only [fhas, List.any_cons, Bool.or_eq_true, beq_iff_eq, List.any_eq_true] at h
        rcases h with h | ⟨q, hq, h⟩
        · exact h
        · have := hr.head q hq; omega
      rw [if_neg h1]
      simp [fget, this]
end Go.Proofs.Ytmjhdfifbjdgpaa

/- A world in which blocks of a list may have turned; maps of bodies by numbers in memory. -/
namespace Go.Proofs.Ytmjhdfifbjdgpaa
open Go Go.RowKit

structure Touch (w w' : World) (L : List Nat) : Prop where
  os : w'.os = w.os
  tape : w'.tape = w.tape
  output : w'.output = w.output
  size : w.heap.size ≤ w'.heap.size
  block : ∀ k, k < w.heap.size → k ∉ L → w'.heap[k]? = w.heap[k]?
theorem Touch.refl (w : World) (L : List Nat) : Touch w w L := ⟨rfl, rfl, rfl, Nat.le_refl _, fun _ _ _ => rfl⟩
theorem Touch.trans {a b c : World} {L M : List Nat} (h : Touch a b L) (k : Touch b c M) : Touch a c (L ++ M) :=
  ⟨k.os.trans h.os, k.tape.trans h.tape, k.output.trans h.output, Nat.le_trans h.size k.size, fun i hi hn => by
    rw [List.mem_append, not_or] at hn
    rw [k.block i (Nat.lt_of_lt_of_le hi h.size) hn.2, h.block i hi hn.1]⟩
theorem Touch.mono {w w' : World} {L M : List Nat} (h : Touch w w' L) (hs : ∀ k ∈ L, k < w.heap.size → k ∈ M) : Touch w w' M :=
  ⟨h.os, h.tape, h.output, h.size, fun k hk hn => h.block k hk fun hl => hn (hs k hl hk)⟩
theorem Touch.of_ext {w w' : World} (h : Ext w w') (L : List Nat) : Touch w w' L := ⟨h.os, h.tape, h.output, h.size, fun k hk _ => h.block k hk⟩
theorem Touch.of_grown {w w' : World} {r : Nat} {L : List Nat} (h : w.grownBy w' (some r)) (hr : r ∈ L) : Touch w w' L :=
  ⟨h.os, h.tape, h.output, h.size, fun k hk hn => h.block k hk fun e => hn (by cases e; exact hr)⟩
theorem Touch.set {w : World} {p i : Nat} {u : Value} {L : List Nat} (hp : p ∈ L) : Touch w (w.setCell ⟨p, i, none⟩ u) L :=
  ⟨rfl, rfl, rfl, by rw [Deep.nblk_setCell]; exact Nat.le_refl _, fun k _ hn => heap_setCell_other _ _ _ _ fun e => hn (by rw [e]; exact hp)⟩
theorem Touch.drew {a w : World} {L : List Nat} (h : Touch a w L) : Touch a w.drew L := ⟨h.os, h.tape, h.output, h.size, h.block⟩
theorem Touch.drewN {a w : World} {L : List Nat} (h : Touch a w L) (n : Nat) : Touch a (w.drewN n) L := ⟨h.os, h.tape, h.output, h.size, h.block⟩
theorem Touch.ext {a w w' : World} {L : List Nat} (h : Touch w w' L) (hE : Ext a w) (hL : ∀ k ∈ L, a.heap.size ≤ k) : Ext a w' :=
  ⟨h.os.trans hE.os, h.tape.trans hE.tape, h.output.trans hE.output, Nat.le_trans hE.size h.size, fun k hk => by
    rw [h.block k (Nat.lt_of_lt_of_le hk hE.size) fun hl => by have := hL k hl; omega]
    exact hE.block k hk⟩
theorem Touch.box {w w' : World} {L : List Nat} (h : Touch w w' L) {p : Nat} {cs : Array Value} {e : TypeId} (hb : BoxAt w p cs e) (hp : p ∉ L) : BoxAt w' p cs e := by
  unfold BoxAt at *
  rw [h.block p (Array.getElem?_eq_some_iff.1 hb).1 hp]; exact hb
theorem Touch.cell {w w' : World} {L : List Nat} (h : Touch w w' L) {b o : Nat} {v : Value} (hc : w.cell? ⟨b, o, none⟩ = some v) (hp : b ∉ L) : w'.cell? ⟨b, o, none⟩ = some v := by
  rw [World.cell?_of_block (w := w) (h.block b (World.block_lt_of_cell? w _ hc) hp)]; exact hc
theorem Touch.owns {w w' : World} {L : List Nat} (h : Touch w w' L) {b : Nat} {e : TypeId} {size : Nat} {v : Value} {n : Nat} {xs : List Value} (ho : w.ownsRow b e size v n xs) (hv : ∀ k, v.ownBlock = some k → k ∉ L) : w'.ownsRow b e size v n xs := by
  obtain ⟨h1, h2⟩ := ho
  refine ⟨h1, h2.imp id ?_⟩
  rintro ⟨g, cap, cur, h3⟩
  refine ⟨g, cap, cur, h3.1, h3.2.1, ?_, h3.2.2.2⟩
  rw [h.block g (Array.getElem?_eq_some_iff.1 h3.2.2.1).1 (hv g (by rw [h3.1]; rfl))]
  exact h3.2.2.1

/-- Block m is a map of bodies by numbers. -/
def FilesAt (w : World) (m : Nat) (F : Fl) : Prop := w.ownsMap Try.prog 3 (plainElem (H := Nat) Try.prog 9) m F.length (fD F) ∧ Rises F
theorem FilesAt.lt {w : World} {m : Nat} {F : Fl} (h : FilesAt w m F) : m < w.heap.size := h.1.lt
theorem Touch.files {w w' : World} {L : List Nat} (h : Touch w w' L) {m : Nat} {F : Fl} (hf : FilesAt w m F) (hm : m ∉ L) : FilesAt w' m F := by
  obtain ⟨⟨es, clock, hb, F1, hs, hD⟩, hr⟩ := hf
  exact ⟨⟨es, clock, by rw [h.block m (Array.getElem?_eq_some_iff.1 hb).1 hm]; exact hb, F1, hs, hD⟩, hr⟩
theorem FilesAt.ext {w w' : World} {m : Nat} {F : Fl} (hf : FilesAt w m F) (hE : Ext w w') : FilesAt w' m F := (Touch.of_ext hE []).files hf (by simp)
theorem und_mapis : Try.prog.underlying 99 = some (.map 3 9) := by kernel_rfl
theorem und_int0 : Try.prog.underlying 3 = some (.int .i64) := by kernel_rfl
theorem und_str0 : Try.prog.underlying 9 = some .string := by kernel_rfl
theorem keyed0 : Maps.Keyed Try.prog 3 := Maps.int_keyed und_int0
theorem zero_str (w : World) : (zeroValue 9).run Try.prog w = .ok (.string ⟨#[]⟩) w := by kernel_rfl
theorem elem_str {s : ByteArray} (hs : s.size ≤ maxLen) : plainElem (H := Nat) Try.prog 9 (.string s) = some (.lit (.string s.data.toList), []) := plainElem_string und_str0 hs
theorem wf_in {n : Int} (h0 : -9223372036854775808 ≤ n) (h1 : n ≤ 9223372036854775807) : (Lit.int .i64 n).wf = true := WalkArith.wf_i64 (by omega)
theorem owns_tight {w : World} {P : Program} {k : TypeId} {R : Value → Option (DataW Nat × List MemPlace)} {b n : Nat} {D : DataW Nat} (h : w.ownsMap P k R b n D) {n' : Nat} (hn : Maps.size D = n') : w.ownsMap P k R b n' D := by
  obtain ⟨es, clock, hb, F, hs, hD⟩ := h
  refine ⟨es, clock, hb, F, ?_, hD⟩
  rw [← hn, hD]
  simp [Maps.size, length_sorted]
theorem files_new (w : World) : FilesAt (w.alloc (.map #[] 0)) w.heap.size [] := ⟨World.ownsMap_made w Try.prog 3 _, List.Pairwise.nil⟩
theorem str_eq {s : ByteArray} {l : List UInt8} (h : s.data.toList = l) : s = str l := by
  subst h
  obtain ⟨d⟩ := s
  simp [str]
theorem files_look {w : World} {m : Nat} {F : Fl} (h : FilesAt w m F) {n : Int} (h0 : -9223372036854775808 ≤ n) (h1 : n ≤ 9223372036854775807) :
    (Instr.lookup 99 (.map (some m)) (.int .i64 n) true).run Try.prog w = .ok (.tuple #[.string (str (fget n F)), .bool (fhas n F)]) w ∧ (fget n F).length ≤ maxLen := by
  obtain ⟨v, ps, hr, hv⟩ := h.1.look_ok keyed0 und_mapis (zero_str w) (elem_str (s := ⟨#[]⟩) (by simp [ByteArray.size])) (Maps.keyOf_int_mk und_int0 (wf_in h0 h1))
  rw [fD_has] at hr
  have e : DataW.atKey (fD F : DataW Nat) (.int .i64 n) (.lit (.string (#[] : Array UInt8).toList)) = .lit (.string (fget n F)) := fD_at F n
  rw [e] at hv
  obtain ⟨s, rfl, hz, hs⟩ := plainElem_string_inv und_str0 hv
  have e2 : s.data.toList = fget n F := by
    simp only [Prod.mk.injEq, DataW.lit.injEq, Lit.string.injEq] at hz
    exact hz.1.symm
  obtain rfl := str_eq e2
  exact ⟨hr, by simpa using hs⟩
theorem files_len {w : World} {m : Nat} {F : Fl} (h : FilesAt w m F) (ty : TypeId) : (Builtin.len_ #[99] ty #[.map (some m)]).run Try.prog w = .ok (.int .i64 (F.length : Int)) w := by
  rw [h.1.len und_mapis ty, fD_size]
theorem mapTurned_touch {w w' : World} {m : Nat} (h : w.mapTurned w' m) : Touch w w' [m] := Touch.of_grown h.grown (by simp)
theorem files_put {w : World} {m : Nat} {F : Fl} (h : FilesAt w m F) {n : Int} (h0 : -9223372036854775808 ≤ n) (h1 : n ≤ 9223372036854775807) {b : ByteArray} (hb : b.size ≤ maxLen) (hn : F.length < maxLen) :
    ∃ w', (Instr.mapUpdate 99 (.map (some m)) (.int .i64 n) (.string b)).run Try.prog w = .ok () w' ∧ FilesAt w' m (fput n b.data.toList F) ∧ Touch w w' [m] := by
  obtain ⟨w', hr, ho, ht⟩ := h.1.store keyed0 und_mapis hn (Maps.keyOf_int_mk und_int0 (wf_in h0 h1)) (elem_str hb)
  rw [fD_put n _ F h.2] at ho
  exact ⟨w', hr, ⟨owns_tight ho (fD_size _), fput_rises h.2⟩, mapTurned_touch ht⟩
theorem files_del {w : World} {m : Nat} {F : Fl} (h : FilesAt w m F) {n : Int} (h0 : -9223372036854775808 ≤ n) (h1 : n ≤ 9223372036854775807) (ty : TypeId) :
    ∃ w', (Builtin.delete_ #[99, 3] ty #[.map (some m), .int .i64 n]).run Try.prog w = .ok (.tuple #[]) w' ∧ FilesAt w' m (fdel n F) ∧ Touch w w' [m] := by
  obtain ⟨w', hr, ho, ht⟩ := h.1.drop keyed0 und_mapis (Maps.keyOf_int_mk und_int0 (wf_in h0 h1)) ty
  rw [fD_del] at ho
  exact ⟨w', hr, ⟨owns_tight ho (fD_size _), fdel_rises h.2⟩, mapTurned_touch ht⟩
end Go.Proofs.Ytmjhdfifbjdgpaa

/- A slice of integers that comes in, read. -/
namespace Go.Proofs.Ytmjhdfifbjdgpaa
open Go Go.RowKit Go.ChangeShapes Go.WideShapes Go.ChangeAt

/-- The cells of a list of integers. -/
def kcells (k : IntKind) (l : List Int) : List Value := l.map (Value.int k)
@[simp] theorem kcells_length (k : IntKind) (l : List Int) : (kcells k l).length = l.length := by simp [kcells]
theorem kcells_get (k : IntKind) (l : List Int) (i : Nat) : (kcells k l)[i]? = l[i]?.map (Value.int k) := by simp [kcells]
/-- v is a slice of integers that reads as l. -/
def IntsIn (w : World) (v : Value) (k : IntKind) (l : List Int) : Prop := SliceIn w v l.length (kcells k l)
theorem IntsIn.ext {w w' : World} (hE : Ext w w') {v : Value} {k : IntKind} {l : List Int} (h : IntsIn w v k l) : IntsIn w' v k l := SliceIn.ext hE h

theorem read_ints {P : Program} {H : Type} {enc : TypeId × Value → H} {W : World} {base : Nat} {t e : TypeId} {k : IntKind} {v : Value} {d : DataW H} {p : List MemPlace} (ht : P.underlying t = some (.slice e)) (he : P.underlying e = some (.int k)) (hc : P.cellsOf e = 1)
    (hv : Value.okWide P W .any base t v) (h : DataW.Trod enc P W 0 (fun _ => true) true t v d p) : ∃ l : List Int, IntsIn W v k l ∧ ∀ n ∈ l, (Lit.int k n).wf = true := by
  obtain ⟨a, len, cap, rfl⟩ := okWide_slice ht hv
  obtain ⟨fuel, hf⟩ := h
  rcases open_ints ht he hc hf with ⟨hcs, _⟩ | ⟨x, l, c, zs, hcs, _, hl, hm, hz, _, hcell, hwz⟩
  · simp [Value.cells] at hcs
    obtain ⟨rfl, rfl, rfl⟩ := hcs
    exact ⟨[], SliceIn.nil W, by simp⟩
  · simp [Value.cells] at hcs
    obtain ⟨rfl, rfl, rfl⟩ := hcs
    have hz' : zs.length = cap := by simpa using hz
    refine ⟨zs.take len, ?_, fun n hn => hwz n (List.mem_of_mem_take hn)⟩
    have hlen : (zs.take len).length = len := by simp; omega
    unfold IntsIn
    rw [hlen]
    refine ⟨some x, cap, rfl, hl, hm, nofun, fun j u hj => ?_⟩
    rw [kcells_get, List.getElem?_take] at hj
    split at hj
    · rename_i hlt
      have hjz : j < zs.length := by omega
      have hc := hcell j hjz
      have h0 := hcell 0 (by omega)
      obtain ⟨b, o, s⟩ := x
      have hs : s = none := by
        cases s with
        | none => rfl
        | some s =>
          simp only [Addr.add, if_pos] at h0
          unfold World.cell? at h0
          split at h0 <;> simp at h0
      subst hs
      refine ⟨b, o, rfl, ?_⟩
      rw [Addr.add_lit] at hc
      rw [hc, List.getD_eq_getElem?_getD]
      rw [List.getElem?_eq_getElem hjz] at hj ⊢
      simp at hj ⊢
      exact hj
    · cases hj
end Go.Proofs.Ytmjhdfifbjdgpaa

/- Contracts of the library, laid at this program: each is one application of a theorem of the shelf (the text is the tool's, its numbers by name). -/
namespace Go.Proofs
open Go.Shelf
def Try.lays189_ren : Go.Shelf.Ren := ⟨fun | 189 => 89 | 125 => 106 | 257 => 105 | 128 => 124 | 129 => 125 | 294 => 115 | 295 => 116 | 296 => 117 | 297 => 118 | 298 => 119 | 299 => 120 | 216 => 121 | 300 => 122 | 301 => 123 | 328 => 130 | 329 => 131 | 330 => 132 | 331 => 133 | 332 => 134 | 215 => 135 | 343 => 138 | n => n, fun | 28 => 22 | 3 => 3 | 46 => 155 | 0 => 0 | 51 => 176 | 53 => 178 | 4 => 4 | 183 => 169 | 182 => 168 | 131 => 106 | 5 => 5 | 9 => 9 | 218 => 184 | 222 => 188 | 228 => 192 | 229 => 193 | n => n, fun | n => n⟩
theorem Try.lays189 : Go.Proofs.Lays.n189 Try.prog Try.lays189_ren := {
  mixed := by kernel_rfl
  f125 := Try.func106.trans (congrArg some (by kernel_rfl))
  f128 := Try.func124.trans (congrArg some (by kernel_rfl))
  f129 := Try.func125.trans (congrArg some (by kernel_rfl))
  f189 := Try.func89.trans (congrArg some (by kernel_rfl))
  f215 := Try.func135.trans (congrArg some (by kernel_rfl))
  f216 := Try.func121.trans (congrArg some (by kernel_rfl))
  f257 := Try.func105.trans (congrArg some (by kernel_rfl))
  f294 := Try.func115.trans (congrArg some (by kernel_rfl))
  f295 := Try.func116.trans (congrArg some (by kernel_rfl))
  f296 := Try.func117.trans (congrArg some (by kernel_rfl))
  f297 := Try.func118.trans (congrArg some (by kernel_rfl))
  f298 := Try.func119.trans (congrArg some (by kernel_rfl))
  f299 := Try.func120.trans (congrArg some (by kernel_rfl))
  f300 := Try.func122.trans (congrArg some (by kernel_rfl))
  f301 := Try.func123.trans (congrArg some (by kernel_rfl))
  f328 := Try.func130.trans (congrArg some (by kernel_rfl))
  f329 := Try.func131.trans (congrArg some (by kernel_rfl))
  f330 := Try.func132.trans (congrArg some (by kernel_rfl))
  f331 := Try.func133.trans (congrArg some (by kernel_rfl))
  f332 := Try.func134.trans (congrArg some (by kernel_rfl))
  f343 := Try.func138.trans (congrArg some (by kernel_rfl))
  t0 := Try.underlying0
  a0 := Try.isAgg0
  z0 := Try.sizeOf0
  v0 := Try.zeroValue0
  t3 := Try.underlying3
  a3 := Try.isAgg3
  z3 := Try.sizeOf3
  v3 := Try.zeroValue3
  t4 := Try.underlying4
  a4 := Try.isAgg4
  z4 := Try.sizeOf4
  v4 := Try.zeroValue4
  t5 := Try.underlying5
  a5 := Try.isAgg5
  z5 := Try.sizeOf5
  v5 := Try.zeroValue5
  t9 := Try.underlying9
  a9 := Try.isAgg9
  z9 := Try.sizeOf9
  v9 := Try.zeroValue9
  t28 := Try.underlying22
  a28 := Try.isAgg22
  z28 := Try.sizeOf22
  v28 := Try.zeroValue22
  t46 := Try.underlying155
  a46 := Try.isAgg155
  z46 := Try.sizeOf155
  v46 := Try.zeroValue155
  t51 := Try.underlying176
  a51 := Try.isAgg176
  z51 := Try.sizeOf176
  v51 := Try.zeroValue176
  t53 := Try.underlying178
  a53 := Try.isAgg178
  z53 := Try.sizeOf178
  v53 := Try.zeroValue178
  t131 := Try.underlying106
  a131 := Try.isAgg106
  z131 := Try.sizeOf106
  v131 := Try.zeroValue106
  t182 := Try.underlying168
  a182 := Try.isAgg168
  z182 := Try.sizeOf168
  v182 := Try.zeroValue168
  t183 := Try.underlying169
  a183 := Try.isAgg169
  z183 := Try.sizeOf169
  v183 := Try.zeroValue169
  t218 := Try.underlying184
  a218 := Try.isAgg184
  z218 := Try.sizeOf184
  v218 := Try.zeroValue184
  t222 := Try.underlying188
  a222 := Try.isAgg188
  z222 := Try.sizeOf188
  v222 := Try.zeroValue188
  t228 := Try.underlying192
  a228 := Try.isAgg192
  z228 := Try.sizeOf192
  v228 := Try.zeroValue192
  t229 := Try.underlying193
  a229 := Try.isAgg193
  z229 := Try.sizeOf193
  v229 := Try.zeroValue193 }
open Go.Sort Go.RowKit in
theorem Try.slices_Sort_int (blk off cap : Nat) (zs : List Int) (w : World) (hH : Holds (Value.int .i64) w blk off zs.toArray) (hblk : blk < w.heap.size) (hsz : zs.length < 4611686018427387904) :
    Calls Try.prog 89 #[.slice (some ⟨blk, off, none⟩) zs.length cap] w fun e w' =>
      e = .returned (.tuple #[]) ∧ ∃ n os, w' = grow (putRow (Value.int .i64) (Sort.ahead w n) blk off (zs.mergeSort fun x y => decide (x ≤ y)).toArray) os := Any.slices_Sort_int Try.lays189 blk off cap zs w hH hblk hsz
theorem Try.slices_Sort_int_none (p : Option Addr) (cap : Nat) (w : World) :
    Calls Try.prog 89 #[.slice p 0 cap] w fun e w' => e = .returned (.tuple #[]) ∧ w' = w := Any.slices_Sort_int_none Try.lays189 p cap w
end Go.Proofs
