/- A slice of integers that comes in, read. -/
import Derived.Test.YteamiiekpjoclaaM1
import Derived.ProofKit
import Derived.ChangeSlices
import Derived.WideShapes
import Derived.Test.YteamiiekpjoclaaProg
namespace Go.Proofs.Yteamiiekpjoclaa
open Go Go.RowKit Go.ChangeShapes Go.WideShapes Go.ChangeAt

/-- The cells of a list of integers. -/
def kcells (k : IntKind) (l : List Int) : List Value := l.map (Value.int k)
@[simp] theorem kcells_length (k : IntKind) (l : List Int) : (kcells k l).length = l.length := by simp [kcells]
theorem kcells_get (k : IntKind) (l : List Int) (i : Nat) : (kcells k l)[i]? = l[i]?.map (Value.int k) := by simp [kcells]
/-- v is a slice of integers that reads as l. -/
def IntsIn (w : World) (v : Value) (k : IntKind) (l : List Int) : Prop := SliceIn w v l.length (kcells k l)
theorem IntsIn.ext {w w' : World} (hE : Ext w w') {v : Value} {k : IntKind} {l : List Int} (h : IntsIn w v k l) : IntsIn w' v k l := SliceIn.ext hE h

theorem read_ints {P : Program} {H : Type} {enc : TypeId × Value → H} {W : World} {base : Nat} {t e : TypeId} {k : IntKind} {v : Value} {d : DataW H} {p : List MemPlace} (ht : P.underlying t = some (.slice e)) (he : P.underlying e = some (.int k)) (hc : P.cellsOf e = 1)
    (hv : Value.okWide P W .any base t v) (h : DataW.Trod enc P W 0 (fun _ => true) true t v d p) : ∃ l : List Int, IntsIn W v k l ∧ ∀ n ∈ l, (Lit.int k n).wf = true := by
  obtain ⟨a, len, cap, rfl⟩ := okWide_slice ht hv
  obtain ⟨fuel, hf⟩ := h
  rcases open_ints ht he hc hf with ⟨hcs, _⟩ | ⟨x, l, c, zs, hcs, _, hl, hm, hz, _, hcell, hwz⟩
  · simp [Value.cells] at hcs
    obtain ⟨rfl, rfl, rfl⟩ := hcs
    exact ⟨[], SliceIn.nil W, by simp⟩
  · simp [Value.cells] at hcs
    obtain ⟨rfl, rfl, rfl⟩ := hcs
    have hz' : zs.length = cap := by simpa using hz
    refine ⟨zs.take len, ?_, fun n hn => hwz n (List.mem_of_mem_take hn)⟩
    have hlen : (zs.take len).length = len := by simp; omega
    unfold IntsIn
    rw [hlen]
    refine ⟨some x, cap, rfl, hl, hm, nofun, fun j u hj => ?_⟩
    rw [kcells_get, List.getElem?_take] at hj
    split at hj
    · rename_i hlt
      have hjz : j < zs.length := by omega
      have hc := hcell j hjz
      have h0 := hcell 0 (by omega)
      obtain ⟨b, o, s⟩ := x
      have hs : s = none := by
        cases s with
        | none => rfl
        | some s =>
          simp only [Addr.add, if_pos] at h0
          unfold World.cell? at h0
          split at h0 <;> simp at h0
      subst hs
      refine ⟨b, o, rfl, ?_⟩
      rw [Addr.add_lit] at hc
      rw [hc, List.getD_eq_getElem?_getD]
      rw [List.getElem?_eq_getElem hjz] at hj ⊢
      simp at hj ⊢
      exact hj
    · cases hj
end Go.Proofs.Yteamiiekpjoclaa

/- Plain laws on numbers and their bytes; no program. -/
namespace Go.Proofs.Yteamiiekpjoclaa

theorem tmod_pos {v n : Int} (h : 1 ≤ n) : 0 ≤ v.tmod n → v.tmod n = v % n := by
  intro h0
  rw [Int.tmod_eq_emod] at *
  split at h0 <;> split <;> try omega
  have := Int.emod_nonneg v (show n ≠ 0 by omega)
  have := Int.emod_lt_of_pos v (show 0 < n by omega)
  omega
theorem tmod_neg {v n : Int} (h : 1 ≤ n) : v.tmod n < 0 → v.tmod n + n = v % n := by
  intro h0
  rw [Int.tmod_eq_emod] at *
  split at h0 <;> split <;> try omega
  have := Int.emod_nonneg v (show n ≠ 0 by omega)
  omega
theorem tmod_lo {v n : Int} (h : 1 ≤ n) : -n < v.tmod n ∧ v.tmod n < n := by
  rw [Int.tmod_eq_emod]
  have := Int.emod_nonneg v (show n ≠ 0 by omega)
  have := Int.emod_lt_of_pos v (show 0 < n by omega)
  split <;> omega

/-- So many bytes of a number, the greatest first. -/
def beB : Nat → Nat → List UInt8
  | 0, _ => []
  | k + 1, x => UInt8.ofNat (x / 256 ^ k) :: beB k x

theorem beB_length (k x : Nat) : (beB k x).length = k := by
  induction k with
  | zero => rfl
  | succ k ih => simp [beB, ih]

theorem beB_get {k x j : Nat} (h : j < k) : (beB k x)[j]? = some (UInt8.ofNat (x / 256 ^ (k - 1 - j))) := by
  induction k generalizing j with
  | zero => omega
  | succ k ih =>
    cases j with
    | zero => simp [beB]
    | succ j =>
      simp only [beB, List.getElem?_cons_succ]
      rw [ih (by omega)]
      congr 4
      omega

theorem byte_shift (x k : Nat) : UInt8.ofNat (((x : Int) / 2 ^ (8 * k) % 256).toNat) = UInt8.ofNat (x / 256 ^ k) := by
  have e : ((x : Int) / 2 ^ (8 * k) % 256).toNat = x / 256 ^ k % 256 := by
    rw [show (2 : Int) ^ (8 * k) = ((256 ^ k : Nat) : Int) by rw [Int.pow_mul]; simp]
    omega
  rw [e]
  apply UInt8.toNat.inj
  simp

/-- How many bits, how many bytes a number takes. -/
def bitsOf (x : Nat) : Nat := if x = 0 then 0 else Nat.log2 x + 1
def nlen (x : Nat) : Nat := (bitsOf x + 7) / 8

theorem bitsOf_lt (x : Nat) : x < 2 ^ bitsOf x := by
  unfold bitsOf
  split
  · omega
  · exact Nat.lt_log2_self
theorem bitsOf_le (x : Nat) (h : x ≠ 0) : 2 ^ (bitsOf x - 1) ≤ x := by
  unfold bitsOf
  rw [if_neg h]
  exact Nat.log2_self_le h
theorem bitsOf_unique {x n : Nat} (h1 : x < 2 ^ n) (h2 : n = 0 ∨ 2 ^ (n - 1) ≤ x) : bitsOf x = n := by
  by_cases hx : x = 0
  · subst hx
    rcases h2 with rfl | h2
    · rfl
    · have : 0 < 2 ^ (n - 1) := Nat.two_pow_pos _
      omega
  · have a := bitsOf_lt x
    have b := bitsOf_le x hx
    have hn : n ≠ 0 := by rintro rfl; simp at h1; exact hx h1
    have h2 : 2 ^ (n - 1) ≤ x := h2.resolve_left hn
    have hb : bitsOf x ≠ 0 := by unfold bitsOf; rw [if_neg hx]; omega
    have c : bitsOf x - 1 < n := (Nat.pow_lt_pow_iff_right (a := 2) (by omega)).1 (Nat.lt_of_le_of_lt b h1)
    have d : n - 1 < bitsOf x := (Nat.pow_lt_pow_iff_right (a := 2) (by omega)).1 (Nat.lt_of_le_of_lt h2 a)
    omega

theorem bitsOf_le64 {x : Nat} (h : x < 18446744073709551616) : bitsOf x ≤ 64 := by
  by_cases hx : x = 0
  · subst hx; simp [bitsOf]
  · have b := bitsOf_le x hx
    have : 2 ^ (bitsOf x - 1) < 2 ^ 64 := Nat.lt_of_le_of_lt b (by simpa using h)
    have := (Nat.pow_lt_pow_iff_right (a := 2) (by omega)).1 this
    omega

/-- A number's bytes: how many they are, and they. -/
def num (x : Nat) : List UInt8 := UInt8.ofNat (nlen x) :: beB (nlen x) x

/-- A text's bytes. -/
def esc : List UInt8 → List UInt8
  | [] => []
  | b :: l => if b = 0 then 0 :: 255 :: esc l else b :: esc l
theorem esc_append (l m : List UInt8) : esc (l ++ m) = esc l ++ esc m := by
  induction l with
  | nil => rfl
  | cons b l ih =>
    simp only [List.cons_append, esc, ih]
    split <;> simp
theorem esc_snoc (l : List UInt8) (b : UInt8) : esc (l ++ [b]) = esc l ++ if b = 0 then [0, 255] else [b] := by
  rw [esc_append]
  congr 1
theorem esc_length_le (l : List UInt8) : (esc l).length ≤ 2 * l.length := by
  induction l with
  | nil => simp [esc]
  | cons b l ih =>
    simp only [esc]
    split <;> simp <;> omega
def txt (l : List UInt8) : List UInt8 := esc l ++ [0, 1]
theorem txt_length_le (l : List UInt8) : (txt l).length ≤ 2 * l.length + 2 := by
  have := esc_length_le l
  simp [txt]
  omega
/-- A whole number's eight bytes (v, as the 64 bits that it is, and 2^63). -/
def int8 (v : Int) : List UInt8 := beB 8 ((v + 9223372036854775808) % 18446744073709551616).toNat
end Go.Proofs.Yteamiiekpjoclaa

/- Place: any number as one below another. -/
namespace Go.Proofs.Yteamiiekpjoclaa
open Go Go.RowKit

set_option maxHeartbeats 400000 in
theorem place_any (v n : Int) (h : 1 ≤ n) (hn : n ≤ 9223372036854775807) (w : World) :
    Calls Try.prog 11 #[.int .i64 v, .int .i64 n] w fun e w' => e = .returned (.int .i64 (v % n)) ∧ w = w' := by
  have hlo := (tmod_lo (v := v) h).1
  have hhi := (tmod_lo (v := v) h).2
  by_cases h0 : v.tmod n < 0
  · have HE := Lib.hid (tmod_neg h h0)
    go_enter Try.func11, Try.ntmps11
    go_wp2
    go_ret
    exact ⟨ret_int HE.out, rfl⟩
  · have h0' : 0 ≤ v.tmod n := by omega
    have HE := Lib.hid (tmod_pos h h0')
    go_enter Try.func11, Try.ntmps11
    go_wp2
    go_ret
    exact ⟨ret_int HE.out, rfl⟩

end Go.Proofs.Yteamiiekpjoclaa
