/- The reference's code points: cont, one. (what a smaller cut has) -/
import Derived.Test.YtimbikbbbfpeeaaGreatDoorP1
import Derived.Test.YtimbikbbbfpeeaaGreatDoorProg
import Derived.Lib.DecodeN
import Derived.Lib.Hide
import Derived.Laws.BitsLemmas
set_option linter.unusedSimpArgs false
set_option linter.unusedVariables false
namespace Go.Proofs.YtimbikbbbfpeeaaGreatDoor
open Go Go.RowKit
attribute [local go_sem] yields yUpon

/-- Does a byte go on? -/
def goesOn (b : UInt8) : Bool := decide (b.toNat / 64 = 2)
def contB (s : ByteArray) (at_ n : Nat) : Bool := decide (at_ + n ≤ s.size) && (List.range n).all fun i => goesOn (s.get! (at_ + i))
theorem bits192 : ∀ n : Fin 256, (bits BinOp.and IntKind.u8 ((n.val : Nat) : Int) 192 != 128) = !decide (n.val / 64 = 2) := by decide +kernel
theorem goes_bits (b : UInt8) : (bits BinOp.and IntKind.u8 (b.toNat : Int) 192 != 128) = !goesOn b := bits192 ⟨b.toNat, b.toNat_lt⟩
theorem get_bang {s : ByteArray} {i : Nat} (h : i < s.size) : s.get! i = s[i]'h := by
  simp [ByteArray.get!, getElem!_pos, h]
  rfl
theorem contB_false {s : ByteArray} {at_ n k : Nat} (hk : k < n) (h : goesOn (s.get! (at_ + k)) = false) : contB s at_ n = false := by
  unfold contB
  rw [Bool.and_eq_false_iff]
  right
  rw [List.all_eq_false]
  exact ⟨k, by simpa using hk, by rw [h]; decide⟩
theorem contB_true {s : ByteArray} {at_ n : Nat} (hl : at_ + n ≤ s.size) (h : ∀ j, j < n → goesOn (s.get! (at_ + j)) = true) : contB s at_ n = true := by
  unfold contB
  rw [Bool.and_eq_true]
  refine ⟨by simpa using hl, ?_⟩
  rw [List.all_eq_true]
  intro j hj
  exact h j (by simpa using hj)

/-- What is put together behind a first byte. -/
def accR (s : ByteArray) (at_ r0 : Nat) : Nat → Nat
  | 0 => r0
  | k + 1 => accR s at_ r0 k * 64 + (s.get! (at_ + (k + 1))).toNat % 64
theorem accR_lt (s : ByteArray) (at_ r0 : Nat) (h : r0 < 32) : ∀ k, k ≤ 3 → accR s at_ r0 k < 8388608 ∧ (k ≤ 2 → accR s at_ r0 k < 131072)
  | 0, _ => ⟨by show r0 < _; omega, fun _ => by show r0 < _; omega⟩
  | 1, _ => ⟨by show r0 * 64 + _ % 64 < _; omega, fun _ => by show r0 * 64 + _ % 64 < _; omega⟩
  | 2, _ => ⟨by show (r0 * 64 + _ % 64) * 64 + _ % 64 < _; omega, fun _ => by show (r0 * 64 + _ % 64) * 64 + _ % 64 < _; omega⟩
  | 3, _ => ⟨by show ((r0 * 64 + _ % 64) * 64 + _ % 64) * 64 + _ % 64 < _; omega, fun h => by omega⟩

theorem accR_one (s : ByteArray) (at_ r0 k : Nat) (h : r0 < 32) (hk : k + 1 ≤ 3) : bits BinOp.or IntKind.i32 (wrap32 ((accR s at_ r0 k : Int) * 64)) (wrap32 (bits BinOp.and IntKind.u8 ((s.get! (at_ + (k + 1))).toNat : Int) 63)) = (accR s at_ r0 (k + 1) : Nat) := by
  have hb := (s.get! (at_ + (k + 1))).toNat_lt
  have ha := (accR_lt s at_ r0 h k (by omega)).2 (by omega)
  rw [u8_and63 _ (by omega) (by omega)]
  unfold wrap32
  rw [show ((accR s at_ r0 k : Int) * 64 + 2147483648) % 4294967296 - 2147483648 = (accR s at_ r0 k : Int) * 64 by omega, show (((s.get! (at_ + (k + 1))).toNat : Int) % 64 + 2147483648) % 4294967296 - 2147483648 = ((s.get! (at_ + (k + 1))).toNat : Int) % 64 by omega]
  rw [i32_or6 _ _ (by omega) (by omega) (by omega) (by omega) (by omega)]
  show _ = ((accR s at_ r0 k * 64 + (s.get! (at_ + (k + 1))).toNat % 64 : Nat) : Int)
  omega
def rC (r : Int) (at_ n : Nat) (ok : Bool) : Array Value := #[.int .i32 r, .int .i64 at_, .int .i64 n, .bool ok]
/-- The code point at a place, as the reference has it. -/
def moreR (s : ByteArray) (at_ n r0 : Nat) : Nat × Nat × Bool :=
  if contB s (at_ + 1) n = true then
    if (n = 2 ∧ (accR s at_ r0 n < 2048 ∨ 55296 ≤ accR s at_ r0 n ∧ accR s at_ r0 n < 57344)) ∨ (n = 3 ∧ (accR s at_ r0 n < 65536 ∨ 1114111 < accR s at_ r0 n)) then (65533, 1, false) else (accR s at_ r0 n, n + 1, true)
  else (65533, 1, false)
def roneC (s : ByteArray) (at_ c : Nat) : Nat × Nat × Bool :=
  if c < 128 then (c, 1, true) else if 194 ≤ c ∧ c < 224 then moreR s at_ 1 (c % 32) else if 224 ≤ c ∧ c < 240 then moreR s at_ 2 (c % 16) else if 240 ≤ c ∧ c < 245 then moreR s at_ 3 (c % 8) else (65533, 1, false)
def roneR (s : ByteArray) (at_ : Nat) : Nat × Nat × Bool := roneC s at_ (s.get! at_).toNat
theorem mask_i32 (b : UInt8) (i : Nat) (hi : i ≤ 31) : bits BinOp.and IntKind.i32 (b.toNat : Int) (2 ^ i - 1) = ((b.toNat % 2 ^ i : Nat) : Int) := by
  have := b.toNat_lt
  rw [bits_mask .i32 31 (by decide) wraps_i32 i hi _ (by omega) (by omega)]
  simp
end Go.Proofs.YtimbikbbbfpeeaaGreatDoor

/- The reference's code points: All, Letter, Name. (what a smaller cut has) -/
namespace Go.Proofs.YtimbikbbbfpeeaaGreatDoor
open Go Go.RowKit
attribute [local go_sem] yields yUpon

structure Rn where
  r : Nat
  at_ : Nat
  n : Nat
  ok : Bool
def rn4 (x : Rn) : Array Value := #[.int .i32 x.r, .int .i64 x.at_, .int .i64 x.n, .bool x.ok]
attribute [local go_sem] rn4
def rnCells : List Rn → List Value
  | [] => []
  | x :: l => .int .i32 x.r :: .int .i64 x.at_ :: .int .i64 x.n :: .bool x.ok :: rnCells l
theorem rnCells_append (l m : List Rn) : rnCells (l ++ m) = rnCells l ++ rnCells m := by
  induction l with
  | nil => rfl
  | cons c l ih => simp [rnCells, ih]
theorem rnCells_get : ∀ (l : List Rn) (k : Nat) (h : k < l.length), (rnCells l)[k * 4]? = some (.int .i32 l[k].r) ∧ (rnCells l)[k * 4 + 1]? = some (.int .i64 l[k].at_) ∧ (rnCells l)[k * 4 + 2]? = some (.int .i64 l[k].n) ∧ (rnCells l)[k * 4 + 3]? = some (.bool l[k].ok)
  | c :: l, 0, _ => by simp [rnCells]
  | c :: l, k + 1, h => by
    have ih := rnCells_get l k (by simpa using h)
    have e : (k + 1) * 4 = k * 4 + 4 := by omega
    simp only [e, rnCells, List.getElem_cons_succ]
    simpa using ih
def rnOf (s : ByteArray) (at_ : Nat) : Rn := ⟨(roneR s at_).1, at_, (roneR s at_).2.1, (roneR s at_).2.2⟩
def rsF (s : ByteArray) : Nat → Nat → List Rn
  | 0, _ => []
  | f + 1, at_ => if at_ < s.size then rnOf s at_ :: rsF s f (at_ + (rnOf s at_).n) else []
def rsAll (s : ByteArray) : List Rn := rsF s s.size 0
theorem rsF_end (s : ByteArray) (f k : Nat) (h : s.size ≤ k) : rsF s f k = [] := by
  cases f with
  | zero => rfl
  | succ f => unfold rsF; rw [if_neg (by omega)]
theorem more_size (s : ByteArray) (at_ n r0 : Nat) (ha : at_ < s.size) : 1 ≤ (moreR s at_ n r0).2.1 ∧ at_ + (moreR s at_ n r0).2.1 ≤ s.size := by
  unfold moreR
  split
  · rename_i h
    unfold contB at h
    rw [Bool.and_eq_true] at h
    have : at_ + 1 + n ≤ s.size := by simpa using h.1
    split
    · exact ⟨Nat.le_refl _, ha⟩
    · exact ⟨by show 1 ≤ n + 1; omega, by show at_ + (n + 1) ≤ _; omega⟩
  · exact ⟨Nat.le_refl _, ha⟩
theorem rone_size (s : ByteArray) (at_ : Nat) (ha : at_ < s.size) : 1 ≤ (rnOf s at_).n ∧ at_ + (rnOf s at_).n ≤ s.size := by
  show 1 ≤ (roneR s at_).2.1 ∧ at_ + (roneR s at_).2.1 ≤ s.size
  unfold roneR roneC
  split
  · exact ⟨Nat.le_refl _, ha⟩
  · split
    · exact more_size s at_ 1 _ ha
    · split
      · exact more_size s at_ 2 _ ha
      · split
        · exact more_size s at_ 3 _ ha
        · exact ⟨Nat.le_refl _, ha⟩

theorem BoxAt.rn {w : World} {p : Nat} {x : Rn} {T : TypeId} (h : BoxAt w p (rn4 x) T) : w.cell? ⟨p, 0, none⟩ = some (.int .i32 x.r) ∧ w.cell? ⟨p, 1, none⟩ = some (.int .i64 x.at_) ∧ w.cell? ⟨p, 2, none⟩ = some (.int .i64 x.n) ∧ w.cell? ⟨p, 3, none⟩ = some (.bool x.ok) := ⟨h.cell 0, h.cell 1, h.cell 2, h.cell 3⟩

def letB (x : Rn) : Bool := x.ok && ((decide (97 ≤ x.r) && decide (x.r ≤ 122)) || x.r == 95 || decide (128 ≤ x.r))
def okN (i : Nat) (x : Rn) : Bool := letB x || (!decide (i = 0) && (decide (48 ≤ x.r) && decide (x.r ≤ 57)))
def nmLoop : Nat → List Rn → Bool
  | _, [] => true
  | i, x :: l => okN i x && nmLoop (i + 1) l
/-- Is a text a name? -/
def nameB (s : ByteArray) : Bool := nmLoop 0 (rsAll s) && (decide (1 ≤ s.size) && decide (s.size ≤ 100))
theorem rs_len (s : ByteArray) : ∀ f k, k ≤ s.size → (rsF s f k).length ≤ s.size - k
  | 0, k, _ => Nat.zero_le _
  | f + 1, k, hk => by
    unfold rsF
    split
    · rename_i h
      have h1 := rone_size s k h
      have := rs_len s f (k + (rnOf s k).n) h1.2
      simp only [List.length_cons]
      omega
    · exact Nat.zero_le _
end Go.Proofs.YtimbikbbbfpeeaaGreatDoor

/- The reference's code points are the model's (plain law). -/
namespace Go.Proofs.YtimbikbbbfpeeaaGreatDoor
open Go Go.RowKit Go.Lib

theorem contB_eq (s : ByteArray) (a n : Nat) : contB s a n = true ↔ a + n ≤ s.size ∧ ∀ i, i < n → (s.get! (a + i)).toNat / 64 = 2 := by
  unfold contB goesOn
  rw [Bool.and_eq_true, decide_eq_true_eq, List.all_eq_true]
  constructor
  · rintro ⟨h1, h2⟩
    exact ⟨h1, fun i hi => by have := h2 i (by simpa using hi); simpa using this⟩
  · rintro ⟨h1, h2⟩
    exact ⟨h1, fun i hi => by have := h2 i (by simpa using hi); simpa using this⟩
section
variable (s : ByteArray) (a r0 : Nat)
theorem cont1 (ha : a < s.size) : contB s (a + 1) 1 = true ↔ 1 < s.size - a ∧ (s.get! (a + 1)).toNat / 64 = 2 := by
  rw [contB_eq]
  constructor
  · rintro ⟨h1, h2⟩; exact ⟨by omega, h2 0 (by omega)⟩
  · rintro ⟨h1, h2⟩
    refine ⟨by omega, fun i hi => ?_⟩
    obtain rfl : i = 0 := by omega
    exact h2
theorem cont2 (ha : a < s.size) : contB s (a + 1) 2 = true ↔ 2 < s.size - a ∧ (s.get! (a + 1)).toNat / 64 = 2 ∧ (s.get! (a + 2)).toNat / 64 = 2 := by
  rw [contB_eq]
  constructor
  · rintro ⟨h1, h2⟩; exact ⟨by omega, h2 0 (by omega), h2 1 (by omega)⟩
  · rintro ⟨h1, h2, h3⟩
    refine ⟨by omega, fun i hi => ?_⟩
    obtain rfl | rfl : i = 0 ∨ i = 1 := by omega
    · exact h2
    · exact h3
theorem cont3 (ha : a < s.size) : contB s (a + 1) 3 = true ↔ 3 < s.size - a ∧ (s.get! (a + 1)).toNat / 64 = 2 ∧ (s.get! (a + 2)).toNat / 64 = 2 ∧ (s.get! (a + 3)).toNat / 64 = 2 := by
  rw [contB_eq]
  constructor
  · rintro ⟨h1, h2⟩; exact ⟨by omega, h2 0 (by omega), h2 1 (by omega), h2 2 (by omega)⟩
  · rintro ⟨h1, h2, h3, h4⟩
    refine ⟨by omega, fun i hi => ?_⟩
    obtain rfl | rfl | rfl : i = 0 ∨ i = 1 ∨ i = 2 := by omega
    · exact h2
    · exact h3
    · exact h4
theorem moreR_1 (ha : a < s.size) : moreR s a 1 r0 = if 1 < s.size - a ∧ (s.get! (a + 1)).toNat / 64 = 2 then (r0 * 64 + (s.get! (a + 1)).toNat % 64, 2, true) else (65533, 1, false) := by
  unfold moreR
  by_cases h : contB s (a + 1) 1 = true
  · rw [if_pos h, if_pos ((cont1 s a ha).1 h), if_neg (by omega)]
    rfl
  · rw [if_neg h, if_neg (fun h' => h ((cont1 s a ha).2 h'))]
theorem moreR_2 (ha : a < s.size) : moreR s a 2 r0 = if 2 < s.size - a ∧ (s.get! (a + 1)).toNat / 64 = 2 ∧ (s.get! (a + 2)).toNat / 64 = 2 then (if (r0 * 64 + (s.get! (a + 1)).toNat % 64) * 64 + (s.get! (a + 2)).toNat % 64 < 2048 ∨ 55296 ≤ (r0 * 64 + (s.get! (a + 1)).toNat % 64) * 64 + (s.get! (a + 2)).toNat % 64 ∧ (r0 * 64 + (s.get! (a + 1)).toNat % 64) * 64 + (s.get! (a + 2)).toNat % 64 < 57344 then (65533, 1, false) else ((r0 * 64 + (s.get! (a + 1)).toNat % 64) * 64 + (s.get! (a + 2)).toNat % 64, 3, true)) else (65533, 1, false) := by
  unfold moreR
  have hR : accR s a r0 2 = (r0 * 64 + (s.get! (a + 1)).toNat % 64) * 64 + (s.get! (a + 2)).toNat % 64 := rfl
  by_cases h : contB s (a + 1) 2 = true
  · rw [if_pos h, if_pos ((cont2 s a ha).1 h), ← hR]
    obtain ⟨R, hRR⟩ : ∃ R, R = accR s a r0 2 := ⟨_, rfl⟩
    rw [← hRR]
    by_cases h2 : R < 2048 ∨ 55296 ≤ R ∧ R < 57344
    · rw [if_pos (Or.inl ⟨rfl, h2⟩), if_pos h2]
    · rw [if_neg h2, if_neg]
      rintro (⟨_, h3⟩ | ⟨h3, _⟩)
      · exact h2 h3
      · omega
  · rw [if_neg h, if_neg (fun h' => h ((cont2 s a ha).2 h'))]
theorem moreR_3 (ha : a < s.size) : moreR s a 3 r0 = if 3 < s.size - a ∧ (s.get! (a + 1)).toNat / 64 = 2 ∧ (s.get! (a + 2)).toNat / 64 = 2 ∧ (s.get! (a + 3)).toNat / 64 = 2 then (if ((r0 * 64 + (s.get! (a + 1)).toNat % 64) * 64 + (s.get! (a + 2)).toNat % 64) * 64 + (s.get! (a + 3)).toNat % 64 < 65536 ∨ 1114111 < ((r0 * 64 + (s.get! (a + 1)).toNat % 64) * 64 + (s.get! (a + 2)).toNat % 64) * 64 + (s.get! (a + 3)).toNat % 64 then (65533, 1, false) else (((r0 * 64 + (s.get! (a + 1)).toNat % 64) * 64 + (s.get! (a + 2)).toNat % 64) * 64 + (s.get! (a + 3)).toNat % 64, 4, true)) else (65533, 1, false) := by
  unfold moreR
  have hR : accR s a r0 3 = ((r0 * 64 + (s.get! (a + 1)).toNat % 64) * 64 + (s.get! (a + 2)).toNat % 64) * 64 + (s.get! (a + 3)).toNat % 64 := rfl
  by_cases h : contB s (a + 1) 3 = true
  · rw [if_pos h, if_pos ((cont3 s a ha).1 h), ← hR]
    obtain ⟨R, hRR⟩ : ∃ R, R = accR s a r0 3 := ⟨_, rfl⟩
    rw [← hRR]
    by_cases h2 : R < 65536 ∨ 1114111 < R
    · rw [if_pos (Or.inr ⟨rfl, h2⟩), if_pos h2]
    · rw [if_neg h2, if_neg]
      rintro (⟨h3, _⟩ | ⟨_, h3⟩)
      · omega
      · exact h2 h3
  · rw [if_neg h, if_neg (fun h' => h ((cont3 s a ha).2 h'))]
end
def flagD (p : Nat × Nat) : Nat × Nat × Bool := (p.1, p.2, !decide (p.1 = 65533 ∧ p.2 = 1))
theorem flag_bad : (65533, 1, false) = flagD (65533, 1) := by decide
theorem flag_ok (r n : Nat) (h : r ≠ 65533 ∨ n ≠ 1) : (r, n, true) = flagD (r, n) := by
  unfold flagD
  have : decide (r = 65533 ∧ n = 1) = false := by simp; omega
  rw [this]
  rfl
set_option maxHeartbeats 4000000 in
theorem rune_N (n b0 b1 b2 b3 : Nat) (h0 : b0 < 256) :
    (if b0 < 128 then (b0, 1, true) else if 194 ≤ b0 ∧ b0 < 224 then (if 1 < n ∧ b1 / 64 = 2 then (b0 % 32 * 64 + b1 % 64, 2, true) else (65533, 1, false))
      else if 224 ≤ b0 ∧ b0 < 240 then (if 2 < n ∧ b1 / 64 = 2 ∧ b2 / 64 = 2 then (if (b0 % 16 * 64 + b1 % 64) * 64 + b2 % 64 < 2048 ∨ 55296 ≤ (b0 % 16 * 64 + b1 % 64) * 64 + b2 % 64 ∧ (b0 % 16 * 64 + b1 % 64) * 64 + b2 % 64 < 57344 then (65533, 1, false) else ((b0 % 16 * 64 + b1 % 64) * 64 + b2 % 64, 3, true)) else (65533, 1, false))
      else if 240 ≤ b0 ∧ b0 < 245 then (if 3 < n ∧ b1 / 64 = 2 ∧ b2 / 64 = 2 ∧ b3 / 64 = 2 then (if ((b0 % 8 * 64 + b1 % 64) * 64 + b2 % 64) * 64 + b3 % 64 < 65536 ∨ 1114111 < ((b0 % 8 * 64 + b1 % 64) * 64 + b2 % 64) * 64 + b3 % 64 then (65533, 1, false) else (((b0 % 8 * 64 + b1 % 64) * 64 + b2 % 64) * 64 + b3 % 64, 4, true)) else (65533, 1, false))
      else (65533, 1, false)) = flagD (decodeN n b0 b1 b2 b3) := by
  unfold decodeN
  have e2 : (b0 % 16 * 64 + b1 % 64) * 64 + b2 % 64 = b0 % 16 * 4096 + b1 % 64 * 64 + b2 % 64 := by omega
  have e3 : ((b0 % 8 * 64 + b1 % 64) * 64 + b2 % 64) * 64 + b3 % 64 = b0 % 8 * 262144 + b1 % 64 * 4096 + b2 % 64 * 64 + b3 % 64 := by omega
  rw [e2, e3]
  repeat' split
  all_goals first
    | exact flag_bad
    | (exfalso; omega)
    | exact flag_ok _ _ (.inr (by decide))
    | exact flag_ok _ _ (.inl (by omega))
/-- A code point of the reference is the model's. -/
theorem roneR_decode (s : ByteArray) (a : Nat) (ha : a < s.size) : roneR s a = ((Utf8.decode s a).1, (Utf8.decode s a).2, !decide ((Utf8.decode s a).1 = 65533 ∧ (Utf8.decode s a).2 = 1)) := by
  show roneR s a = flagD (Utf8.decode s a)
  rw [decode_at, ← rune_N (s.size - a) _ _ _ _ (s.get! a).toNat_lt]
  unfold roneR roneC
  rw [moreR_1 s a _ ha, moreR_2 s a _ ha, moreR_3 s a _ ha]
end Go.Proofs.YtimbikbbbfpeeaaGreatDoor
