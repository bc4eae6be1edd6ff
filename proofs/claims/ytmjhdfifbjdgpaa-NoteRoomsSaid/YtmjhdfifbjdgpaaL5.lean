/- Package note: All. -/
import Derived.Test.YtmjhdfifbjdgpaaL4
import Derived.Test.YtmjhdfifbjdgpaaL2
import Derived.Test.YtmjhdfifbjdgpaaL1
import Derived.Test.YtmjhdfifbjdgpaaProg
set_option linter.unusedSimpArgs false
set_option linter.unusedVariables false
namespace Go.Proofs.Ytmjhdfifbjdgpaa
open Go Go.RowKit
attribute [local go_sem] yields yUpon

theorem fget_nth : ∀ {F : Fl} (_ : Rises F) {k : Nat} (hk : k < F.length), fget (F[k]).1 F = (F[k]).2
  | [], _, k, hk => by simp at hk
  | q :: F, h, 0, _ => by simp [fget]
  | q :: F, h, k + 1, hk => by
    have h1 := h.head (F[k]'(by simpa using hk)) (List.getElem_mem _)
    have h2 := fget_nth h.tail (k := k) (by simpa using hk)
    have h3 : (q.1 == (F[k]'(by simpa using hk)).1) = false := by simp; omega
    simp only [List.getElem_cons_succ]
    unfold fget at h2 ⊢
    rw [List.find?_cons, h3]
    exact h2

theorem files_look0 {w : World} {m : Nat} {F : Fl} (h : FilesAt w m F) {n : Int} (h0 : -9223372036854775808 ≤ n) (h1 : n ≤ 9223372036854775807) :
    (Instr.lookup 99 (.map (some m)) (.int .i64 n) false).run Try.prog w = .ok (.string (str (fget n F))) w ∧ (fget n F).length ≤ maxLen := by
  obtain ⟨v, ps, hr, hv⟩ := h.1.lookup keyed0 und_mapis (zero_str w) (elem_str (s := ⟨#[]⟩) (by simp [ByteArray.size])) (Maps.keyOf_int_mk und_int0 (wf_in h0 h1))
  have e : DataW.atKey (fD F : DataW Nat) (.int .i64 n) (.lit (.string (#[] : Array UInt8).toList)) = .lit (.string (fget n F)) := fD_at F n
  rw [e] at hv
  obtain ⟨s, rfl, hz, hs⟩ := plainElem_string_inv und_str0 hv
  have e2 : s.data.toList = fget n F := by
    simp only [Prod.mk.injEq, DataW.lit.injEq, Lit.string.injEq] at hz
    exact hz.1.symm
  obtain rfl := str_eq e2
  exact ⟨hr, by simpa using hs⟩

section
variable {p m : Nat} {F : Fl}
set_option maxHeartbeats 4000000 in
theorem nt_all (w : World) (h : NoteAt w p m F) (hF : F.length ≤ 1000000) (hK : ∀ q ∈ F, -9223372036854775808 ≤ q.1 ∧ q.1 ≤ 9223372036854775807) :
    Calls Try.prog 12 #[.pointer (some ⟨p, 0, none⟩)] w fun e w' => ∃ v, (e = .returned v ∧ Ext w w') ∧ NotesIn w' v F := by
  have c0 := h.c0
  have hr := h.files.2
  have hfl := h.files
  go_enter Try.func12, Try.ntmps12
  go_wp2_with (first
    | (go_at_call 47; go_must (refine (nk_keys (some m) w).mono ?_); rintro e w1 ⟨rfl, rfl⟩)
    | (go_at_call 46; go_must (refine (nk_sorted hF w hfl).mono ?_); rintro e w2 ⟨v2, ⟨rfl, hE2⟩, ho2⟩; obtain ⟨a2, c2, rfl, hc2, hcm2, _, hcell2⟩ := SliceIn.of_owns ho2; unfold maxLen at hcm2))
  have HC := Lib.hid hcell2
  have hkl : (keysF F).length = F.length := by simp [keysF]
  have hE02 := ((Ext.refl w).alloc (.cells #[.map (some m)] 99)).trans hE2
  have hn2 := h.ext hE02
  have HK := Lib.hid hK
  have HR := Lib.hid hr
  clear hcell2 ho2 hK hr hfl c0 hkl
  obtain ⟨n, hn⟩ : ∃ n, n = F.length := ⟨_, rfl⟩
  have HN := Lib.hid hn
  rw [← hn] at hc2 hF ⊢
  clear hn
  go_loopw [3, 13] (fun vl i wr => ∃ k : Nat, k ≤ n ∧ i = .int .i64 (k : Int) ∧ wr.ownsRow w2.heap.size 30 2 vl k (ncells (F.take k)) ∧ Ext w2 wr) (fun _ i _ => n - (intOf i).toNat)
  case atStart => exact ⟨0, Nat.zero_le _, rfl, World.ownsRow_nil _ _ _ _, Ext.refl w2⟩
  case round =>
    obtain ⟨k, hk, rfl, hown, hE⟩ := hrel
    by_cases hlt : k < n
    · have hkF : k < F.length := by rw [← HN.out]; exact hlt
      obtain ⟨b, o, rfl, hck⟩ := HC.out k (.int .i64 (F[k]).1) (by rw [kcells_get]; simp [keysF, hkF])
      replace hck := hE.cell hck
      have hb := HK.out _ (List.getElem_mem hkF)
      have hn3 := hn2.ext hE
      have hlk := (files_look0 hn3.files hb.1 hb.2).1
      rw [fget_nth HR.out hkF] at hlk
      have c0 := hn3.c0
      have HT : Hid (ncells (F.take (k + 1)) = ncells (F.take k) ++ [.int .i64 (F[k]).1, .string (str (F[k]).2)]) := Lib.hid (by rw [List.take_succ_eq_append_getElem hkF, ncells_snoc])
      obtain ⟨key, hkey⟩ : ∃ key, key = (F[k]).1 := ⟨_, rfl⟩
      obtain ⟨bd, hbd⟩ : ∃ bd, bd = str (F[k]).2 := ⟨_, rfl⟩
      rw [← hkey] at hck hlk HT
      rw [← hbd] at hlk HT
      clear hkey hbd hb
      go_wp2_with (at_builtin; go_must (refine appR info_note und_notes rfl (by decide) wr rfl (.tmp 17) (.tmp 26) rfl w2.heap.size hE.le _ k (ncells (F.take k)) hown (by rfl) 1 _ (by rfl) (by rfl) (by simp [Value.oneCell']) (by unfold maxLen; omega) (by omega) ?_); intro v8 w8 ho8 hg8)
      have hE8 := (hE.alloc (.cells #[.int .i64 key, .string bd] 30)).grown hg8 (fun q hq => (hown.lt q hq).1)
      go_roundw
      case rel => exact ⟨k + 1, by omega, by go_num, by rw [HT.out]; exact ho8, hE8⟩
      case measure => simp [intOf]; omega
    · obtain rfl : k = n := by omega
      go_wp2
      go_ret
      refine ⟨_, ⟨rfl, hE02.trans hE⟩, ?_⟩
      have h1 := SliceIn.of_owns hown
      rw [HN.out, List.take_length] at h1
      exact h1
end
end Go.Proofs.Ytmjhdfifbjdgpaa

/- Package note: clerestorylaw11.awake. -/
namespace Go.Proofs.Ytmjhdfifbjdgpaa
open Go Go.RowKit
attribute [local go_sem] yields yUpon

set_option maxHeartbeats 4000000 in
theorem awake11_any (w : World) : Calls Try.prog 14 #[] w fun e w' => e = .returned (.bool true) ∧ Ext w w' := by
  go_enter Try.func14, Try.ntmps14
  go_wp2_with (first
    | (go_at_call 8; go_must (refine (nt_new w).mono ?_); rintro e w1 ⟨rfl, hw1⟩; have hn := nt_made w; rw [← hw1] at hn; have hE1 : Ext w w1 := (by rw [hw1]; exact ((Ext.refl w).alloc _).alloc _); clear hw1)
    | (go_at_call 11; go_must (refine (nt_add 1 (by decide) (by decide) ⟨#[120]⟩ (by decide) (by decide) w1 hn).mono ?_); rintro e w2 ⟨⟨rfl, ht2⟩, hn2⟩; rw [show addB 1 (⟨#[120]⟩ : ByteArray).size [] = true from by decide] at hn2 ⊢; simp only [if_true] at hn2)
    | (go_at_call 13; go_must (refine (nt_get 1 (by decide) (by decide) w2 hn2).mono ?_); rintro e w3 ⟨rfl, rfl⟩; rw [show fget 1 (fput 1 (⟨#[120]⟩ : ByteArray).data.toList []) = [120] from by decide, show fhas 1 (fput 1 (⟨#[120]⟩ : ByteArray).data.toList []) = true from by decide]))
  refine (nt_drop 1 (by decide) (by decide) w2 hn2).mono ?_
  rintro e w4 ⟨⟨rfl, ht4⟩, hn4⟩
  rw [show fhas 1 (fput 1 (⟨#[120]⟩ : ByteArray).data.toList []) = true from by decide]
  go_wp2_with fail
  refine (nt_drop 1 (by decide) (by decide) w4 hn4).mono ?_
  rintro e w5 ⟨⟨rfl, ht5⟩, hn5⟩
  rw [show fhas 1 (fdel 1 (fput 1 (⟨#[120]⟩ : ByteArray).data.toList [])) = false from by decide]
  go_wp2
  go_ret
  exact ⟨rfl, (((ht2.trans ht4).trans ht5).mono (M := [w.heap.size]) (by simp)).ext hE1 (by simp)⟩
end Go.Proofs.Ytmjhdfifbjdgpaa

/- Plain laws on numbers and their bytes; no program. -/
namespace Go.Proofs.Ytmjhdfifbjdgpaa

theorem tmod_pos {v n : Int} (h : 1 ≤ n) : 0 ≤ v.tmod n → v.tmod n = v % n := by
  intro h0
  rw [Int.tmod_eq_emod] at *
  split at h0 <;> split <;> try omega
  have := Int.emod_nonneg v (show n ≠ 0 by omega)
  have := Int.emod_lt_of_pos v (show 0 < n by omega)
  omega
theorem tmod_neg {v n : Int} (h : 1 ≤ n) : v.tmod n < 0 → v.tmod n + n = v % n := by
  intro h0
  rw [Int.tmod_eq_emod] at *
  split at h0 <;> split <;> try omega
  have := Int.emod_nonneg v (show n ≠ 0 by omega)
  omega
theorem tmod_lo {v n : Int} (h : 1 ≤ n) : -n < v.tmod n ∧ v.tmod n < n := by
  rw [Int.tmod_eq_emod]
  have := Int.emod_nonneg v (show n ≠ 0 by omega)
  have := Int.emod_lt_of_pos v (show 0 < n by omega)
  split <;> omega

/-- So many bytes of a number, the greatest first. -/
def beB : Nat → Nat → List UInt8
  | 0, _ => []
  | k + 1, x => UInt8.ofNat (x / 256 ^ k) :: beB k x

theorem beB_length (k x : Nat) : (beB k x).length = k := by
  induction k with
  | zero => rfl
  | succ k ih => simp [beB, ih]

theorem beB_get {k x j : Nat} (h : j < k) : (beB k x)[j]? = some (UInt8.ofNat (x / 256 ^ (k - 1 - j))) := by
  induction k generalizing j with
  | zero => omega
  | succ k ih =>
    cases j with
    | zero => simp [beB]
    | succ j =>
      simp only [beB, List.getElem?_cons_succ]
      rw [ih (by omega)]
      congr 4
      omega

theorem byte_shift (x k : Nat) : UInt8.ofNat (((x : Int) / 2 ^ (8 * k) % 256).toNat) = UInt8.ofNat (x / 256 ^ k) := by
  have e : ((x : Int) / 2 ^ (8 * k) % 256).toNat = x / 256 ^ k % 256 := by
    rw [show (2 : Int) ^ (8 * k) = ((256 ^ k : Nat) : Int) by rw [Int.pow_mul]; simp]
    omega
  rw [e]
  apply UInt8.toNat.inj
  simp

/-- How many bits, how many bytes a number takes. -/
def bitsOf (x : Nat) : Nat := if x = 0 then 0 else Nat.log2 x + 1
def nlen (x : Nat) : Nat := (bitsOf x + 7) / 8

theorem bitsOf_lt (x : Nat) : x < 2 ^ bitsOf x := by
  unfold bitsOf
  split
  · omega
  · exact Nat.lt_log2_self
theorem bitsOf_le (x : Nat) (h : x ≠ 0) : 2 ^ (bitsOf x - 1) ≤ x := by
  unfold bitsOf
  rw [if_neg h]
  exact Nat.log2_self_le h
theorem bitsOf_unique {x n : Nat} (h1 : x < 2 ^ n) (h2 : n = 0 ∨ 2 ^ (n - 1) ≤ x) : bitsOf x = n := by
  by_cases hx : x = 0
  · subst hx
    rcases h2 with rfl | h2
    · rfl
    · have : 0 < 2 ^ (n - 1) := Nat.two_pow_pos _
      omega
  · have a := bitsOf_lt x
    have b := bitsOf_le x hx
    have hn : n ≠ 0 := by rintro rfl; simp at h1; exact hx h1
    have h2 : 2 ^ (n - 1) ≤ x := h2.resolve_left hn
    have hb : bitsOf x ≠ 0 := by unfold bitsOf; rw [if_neg hx]; omega
    have c : bitsOf x - 1 < n := (Nat.pow_lt_pow_iff_right (a := 2) (by omega)).1 (Nat.lt_of_le_of_lt b h1)
    have d : n - 1 < bitsOf x := (Nat.pow_lt_pow_iff_right (a := 2) (by omega)).1 (Nat.lt_of_le_of_lt h2 a)
    omega

theorem bitsOf_le64 {x : Nat} (h : x < 18446744073709551616) : bitsOf x ≤ 64 := by
  by_cases hx : x = 0
  · subst hx; simp [bitsOf]
  · have b := bitsOf_le x hx
    have : 2 ^ (bitsOf x - 1) < 2 ^ 64 := Nat.lt_of_le_of_lt b (by simpa using h)
    have := (Nat.pow_lt_pow_iff_right (a := 2) (by omega)).1 this
    omega

/-- A number's bytes: how many they are, and they. -/
def num (x : Nat) : List UInt8 := UInt8.ofNat (nlen x) :: beB (nlen x) x

/-- A text's bytes. -/
def esc : List UInt8 → List UInt8
  | [] => []
  | b :: l => if b = 0 then 0 :: 255 :: esc l else b :: esc l
theorem esc_append (l m : List UInt8) : esc (l ++ m) = esc l ++ esc m := by
  induction l with
  | nil => rfl
  | cons b l ih =>
    simp only [List.cons_append, esc, ih]
    split <;> simp
theorem esc_snoc (l : List UInt8) (b : UInt8) : esc (l ++ [b]) = esc l ++ if b = 0 then [0, 255] else [b] := by
  rw [esc_append]
  congr 1
theorem esc_length_le (l : List UInt8) : (esc l).length ≤ 2 * l.length := by
  induction l with
  | nil => simp [esc]
  | cons b l ih =>
    simp only [esc]
    split <;> simp <;> omega
def txt (l : List UInt8) : List UInt8 := esc l ++ [0, 1]
theorem txt_length_le (l : List UInt8) : (txt l).length ≤ 2 * l.length + 2 := by
  have := esc_length_le l
  simp [txt]
  omega
/-- A whole number's eight bytes (v, as the 64 bits that it is, and 2^63). -/
def int8 (v : Int) : List UInt8 := beB 8 ((v + 9223372036854775808) % 18446744073709551616).toNat
end Go.Proofs.Ytmjhdfifbjdgpaa

/- Place: any number as one below another. -/
namespace Go.Proofs.Ytmjhdfifbjdgpaa
open Go Go.RowKit

set_option maxHeartbeats 400000 in
theorem place_any (v n : Int) (h : 1 ≤ n) (hn : n ≤ 9223372036854775807) (w : World) :
    Calls Try.prog 9 #[.int .i64 v, .int .i64 n] w fun e w' => e = .returned (.int .i64 (v % n)) ∧ w = w' := by
  have hlo := (tmod_lo (v := v) h).1
  have hhi := (tmod_lo (v := v) h).2
  by_cases h0 : v.tmod n < 0
  · have HE := Lib.hid (tmod_neg h h0)
    go_enter Try.func9, Try.ntmps9
    go_wp2
    go_ret
    exact ⟨ret_int HE.out, rfl⟩
  · have h0' : 0 ≤ v.tmod n := by omega
    have HE := Lib.hid (tmod_pos h h0')
    go_enter Try.func9, Try.ntmps9
    go_wp2
    go_ret
    exact ⟨ret_int HE.out, rfl⟩

end Go.Proofs.Ytmjhdfifbjdgpaa
