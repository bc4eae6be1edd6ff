/- Numbers: what is put is got; cut it is none (plain law). -/
import Derived.Test.YtcmgeccgahakbaaDoorS2
import Derived.Test.YtcmgeccgahakbaaDoorS9
import Derived.Test.YtcmgeccgahakbaaDoorS13
set_option linter.unusedSimpArgs false
set_option linter.unusedVariables false
namespace Go.Proofs.YtcmgeccgahakbaaDoor
open Go Go.RowKit

theorem valB_cons (b : UInt8) (l : List UInt8) : valB (b :: l) = b.toNat * 256 ^ l.length + valB l := by
  have key : ∀ (m : List UInt8) (v : Nat), m.foldl (fun v b => v * 256 + b.toNat) v = v * 256 ^ m.length + valB m := by
    intro m
    induction m with
    | nil => intro v; simp [valB]
    | cons c m ih =>
      intro v
      have h1 := ih (v * 256 + c.toNat)
      have h2 := ih (0 * 256 + c.toNat)
      unfold valB
      rw [List.foldl_cons, List.foldl_cons, h1, h2, List.length_cons, Nat.pow_succ]
      simp only [Nat.add_mul, Nat.zero_mul, Nat.zero_add, Nat.mul_assoc, Nat.mul_comm 256]
      omega
  have := key l (0 * 256 + b.toNat)
  unfold valB at *
  rw [List.foldl_cons, this]
  simp
theorem valB_beB (k x : Nat) : valB (beB k x) = x % 256 ^ k := by
  induction k with
  | zero => simp [beB, valB, Nat.mod_one]
  | succ k ih =>
    rw [beB, valB_cons, ih, beB_length, Nat.mod_pow_succ]
    have : (UInt8.ofNat (x / 256 ^ k)).toNat = x / 256 ^ k % 256 := by simp
    rw [this, Nat.mul_comm]
    omega

theorem num_len (x : Nat) : (num x).length = nlen x + 1 := by simp [num, beB_length]
theorem nlen_le (x : Nat) (hx : x < 18446744073709551616) : nlen x ≤ 8 := by have := bitsOf_le64 hx; unfold nlen; omega
theorem nlen_lt (x : Nat) : x < 256 ^ nlen x := by
  rw [show (256 : Nat) = 2 ^ 8 by decide, ← Nat.pow_mul]
  refine Nat.lt_of_lt_of_le (bitsOf_lt x) (Nat.pow_le_pow_right (by decide) ?_)
  unfold nlen; omega
theorem top_ne (x : Nat) (h : 0 < nlen x) : UInt8.ofNat (x / 256 ^ (nlen x - 1)) ≠ 0 := by
  have hx : x ≠ 0 := by rintro rfl; simp [nlen, bitsOf] at h
  have h1 : 256 ^ (nlen x - 1) ≤ x := by
    rw [show (256 : Nat) = 2 ^ 8 by decide, ← Nat.pow_mul]
    refine Nat.le_trans (Nat.pow_le_pow_right (by decide) ?_) (bitsOf_le x hx)
    unfold nlen; omega
  have h2 : x / 256 ^ (nlen x - 1) < 256 := by
    refine Nat.div_lt_of_lt_mul ?_
    rw [← Nat.pow_succ, show (nlen x - 1).succ = nlen x by omega]
    exact nlen_lt x
  have h3 : 0 < x / 256 ^ (nlen x - 1) := Nat.div_pos h1 (Nat.pow_pos (by decide))
  intro he
  have := congrArg UInt8.toNat he
  rw [UInt8.toNat_ofNat_of_lt' h2] at this
  simp at this
  omega

theorem getNum_back (H R : List UInt8) (x : Nat) (hx : x < 18446744073709551616) : getNum (H ++ num x ++ R) (H.length : Int) = (x, ((H ++ num x).length : Int), 0) := by
  have h8 := nlen_le x hx
  unfold getNum
  rw [if_neg (by omega), Int.toNat_natCast]
  unfold getNumN
  have hlen : (H ++ num x ++ R).length = H.length + (nlen x + 1) + R.length := by simp [num_len]; omega
  rw [if_neg (by omega), dif_pos (by omega)]
  have e0 : (H ++ num x ++ R)[H.length]'(by omega) = UInt8.ofNat (nlen x) := by simp [num]
  have e1 : (UInt8.ofNat (nlen x)).toNat = nlen x := UInt8.toNat_ofNat_of_lt' (by show nlen x < 256; omega)
  rw [e0, e1, if_neg (by omega)]
  have e2 : (H ++ num x ++ R)[H.length + 1]? = (beB (nlen x) x ++ R)[0]? := by
    rw [List.append_assoc, List.getElem?_append_right (by omega)]
    simp [num]
  rw [e2, if_neg, if_neg (by omega)]
  · have e3 : ((H ++ num x ++ R).drop (H.length + 1)).take (nlen x) = beB (nlen x) x := by
      rw [List.append_assoc, List.drop_append, List.drop_eq_nil_of_le (by omega), show H.length + 1 - H.length = 1 by omega]
      simp [num, beB_length]
    rw [e3, valB_beB, Nat.mod_eq_of_lt (nlen_lt x)]
    simp [num_len]
    omega
  · rintro ⟨h0, h⟩
    rw [List.getElem?_append_left (by rw [beB_length]; exact h0), beB_get h0] at h
    have := top_ne x h0
    simp at h
    exact this (by simpa using h)

theorem getNum_cut (H : List UInt8) (x j : Nat) (hx : x < 18446744073709551616) (hj : j < (num x).length) : (getNum ((H ++ num x).take (H.length + j)) (H.length : Int)).2.2 = 8 := by
  have h8 := nlen_le x hx
  rw [num_len] at hj
  unfold getNum
  rw [if_neg (by omega), Int.toNat_natCast]
  unfold getNumN
  have hlen : ((H ++ num x).take (H.length + j)).length = H.length + j := by simp [num_len]; omega
  rw [if_neg (by omega)]
  by_cases hj0 : j = 0
  · rw [dif_neg (by omega)]
  rw [dif_pos (by omega)]
  have e0 : ((H ++ num x).take (H.length + j))[H.length]'(by omega) = UInt8.ofNat (nlen x) := by simp [num]
  have e1 : (UInt8.ofNat (nlen x)).toNat = nlen x := UInt8.toNat_ofNat_of_lt' (by show nlen x < 256; omega)
  rw [e0, e1, if_neg (by omega), if_neg, if_pos (by omega)]
  rintro ⟨h0, h⟩
  rw [List.getElem?_take] at h
  split at h
  · rw [List.getElem?_append_right (by omega), show H.length + 1 - H.length = 1 by omega] at h
    simp only [num, List.getElem?_cons_succ] at h
    rw [beB_get h0] at h
    exact top_ne x h0 (by simpa using h)
  · cases h
end Go.Proofs.YtcmgeccgahakbaaDoor

/- Plain laws: what pack puts, its reader gets; what its reader got is put as the same bytes. -/
namespace Go.Proofs.YtcmgeccgahakbaaDoor
open Go Go.RowKit

abbrev Rdr (α : Type) := List UInt8 → Nat × Int → α × (Nat × Int)
def seqR {α β : Type} (f : Rdr α) (g : α → Rdr β) : Rdr β := fun B s => g (f B s).1 B (f B s).2
def pureR {α : Type} (x : α) : Rdr α := fun _ s => (x, s)
/-- What may be wrong. -/
def Er (e : Int) : Prop := e = 0 ∨ e = 6 ∨ e = 8
/-- What is wrong stays; no place is behind the end. -/
structure OkRd {α : Type} (f : Rdr α) : Prop where
  stick : ∀ B s, s.2 ≠ 0 → (f B s).2 = s
  le : ∀ B s, s.1 ≤ B.length → (f B s).2.1 ≤ B.length
  er : ∀ B s, s.1 ≤ B.length → Er s.2 → Er (f B s).2.2
/-- Bytes E are x to a reader; cut they are none. -/
structure Rd {α : Type} (f : Rdr α) (x : α) (E : List UInt8) : Prop where
  fwd : ∀ B i R, i ≤ B.length → B.drop i = E ++ R → f B (i, 0) = (x, (i + E.length, 0))
  cut : ∀ B i T, i ≤ B.length → B.drop i ++ T = E → T ≠ [] → (f B (i, 0)).2.2 = 8
/-- What a reader took was the bytes of what it got. -/
def Bk {α : Type} (f : Rdr α) (P : α → List UInt8 → Prop) : Prop :=
  ∀ B s, s.1 ≤ B.length → (f B s).2.2 = 0 → s.2 = 0 ∧ ∃ E, P (f B s).1 E ∧ B.drop s.1 = E ++ B.drop (f B s).2.1

theorem drop_step {B E R : List UInt8} {i : Nat} (hi : i ≤ B.length) (h : B.drop i = E ++ R) : B.drop (i + E.length) = R ∧ i + E.length ≤ B.length := by
  constructor
  · rw [← List.drop_drop, h, List.drop_left]
  · have := congrArg List.length h
    rw [List.length_drop, List.length_append] at this
    omega

section
variable {α β : Type} {f : Rdr α} {g : α → Rdr β} {x : α} {y : β} {E F : List UInt8}
theorem OkRd.bind (hf : OkRd f) (hg : ∀ a, OkRd (g a)) : OkRd (seqR f g) := by
  refine ⟨fun B s h => ?_, fun B s h => (hg _).le B _ (hf.le B s h), fun B s h he => (hg _).er B _ (hf.le B s h) (hf.er B s h he)⟩
  unfold seqR
  rw [hf.stick B s h]
  exact (hg _).stick B s h
theorem OkRd.pure (x : α) : OkRd (pureR x) := ⟨fun _ _ _ => rfl, fun _ _ h => h, fun _ _ _ h => h⟩
theorem OkRd.ite {c : Prop} [Decidable c] {h : Rdr α} (hf : OkRd f) (hh : OkRd h) : OkRd (if c then f else h) := by split <;> assumption
theorem OkRd.congr {h : Rdr α} (hf : OkRd f) (e : ∀ B s, h B s = f B s) : OkRd h := by
  obtain rfl : h = f := funext fun B => funext fun s => e B s
  exact hf
theorem Rd.pure (x : α) : Rd (pureR x) x [] := ⟨fun _ _ _ _ _ => rfl, fun _ _ T _ h hT => absurd (List.append_eq_nil_iff.1 h).2 hT⟩
theorem Rd.congr {h : Rdr α} (hf : Rd f x E) (e : ∀ B i, h B (i, 0) = f B (i, 0)) : Rd h x E :=
  ⟨fun B i R hi hd => by rw [e]; exact hf.fwd B i R hi hd, fun B i T hi hd hT => by rw [e]; exact hf.cut B i T hi hd hT⟩
theorem Rd.bind (hf : Rd f x E) (hg : Rd (g x) y F) (hs : ∀ a, OkRd (g a)) : Rd (seqR f g) y (E ++ F) := by
  constructor
  · intro B i R hi hd
    rw [List.append_assoc] at hd
    have h1 := hf.fwd B i _ hi hd
    have h2 := drop_step hi hd
    unfold seqR
    rw [h1]
    simp only
    rw [hg.fwd B _ R h2.2 h2.1, List.length_append, Nat.add_assoc]
  · intro B i T hi hd hT
    rcases List.append_eq_append_iff.1 hd with ⟨a, h1, h2⟩ | ⟨c, h1, h2⟩
    · by_cases ha : a = []
      · subst ha
        have hd' : B.drop i = E ++ [] := by rw [List.append_nil] at h1 ⊢; exact h1.symm
        have h3 := drop_step hi hd'
        unfold seqR
        rw [hf.fwd B i [] hi hd']
        simp only
        refine hg.cut B _ T h3.2 ?_ hT
        rw [h3.1, List.nil_append, h2, List.nil_append]
      · have h3 := hf.cut B i a hi h1.symm ha
        unfold seqR
        have h4 := (hs (f B (i, 0)).1).stick B (f B (i, 0)).2 (by rw [h3]; decide)
        rw [h4]
        exact h3
    · have h3 := drop_step hi h1
      unfold seqR
      rw [hf.fwd B i c hi h1]
      simp only
      refine hg.cut B _ T h3.2 ?_ hT
      rw [h3.1, h2]
theorem Bk.pure (x : α) : Bk (pureR x) (fun y E => y = x ∧ E = []) := fun _ _ _ h => ⟨h, [], ⟨rfl, rfl⟩, rfl⟩
theorem Bk.bind {P : α → List UInt8 → Prop} {Q : α → β → List UInt8 → Prop} (hf : Bk f P) (ho : OkRd f) (hg : ∀ a, Bk (g a) (Q a)) : Bk (seqR f g) (fun y G => ∃ a E F, P a E ∧ Q a y F ∧ G = E ++ F) := fun B s hs h => by
  unfold seqR at h ⊢
  obtain ⟨k1, F, k3, k4⟩ := hg (f B s).1 B (f B s).2 (ho.le B s hs) h
  obtain ⟨m1, E, m3, m4⟩ := hf B s hs k1
  exact ⟨m1, E ++ F, ⟨_, E, F, m3, k3, rfl⟩, by rw [m4, k4, List.append_assoc]⟩
theorem Bk.mono {P Q : α → List UInt8 → Prop} (hf : Bk f P) (h : ∀ x E, P x E → Q x E) : Bk f Q := fun B s hs he => by
  obtain ⟨a, E, c, d⟩ := hf B s hs he
  exact ⟨a, E, h _ _ c, d⟩
theorem Bk.congr {h : Rdr α} {P : α → List UInt8 → Prop} (hf : Bk f P) (e : ∀ B s, h B s = f B s) : Bk h P := by
  obtain rfl : h = f := funext fun B => funext fun s => e B s
  exact hf
end

/-! ### Numbers -/
theorem beB_mod (k : Nat) : ∀ (y x : Nat), beB k (y * 256 ^ k + x) = beB k x := by
  induction k with
  | zero => intro y x; rfl
  | succ k ih =>
    intro y x
    unfold beB
    have e : y * 256 ^ (k + 1) = (y * 256) * 256 ^ k := by rw [Nat.pow_succ, Nat.mul_assoc, Nat.mul_comm (256 ^ k)]
    rw [e, ih, Nat.add_comm (y * 256 * 256 ^ k) x, Nat.add_mul_div_right _ _ (Nat.pow_pos (by decide))]
    congr 1
    apply UInt8.toNat.inj
    simp
theorem beB_valB : ∀ l : List UInt8, beB l.length (valB l) = l
  | [] => rfl
  | b :: l => by
    have h := valB_lt _ l rfl
    rw [valB_cons, List.length_cons]
    unfold beB
    rw [beB_mod, beB_valB l, Nat.add_comm, Nat.add_mul_div_right _ _ (Nat.pow_pos (by decide)), Nat.div_eq_of_lt h, Nat.zero_add]
    simp
theorem nlen_valB {b : UInt8} {l : List UInt8} (h : b ≠ 0) : nlen (valB (b :: l)) = l.length + 1 := by
  have hb : 1 ≤ b.toNat := by
    rcases Nat.eq_zero_or_pos b.toNat with h0 | h0
    · exact absurd (UInt8.toNat.inj (by rw [h0]; rfl)) h
    · exact h0
  have h1 : 256 ^ l.length ≤ valB (b :: l) := by
    rw [valB_cons]
    exact Nat.le_trans (Nat.le_mul_of_pos_left _ hb) (Nat.le_add_right _ _)
  have h2 : valB (b :: l) < 256 ^ (l.length + 1) := valB_lt _ (b :: l) rfl
  have hne : valB (b :: l) ≠ 0 := by have := Nat.pow_pos (n := l.length) (show 0 < 256 by decide); omega
  have a := bitsOf_lt (valB (b :: l))
  have c := bitsOf_le (valB (b :: l)) hne
  rw [show (256 : Nat) = 2 ^ 8 by decide, ← Nat.pow_mul] at h1 h2
  have d1 := (Nat.pow_lt_pow_iff_right (a := 2) (by omega)).1 (Nat.lt_of_le_of_lt h1 a)
  have d2 := (Nat.pow_lt_pow_iff_right (a := 2) (by omega)).1 (Nat.lt_of_le_of_lt c h2)
  unfold nlen
  omega
theorem num_valB (l : List UInt8) (h : l.length < 256) (h0 : l.head? ≠ some 0) : num (valB l) = UInt8.ofNat l.length :: l := by
  cases l with
  | nil => rfl
  | cons b l =>
    have hb : b ≠ 0 := by intro e; exact h0 (by rw [e]; rfl)
    unfold num
    rw [nlen_valB hb]
    have := beB_valB (b :: l)
    rw [List.length_cons] at this ⊢
    rw [this]
theorem getNum_put {B : List UInt8} {i : Nat} (h : (getNumN B i).2.2 = 0) : B.drop i = num (getNumN B i).1 ++ B.drop (getNumN B i).2.1.toNat := by
  unfold getNumN at h ⊢
  split at h
  · simp at h
  split at h
  · rename_i h1 h2
    split at h
    · simp at h
    split at h
    · simp at h
    split at h
    · simp at h
    rename_i h3 h4 h5
    rw [if_neg h1, dif_pos h2, if_neg h3, if_neg h4, if_neg h5]
    simp only
    have hl : ((B.drop (i + 1)).take B[i].toNat).length = B[i].toNat := by rw [List.length_take, List.length_drop]; omega
    have e1 : num (valB ((B.drop (i + 1)).take B[i].toNat)) = B[i] :: (B.drop (i + 1)).take B[i].toNat := by
      rw [num_valB _ (by rw [hl]; exact B[i].toNat_lt), hl]
      · simp
      · intro h6
        rw [List.head?_take] at h6
        split at h6
        · cases h6
        · rename_i h7
          rw [List.head?_drop] at h6
          exact h4 ⟨by omega, h6⟩
    rw [e1, List.drop_eq_getElem_cons h2, List.cons_append]
    congr 1
    have e2 : ((i : Int) + 1 + (B[i].toNat : Int)).toNat = i + 1 + B[i].toNat := by omega
    rw [e2, show B.drop (i + 1 + B[i].toNat) = (B.drop (i + 1)).drop B[i].toNat by rw [List.drop_drop], List.take_append_drop]
  · simp at h
theorem getNum_fwd {B R : List UInt8} {i x : Nat} (hx : x < 18446744073709551616) (hi : i ≤ B.length) (h : B.drop i = num x ++ R) : getNum B i = (x, ((i + (num x).length : Nat) : Int), 0) := by
  have := getNum_back (B.take i) R x hx
  rw [List.append_assoc, ← h, List.take_append_drop, List.length_append, List.length_take, Nat.min_eq_left hi] at this
  exact this
theorem getNum_short {B T : List UInt8} {i x : Nat} (hx : x < 18446744073709551616) (hi : i ≤ B.length) (h : B.drop i ++ T = num x) (hT : T ≠ []) : (getNum B i).2.2 = 8 := by
  have hl := congrArg List.length h
  rw [List.length_append, List.length_drop] at hl
  have hT' : 0 < T.length := List.length_pos_iff.2 hT
  have := getNum_cut (B.take i) x (B.length - i) hx (by omega)
  rw [List.length_take, Nat.min_eq_left hi, ← h, ← List.append_assoc, List.take_append_drop, show i + (B.length - i) = B.length by omega, List.take_left] at this
  exact this
theorem getNum_er {B : List UInt8} {i : Nat} (hi : i ≤ B.length) : Er (getNumN B i).2.2 := by
  unfold getNumN Er
  rw [if_neg (by omega)]
  repeat' split
  all_goals simp

/-! ### any, number, count, text, truth -/
theorem anyR_zero (B : List UInt8) (s : Nat × Int) (h : s.2 ≠ 0) : anyR B s = (0, s) := if_neg h
theorem ok_any : OkRd anyR := by
  refine ⟨fun B s h => by rw [anyR_zero B s h], fun B s h => anyR_le h, fun B s h he => ?_⟩
  by_cases h0 : s.2 = 0
  · unfold anyR
    rw [if_pos h0, getNum_nat]
    split
    · exact .inl rfl
    · exact getNum_er h
  · rw [anyR_zero B s h0]; exact he
theorem any_short {B T : List UInt8} {i x : Nat} (hx : x < 18446744073709551616) (hi : i ≤ B.length) (h : B.drop i ++ T = num x) (hT : T ≠ []) : anyR B (i, 0) = (0, (i, 8)) := by
  have := getNum_short hx hi h hT
  unfold anyR
  simp [this]
theorem failR_er {k : Int} {s : Nat × Int} (hk : Er k) (h : Er s.2) : Er (failR k s).2 := by unfold failR; split <;> assumption
theorem failR_one (k : Int) (s : Nat × Int) : (failR k s).1 = s.1 := by unfold failR; split <;> rfl
theorem failR_ne {k : Int} (hk : k ≠ 0) (s : Nat × Int) : (failR k s).2 ≠ 0 := by unfold failR; split <;> assumption
theorem ok_num : OkRd numR := by
  refine ⟨fun B s h => ?_, fun B s h => ?_, fun B s h he => ?_⟩
  · unfold numR
    rw [anyR_zero B s h]; rfl
  · unfold numR
    split
    · exact anyR_le h
    · simp only [failR_one]; exact anyR_le h
  · unfold numR
    split
    · exact ok_any.er B s h he
    · exact failR_er (.inr (.inl rfl)) (ok_any.er B s h he)
theorem ok_cnt : OkRd cntR := by
  refine ⟨fun B s h => ?_, fun B s h => by have := cntR_le h; omega, fun B s h he => ?_⟩
  · unfold cntR
    rw [anyR_zero B s h]
    simp only [Nat.zero_le, if_true]
    rw [if_neg h]
  · unfold cntR
    split
    · split
      · exact ok_any.er B s h he
      · exact ok_any.er B s h he
    · exact failR_er (.inr (.inr rfl)) (ok_any.er B s h he)
theorem cntR_zero (B : List UInt8) (s : Nat × Int) (h : s.2 ≠ 0) : cntR B s = (0, s) := by
  unfold cntR
  rw [anyR_zero B s h]
  simp only [Nat.zero_le, if_true]
  rw [if_neg h]
theorem ok_txt : OkRd txtR := by
  refine ⟨fun B s h => ?_, fun B s h => ?_, fun B s h he => ok_cnt.er B s h he⟩
  · unfold txtR
    rw [cntR_zero B s h]
    rfl
  · exact cntR_le h
theorem ok_tru : OkRd truR := by
  refine ⟨fun B s h => ?_, fun B s h => ?_, fun B s h he => ?_⟩
  · unfold truR; rw [if_neg h]
  · unfold truR
    split
    · split
      · exact h
      · rename_i hb
        have := (List.getElem?_eq_some_iff.1 hb).1
        exact this
    · exact h
  · unfold truR
    split
    · split
      · exact .inr (.inr rfl)
      · simp only
        split
        · exact .inr (.inl rfl)
        · exact .inl rfl
    · exact he
theorem rd_num {x : Nat} (hx : x ≤ 1099511627776) : Rd numR x (num x) := by
  constructor
  · intro B i R hi h
    unfold numR anyR
    rw [if_pos rfl, getNum_fwd (by omega) hi h]
    simp only [if_true, Int.toNat_natCast]
    rw [if_pos hx]
  · intro B i T hi h hT
    unfold numR
    rw [any_short (by omega) hi h hT, if_pos (Nat.zero_le _)]
theorem cnt_fwd {B R : List UInt8} {i n : Nat} (hn : n < 18446744073709551616) (hi : i ≤ B.length) (h : B.drop i = num n ++ R) (hR : n ≤ R.length) : cntR B (i, 0) = (n, (i + (num n).length, 0)) := by
  have hl := congrArg List.length h
  rw [List.length_drop, List.length_append] at hl
  unfold cntR anyR
  rw [if_pos rfl, getNum_fwd hn hi h]
  simp only [if_true, Int.toNat_natCast]
  rw [if_pos (by omega)]
theorem cnt_few {B R : List UInt8} {i n : Nat} (hn : n < 18446744073709551616) (hi : i ≤ B.length) (h : B.drop i = num n ++ R) (hR : R.length < n) : (cntR B (i, 0)).1 = 0 ∧ (cntR B (i, 0)).2.2 = 8 := by
  have hl := congrArg List.length h
  rw [List.length_drop, List.length_append] at hl
  unfold cntR anyR
  rw [if_pos rfl, getNum_fwd hn hi h]
  simp only [if_true, Int.toNat_natCast]
  rw [if_neg (by omega)]
  exact ⟨rfl, rfl⟩
theorem cnt_short {B T : List UInt8} {i n : Nat} (hn : n < 18446744073709551616) (hi : i ≤ B.length) (h : B.drop i ++ T = num n) (hT : T ≠ []) : (cntR B (i, 0)).1 = 0 ∧ (cntR B (i, 0)).2.2 = 8 := by
  unfold cntR
  rw [any_short hn hi h hT]
  simp only [Nat.zero_le, if_true]
  rw [if_neg (show ¬ (8 : Int) = 0 by decide)]
  exact ⟨rfl, rfl⟩
def txtE (s : ByteArray) : List UInt8 := num s.size ++ s.data.toList
theorem str_back (s : ByteArray) : str s.data.toList = s := rfl
theorem rd_txt {s : ByteArray} (hs : s.size < 18446744073709551616) : Rd txtR s (txtE s) := by
  have hz := dat_size s
  constructor
  · intro B i R hi h
    unfold txtE at h
    rw [List.append_assoc] at h
    have h1 := cnt_fwd hs hi h (by rw [List.length_append]; omega)
    have h2 := drop_step hi h
    unfold txtR
    rw [h1]
    simp only
    rw [h2.1, ← hz, List.take_left, str_back]
    unfold txtE
    rw [List.length_append, hz, Nat.add_assoc]
  · intro B i T hi h hT
    unfold txtE at h
    show (cntR B (i, 0)).2.2 = 8
    rcases List.append_eq_append_iff.1 h with ⟨a, h1, h2⟩ | ⟨c, h1, h2⟩
    · by_cases ha : a = []
      · subst ha
        have hd' : B.drop i = num s.size ++ [] := by rw [List.append_nil] at h1 ⊢; exact h1.symm
        refine (cnt_few hs hi hd' ?_).2
        have : 0 < T.length := List.length_pos_iff.2 hT
        rw [h2, List.nil_append] at this
        simp only [List.length_nil]
        omega
      · exact (cnt_short hs hi h1.symm ha).2
    · refine (cnt_few hs hi h1 ?_).2
      have : 0 < T.length := List.length_pos_iff.2 hT
      rw [h2, List.length_append] at hz
      omega
theorem rd_tru (d : Bool) : Rd truR d [if d then 1 else 0] := by
  constructor
  · intro B i R hi h
    have hb : B[i]? = some (if d then 1 else 0) := by
      rw [← List.head?_drop, h]; rfl
    unfold truR
    rw [if_pos rfl, hb]
    cases d <;> rfl
  · intro B i T hi h hT
    have hn : B.drop i = [] := by
      have := congrArg List.length h
      rw [List.length_append] at this
      have : 0 < T.length := List.length_pos_iff.2 hT
      apply List.eq_nil_of_length_eq_zero
      simp only [List.length_cons, List.length_nil] at *
      omega
    have hb : B[i]? = none := by
      rw [← List.head?_drop, hn]; rfl
    unfold truR
    rw [if_pos rfl, hb]
theorem bk_any : Bk anyR (fun x E => E = num x) := fun B s hs h => by
  by_cases h0 : s.2 = 0
  · refine ⟨h0, _, rfl, ?_⟩
    unfold anyR at h ⊢
    rw [if_pos h0, getNum_nat] at h ⊢
    split at h
    · rename_i h1
      rw [if_pos h1]
      exact getNum_put h1
    · rename_i h1
      exact absurd h h1
  · rw [anyR_zero B s h0] at h
    exact absurd h h0
theorem bk_num : Bk numR (fun x E => E = num x ∧ x ≤ 1099511627776) := fun B s hs h => by
  unfold numR at h ⊢
  split at h
  · rename_i h1
    rw [if_pos h1]
    obtain ⟨a, E, b, c⟩ := bk_any B s hs h
    exact ⟨a, E, ⟨b, h1⟩, c⟩
  · exact absurd h (failR_ne (by decide) _)
theorem bk_cnt : Bk cntR (fun x E => E = num x) := fun B s hs h => by
  unfold cntR at h ⊢
  split at h
  · rename_i h1
    split at h
    · rename_i h2
      rw [if_pos h1, if_pos h2]
      exact bk_any B s hs h
    · rename_i h2
      exact absurd h h2
  · exact absurd h (failR_ne (by decide) _)
theorem bk_txt : Bk txtR (fun x E => E = txtE x) := fun B s hs h => by
  obtain ⟨a, E, b, c⟩ := bk_cnt B s hs h
  have hle := cntR_le hs
  refine ⟨a, _, rfl, ?_⟩
  unfold txtR txtE
  simp only
  have e1 : (str ((B.drop (cntR B s).2.1).take (cntR B s).1)).size = (cntR B s).1 := by
    rw [str_size, List.length_take, List.length_drop]; omega
  rw [e1, c, b, str_toList, List.append_assoc, ← List.drop_drop, List.take_append_drop]
theorem bk_tru : Bk truR (fun d E => E = [if d then 1 else 0]) := fun B s hs h => by
  unfold truR at h ⊢
  by_cases h0 : s.2 = 0
  · refine ⟨h0, _, rfl, ?_⟩
    rw [if_pos h0] at h ⊢
    cases hb : B[s.1]? with
    | none => rw [hb] at h; simp at h
    | some b =>
      rw [hb] at h
      simp only at h ⊢
      obtain ⟨h1, h2⟩ := List.getElem?_eq_some_iff.1 hb
      rw [List.drop_eq_getElem_cons h1, h2]
      have : b = 0 ∨ b = 1 := by
        have h3 : ¬ 1 < b.toNat := by intro h4; rw [if_pos h4] at h; simp at h
        rcases Nat.lt_or_ge b.toNat 1 with h4 | h4
        · exact .inl (UInt8.toNat.inj (by show b.toNat = 0; omega))
        · exact .inr (UInt8.toNat.inj (by show b.toNat = 1; omega))
      rcases this with rfl | rfl <;> rfl
  · rw [if_neg h0] at h
    exact absurd h h0
end Go.Proofs.YtcmgeccgahakbaaDoor

/- Plain laws: cells, columns, rows, partitions: what is put is got; what is got is put as the same bytes. -/
namespace Go.Proofs.YtcmgeccgahakbaaDoor
open Go Go.RowKit

/-! ### Cells -/
def cellA (n : Nat) : Rdr Cl := if n = 0 then pureR zeroCl else seqR truR fun d => if d = true then pureR ⟨⟨#[]⟩, true, n, 0⟩ else seqR txtR fun t => seqR numR fun e => pureR ⟨t, false, n, (e : Int)⟩
theorem cellR_eq (B : List UInt8) (s : Nat × Int) : cellR B s = seqR numR cellA B s := by
  unfold cellR seqR cellA
  split
  · rfl
  · unfold seqR
    split
    · rename_i h2
      simp only [h2, if_true]
      rfl
    · rename_i h2
      simp only [h2]
      rfl
theorem ok_cellA (n : Nat) : OkRd (cellA n) :=
  OkRd.ite (OkRd.pure _) (ok_tru.bind fun _ => OkRd.ite (OkRd.pure _) (ok_txt.bind fun _ => ok_num.bind fun _ => OkRd.pure _))
theorem ok_cell : OkRd cellR := (ok_num.bind ok_cellA).congr cellR_eq
theorem empty_of_list {s : ByteArray} (h : s.toList = []) : s = ⟨#[]⟩ := by
  rw [ByteArray.toList_eq] at h
  rw [← str_back s, h]; rfl
theorem check_shape {c : Cl} (h : checkC c.val c.dead c.at_ c.fin = true) :
    c = zeroCl ∨ (∃ n : Nat, 0 < n ∧ n ≤ 1099511627776 ∧ c = ⟨⟨#[]⟩, true, n, 0⟩) ∨ (∃ n m : Nat, 0 < n ∧ n ≤ 1099511627776 ∧ m ≤ 1099511627776 ∧ c.val.size ≤ 100 ∧ c = ⟨c.val, false, n, m⟩) := by
  obtain ⟨val, dead, at_, fin⟩ := c
  unfold checkC at h
  simp only [Bool.and_eq_true] at h ⊢
  obtain ⟨⟨h1, h2⟩, h3⟩ := h
  have a := stampB_le h1
  have b := stampB_le h2
  obtain ⟨n, rfl⟩ : ∃ n : Nat, at_ = n := ⟨at_.toNat, by omega⟩
  obtain ⟨m, rfl⟩ : ∃ m : Nat, fin = m := ⟨fin.toNat, by omega⟩
  split at h3
  · rename_i h0
    left
    simp only [Bool.and_eq_true, Bool.not_eq_true', beq_iff_eq] at h3
    obtain ⟨⟨h4, h5⟩, h6⟩ := h3
    rw [empty_of_list h4, h5, h6, h0]; rfl
  · rename_i h0
    right
    split at h3
    · rename_i hd
      left
      simp only [Bool.and_eq_true, beq_iff_eq] at h3
      exact ⟨n, by omega, by omega, by rw [empty_of_list h3.1, hd, h3.2]⟩
    · rename_i hd
      right
      refine ⟨n, m, by omega, by omega, by omega, of_decide_eq_true h3, ?_⟩
      rw [show dead = false by simpa using hd]
theorem rd_cl {c : Cl} (h : checkC c.val c.dead c.at_ c.fin = true) : Rd cellR c (cellP c) := by
  refine Rd.congr ?_ (fun B i => cellR_eq B (i, 0))
  rcases check_shape h with rfl | ⟨n, h0, h1, rfl⟩ | ⟨n, m, h0, h1, h2, h3, h4⟩
  · exact (rd_num (x := 0) (by omega)).bind (g := cellA) (Rd.pure _) ok_cellA
  · have e : cellP ⟨⟨#[]⟩, true, (n : Int), 0⟩ = num n ++ ([if true then 1 else 0] ++ []) := by
      unfold cellP
      simp only
      rw [if_neg (by omega), if_pos trivial]; rfl
    rw [e]
    refine (rd_num h1).bind (g := cellA) ?_ ok_cellA
    unfold cellA
    rw [if_neg (by omega)]
    refine (rd_tru true).bind ?_ (fun d => OkRd.ite (OkRd.pure _) (ok_txt.bind fun _ => ok_num.bind fun _ => OkRd.pure _))
    rw [if_pos rfl]
    exact Rd.pure _
  · obtain ⟨val, dead, at_, fin⟩ := c
    simp only at h3 h4
    cases h4
    have e : cellP ⟨val, false, (n : Int), (m : Int)⟩ = num n ++ ([if false then 1 else 0] ++ (txtE val ++ (num m ++ []))) := by
      unfold cellP txtE
      simp only
      rw [if_neg (by omega), if_neg (by simp)]
      simp only [Int.toNat_natCast, List.append_assoc, List.append_nil, Bool.false_eq_true, if_false]
    rw [e]
    refine (rd_num h1).bind (g := cellA) ?_ ok_cellA
    unfold cellA
    rw [if_neg (by omega)]
    refine (rd_tru false).bind ?_ (fun d => OkRd.ite (OkRd.pure _) (ok_txt.bind fun _ => ok_num.bind fun _ => OkRd.pure _))
    rw [if_neg (by simp)]
    refine (rd_txt (by omega)).bind ?_ (fun d => ok_num.bind fun _ => OkRd.pure _)
    refine (rd_num h2).bind ?_ (fun d => OkRd.pure _)
    exact Rd.pure _
theorem bk_cellA (n : Nat) : Bk (cellA n) (fun c F => num n ++ F = cellP c) := by
  unfold cellA
  by_cases h : n = 0
  · rw [if_pos h]
    refine (Bk.pure _).mono fun x E hx => ?_
    obtain ⟨rfl, rfl⟩ := hx
    rw [h]; rfl
  · rw [if_neg h]
    refine (Bk.bind (Q := fun d c F => num n ++ ([if d then 1 else 0] ++ F) = cellP c) bk_tru ok_tru fun d => ?_).mono fun c G hG => ?_
    · by_cases hd : d = true
      · subst hd
        rw [if_pos rfl]
        refine (Bk.pure _).mono fun x E hx => ?_
        obtain ⟨rfl, rfl⟩ := hx
        unfold cellP
        simp only
        rw [if_neg (show ¬ (n : Int) = 0 by omega)]; rfl
      · obtain rfl : d = false := by simpa using hd
        rw [if_neg hd]
        refine (Bk.bind (Q := fun t c F => ∃ e : Nat, c = ⟨t, false, (n : Int), (e : Int)⟩ ∧ F = num e) bk_txt ok_txt fun t => ?_).mono fun c G hG => ?_
        · refine (Bk.bind (Q := fun (e : Nat) c F => c = ⟨t, false, (n : Int), (e : Int)⟩ ∧ F = []) bk_num ok_num fun e => Bk.pure _).mono fun c G hG => ?_
          obtain ⟨e, E, F, ⟨rfl, _⟩, ⟨rfl, rfl⟩, rfl⟩ := hG
          exact ⟨e, rfl, by rw [List.append_nil]⟩
        · obtain ⟨t, E, F, rfl, ⟨e, rfl, rfl⟩, rfl⟩ := hG
          unfold cellP txtE
          simp only
          rw [if_neg (show ¬ (n : Int) = 0 by omega)]
          simp only [Int.toNat_natCast, List.append_assoc, Bool.false_eq_true, if_false]
    · obtain ⟨d, E, F, rfl, h2, rfl⟩ := hG
      exact h2
theorem bk_cl : Bk cellR (fun c E => E = cellP c) := by
  refine Bk.congr ?_ cellR_eq
  refine (Bk.bind (Q := fun n c F => num n ++ F = cellP c) bk_num ok_num bk_cellA).mono fun c G hG => ?_
  obtain ⟨n, E, F, ⟨rfl, _⟩, h2, rfl⟩ := hG
  exact h2

/-! ### Lists -/
section
variable {α : Type} {one : Rdr α} {enc : α → List UInt8}
def manyF {α : Type} (one : Rdr α) (n : Nat) : Rdr (List α) := fun B s => manyR (one B) n s
def listF {α : Type} (one : Rdr α) : Rdr (List α) := fun B s => listR B (one B) s
theorem ok_many (h : OkRd one) : ∀ n, OkRd (manyF one n)
  | 0 => ⟨fun _ _ _ => rfl, fun _ _ h => h, fun _ _ _ h => h⟩
  | n + 1 => by
    have ih := ok_many h n
    refine ⟨fun B s hs => ?_, fun B s hs => ?_, fun B s hs he => ?_⟩
    · show (manyR (one B) (n + 1) s).2 = s
      rw [manyR_stop _ _ _ (.inr hs)]
    · show (manyR (one B) (n + 1) s).2.1 ≤ B.length
      by_cases h0 : s.2 = 0
      · rw [manyR_step _ _ _ h0]; exact ih.le B _ (h.le B s hs)
      · rw [manyR_stop _ _ _ (.inr h0)]; exact hs
    · show Er (manyR (one B) (n + 1) s).2.2
      by_cases h0 : s.2 = 0
      · rw [manyR_step _ _ _ h0]; exact ih.er B _ (h.le B s hs) (h.er B s hs he)
      · rw [manyR_stop _ _ _ (.inr h0)]; exact he
theorem ok_list (h : OkRd one) : OkRd (listF one) := ok_cnt.bind fun n => ok_many h n
theorem rd_many (ho : OkRd one) : ∀ l : List α, (∀ x ∈ l, Rd one x (enc x)) → Rd (manyF one l.length) l (l.flatMap enc)
  | [], _ => ⟨fun _ _ _ _ _ => rfl, fun _ _ T _ h hT => absurd (List.append_eq_nil_iff.1 h).2 hT⟩
  | x :: l, h => by
    have ih := rd_many ho l fun y hy => h y (List.mem_cons_of_mem _ hy)
    rw [List.flatMap_cons]
    refine Rd.congr (f := seqR one fun x => seqR (manyF one l.length) fun l => pureR (x :: l)) ?_ (fun B i => manyR_step _ _ _ rfl)
    refine (h x (List.mem_cons_self ..)).bind ?_ (fun _ => (ok_many ho _).bind fun _ => OkRd.pure _)
    have := ih.bind (Rd.pure (x :: l)) (g := fun l => pureR (x :: l)) (fun _ => OkRd.pure _)
    rw [List.append_nil] at this
    exact this
theorem flat_ge : ∀ {l : List α}, (∀ x ∈ l, 1 ≤ (enc x).length) → l.length ≤ (l.flatMap enc).length
  | [], _ => Nat.le_refl _
  | x :: l, h => by
    have h1 := h x (List.mem_cons_self ..)
    have h2 := flat_ge (l := l) fun y hy => h y (List.mem_cons_of_mem _ hy)
    rw [List.flatMap_cons, List.length_append, List.length_cons]
    omega
theorem rd_list (ho : OkRd one) {l : List α} (hn : l.length < 18446744073709551616) (h : ∀ x ∈ l, Rd one x (enc x)) (h1 : ∀ x ∈ l, 1 ≤ (enc x).length) : Rd (listF one) l (num l.length ++ l.flatMap enc) := by
  have hm := rd_many ho l h
  have hg := flat_ge h1
  constructor
  · intro B i R hi hd
    rw [List.append_assoc] at hd
    have h2 := drop_step hi hd
    have h3 := cnt_fwd hn hi hd (by rw [List.length_append]; omega)
    show manyF one (cntR B (i, 0)).1 B (cntR B (i, 0)).2 = _
    rw [h3]
    simp only
    rw [hm.fwd B _ R h2.2 h2.1, List.length_append, Nat.add_assoc]
  · intro B i T hi hd hT
    show (manyF one (cntR B (i, 0)).1 B (cntR B (i, 0)).2).2.2 = 8
    rcases List.append_eq_append_iff.1 hd with ⟨a, e1, e2⟩ | ⟨c, e1, e2⟩
    · by_cases ha : a = []
      · subst ha
        have hd' : B.drop i = num l.length ++ [] := by rw [List.append_nil] at e1 ⊢; exact e1.symm
        by_cases hz : l.length ≤ 0
        · have : l = [] := List.eq_nil_of_length_eq_zero (by omega)
          subst this
          rw [List.flatMap_nil, List.nil_append] at e2
          exact absurd e2 hT
        · have h3 := cnt_few hn hi hd' (by simp only [List.length_nil]; omega)
          rw [h3.1]
          exact h3.2
      · have h3 := cnt_short hn hi e1.symm ha
        rw [h3.1]
        exact h3.2
    · by_cases hc : l.length ≤ c.length
      · have h2 := drop_step hi e1
        have h3 := cnt_fwd hn hi e1 hc
        rw [h3]
        simp only
        refine hm.cut B _ T h2.2 ?_ hT
        rw [h2.1, e2]
      · have h3 := cnt_few hn hi e1 (by omega)
        rw [h3.1]
        exact h3.2
theorem bk_many (hb : Bk one (fun x E => E = enc x)) (ho : OkRd one) : ∀ n, Bk (manyF one n) (fun l E => l.length = n ∧ E = l.flatMap enc)
  | 0 => fun _ _ _ h => ⟨h, [], ⟨rfl, rfl⟩, rfl⟩
  | n + 1 => fun B s hs h => by
    have ih := bk_many hb ho n
    change (manyR (one B) (n + 1) s).2.2 = 0 at h
    show s.2 = 0 ∧ ∃ E, ((manyR (one B) (n + 1) s).1.length = n + 1 ∧ E = (manyR (one B) (n + 1) s).1.flatMap enc) ∧ B.drop s.1 = E ++ B.drop (manyR (one B) (n + 1) s).2.1
    by_cases h0 : s.2 = 0
    · rw [manyR_step _ _ _ h0] at h ⊢
      simp only at h ⊢
      obtain ⟨a, F, ⟨b1, b2⟩, c⟩ := ih B (one B s).2 (ho.le B s hs) h
      obtain ⟨_, E, d, e⟩ := hb B s hs a
      change (manyR (one B) n (one B s).2).1.length = n at b1
      change F = (manyR (one B) n (one B s).2).1.flatMap enc at b2
      change B.drop (one B s).2.1 = F ++ B.drop (manyR (one B) n (one B s).2).2.1 at c
      refine ⟨h0, E ++ F, ⟨by rw [List.length_cons, b1], by rw [List.flatMap_cons, d, b2]⟩, ?_⟩
      rw [e, c, List.append_assoc]
    · rw [manyR_stop _ _ _ (.inr h0)] at h
      exact absurd h h0
theorem bk_list (hb : Bk one (fun x E => E = enc x)) (ho : OkRd one) : Bk (listF one) (fun l E => E = num l.length ++ l.flatMap enc) := by
  refine (Bk.bind (g := fun n => manyF one n) bk_cnt ok_cnt fun n => bk_many hb ho n).mono fun l G hG => ?_
  obtain ⟨n, E, F, rfl, ⟨rfl, rfl⟩, rfl⟩ := hG
  rfl
end

/-! ### Columns, rows, partitions -/
theorem colR_eq (B : List UInt8) (s : Nat × Int) : colR B s = seqR txtR (fun t => seqR cellR fun c => pureR ⟨t, c⟩) B s := rfl
theorem ok_col : OkRd colR := (ok_txt.bind fun t => ok_cell.bind fun c => OkRd.pure (⟨t, c⟩ : Co)).congr colR_eq
theorem rd_co {c : Co} (hn : c.name.size ≤ 1000) (h : checkC c.cell.val c.cell.dead c.cell.at_ c.cell.fin = true) : Rd colR c (colP c) := by
  refine Rd.congr ?_ (fun B i => colR_eq B (i, 0))
  have e : colP c = txtE c.name ++ (cellP c.cell ++ []) := by unfold colP txtE; simp only [List.append_assoc, List.append_nil]
  rw [e]
  exact (rd_txt (by omega)).bind ((rd_cl h).bind (Rd.pure _) fun c => OkRd.pure _) fun t => ok_cell.bind fun c => OkRd.pure _
theorem bk_co : Bk colR (fun c E => E = colP c) := by
  refine Bk.congr ?_ colR_eq
  refine (Bk.bind (Q := fun t (c : Co) F => c.name = t ∧ F = cellP c.cell) bk_txt ok_txt fun t => (Bk.bind (Q := fun cl (c : Co) F => c = ⟨t, cl⟩ ∧ F = []) bk_cl ok_cell fun cl => Bk.pure _).mono fun c G hG => ?_).mono fun c G hG => ?_
  · obtain ⟨cl, E, F, rfl, ⟨rfl, rfl⟩, rfl⟩ := hG
    exact ⟨rfl, by rw [List.append_nil]⟩
  · obtain ⟨t, E, F, rfl, ⟨rfl, rfl⟩, rfl⟩ := hG
    unfold colP txtE
    simp only [List.append_assoc]
theorem num_ge (n : Nat) : 1 ≤ (num n).length := by rw [num_len]; omega
theorem colP_ge (c : Co) : 1 ≤ (colP c).length := by have := num_ge c.name.size; unfold colP; simp only [List.length_append]; omega
theorem rowP_ge (r : Ro) : 1 ≤ (rowP r).length := by have := num_ge r.key.size; unfold rowP; simp only [List.length_append]; omega
def rowF : Rdr Ro := seqR txtR fun k => seqR cellR fun l => seqR numR fun g => seqR numR fun h => seqR (listF colR) fun cs => pureR ⟨k, l, (g : Int), (h : Int), cs⟩
theorem rowR_eq (B : List UInt8) (s : Nat × Int) : rowR B s = rowF B s := rfl
theorem ok_row : OkRd rowR := OkRd.congr (f := rowF) (ok_txt.bind fun _ => ok_cell.bind fun _ => ok_num.bind fun _ => ok_num.bind fun _ => (ok_list ok_col).bind fun _ => OkRd.pure _) rowR_eq
theorem rd_ro {r : Ro} (h : rwB r = true) : Rd rowR r (rowP r) := by
  have hok := rwB_ok h
  unfold rwB at h
  simp only [Bool.and_eq_true] at h
  obtain ⟨_, hl, _, _, hg, hs, _⟩ := hdB_parts h.1
  have hcs := csB_ok h.2
  obtain ⟨key, live, gone, shade, cols⟩ := r
  obtain ⟨h1, _, h3, h4, h5, h6, h7, h8⟩ := hok
  simp only at h1 h3 h4 h5 h6 h7 h8 hl hcs
  obtain ⟨g, rfl⟩ : ∃ g : Nat, gone = g := ⟨gone.toNat, by omega⟩
  obtain ⟨t, rfl⟩ : ∃ g : Nat, shade = g := ⟨shade.toNat, by omega⟩
  refine Rd.congr ?_ (fun B i => rowR_eq B (i, 0))
  have e : rowP ⟨key, live, (g : Int), (t : Int), cols⟩ = txtE key ++ (cellP live ++ (num g ++ (num t ++ ((num cols.length ++ cols.flatMap colP) ++ [])))) := by
    unfold rowP txtE
    simp only [Int.toNat_natCast, List.append_assoc, List.append_nil]
  rw [e]
  unfold rowF
  refine (rd_txt (by omega)).bind ?_ (fun _ => ok_cell.bind fun _ => ok_num.bind fun _ => ok_num.bind fun _ => (ok_list ok_col).bind fun _ => OkRd.pure _)
  refine (rd_cl hl).bind ?_ (fun _ => ok_num.bind fun _ => ok_num.bind fun _ => (ok_list ok_col).bind fun _ => OkRd.pure _)
  refine (rd_num (by omega)).bind ?_ (fun _ => ok_num.bind fun _ => (ok_list ok_col).bind fun _ => OkRd.pure _)
  refine (rd_num (by omega)).bind ?_ (fun _ => (ok_list ok_col).bind fun _ => OkRd.pure _)
  exact (rd_list ok_col (by omega) (fun c hc => rd_co (h8 c hc).name (hcs c hc).2.2.1) (fun c _ => colP_ge c)).bind (Rd.pure _) (fun _ => OkRd.pure _)
theorem bk_ro : Bk rowR (fun r E => E = rowP r) := by
  refine Bk.congr ?_ rowR_eq
  unfold rowF
  refine (Bk.bind (Q := fun k (r : Ro) F => r.key = k ∧ F = cellP r.live ++ num r.gone.toNat ++ num r.shade.toNat ++ num r.cols.length ++ r.cols.flatMap colP) bk_txt ok_txt fun k => ?_).mono fun c G hG => ?_
  · refine (Bk.bind (Q := fun l (r : Ro) F => r.key = k ∧ r.live = l ∧ F = num r.gone.toNat ++ num r.shade.toNat ++ num r.cols.length ++ r.cols.flatMap colP) bk_cl ok_cell fun l => ?_).mono fun c G hG => ?_
    · refine (Bk.bind (Q := fun (g : Nat) (r : Ro) F => r.key = k ∧ r.live = l ∧ r.gone = (g : Int) ∧ F = num r.shade.toNat ++ num r.cols.length ++ r.cols.flatMap colP) bk_num ok_num fun g => ?_).mono fun c G hG => ?_
      · refine (Bk.bind (Q := fun (h : Nat) (r : Ro) F => r.key = k ∧ r.live = l ∧ r.gone = (g : Int) ∧ r.shade = (h : Int) ∧ F = num r.cols.length ++ r.cols.flatMap colP) bk_num ok_num fun h => ?_).mono fun c G hG => ?_
        · refine (Bk.bind (Q := fun cs (r : Ro) F => r = ⟨k, l, (g : Int), (h : Int), cs⟩ ∧ F = []) (bk_list bk_co ok_col) (ok_list ok_col) fun cs => Bk.pure _).mono fun c G hG => ?_
          obtain ⟨cs, E, F, rfl, ⟨rfl, rfl⟩, rfl⟩ := hG
          exact ⟨rfl, rfl, rfl, rfl, by rw [List.append_nil]⟩
        · obtain ⟨h, E, F, ⟨rfl, _⟩, ⟨e1, e2, e3, e4, rfl⟩, rfl⟩ := hG
          exact ⟨e1, e2, e3, by rw [e4, Int.toNat_natCast]; simp only [List.append_assoc]⟩
      · obtain ⟨g, E, F, ⟨rfl, _⟩, ⟨e1, e2, e3, rfl⟩, rfl⟩ := hG
        exact ⟨e1, e2, by rw [e3, Int.toNat_natCast]; simp only [List.append_assoc]⟩
    · obtain ⟨l, E, F, rfl, ⟨e1, e2, rfl⟩, rfl⟩ := hG
      exact ⟨e1, by rw [e2]; simp only [List.append_assoc]⟩
  · obtain ⟨k, E, F, rfl, ⟨e1, rfl⟩, rfl⟩ := hG
    unfold rowP txtE
    rw [e1]
    simp only [List.append_assoc]
def prtF : Rdr Pt := seqR txtR fun k => seqR numR fun g => seqR (listF rowR) fun rs => pureR ⟨k, (g : Int), rs⟩
theorem prtR_eq (B : List UInt8) (s : Nat × Int) : prtR B s = ((prtF B s).1, endR B (prtF B s).2) := rfl
theorem ok_prt : OkRd prtF := ok_txt.bind fun _ => ok_num.bind fun _ => (ok_list ok_row).bind fun _ => OkRd.pure _
theorem rd_prt {k : ByteArray} {g : Int} {rs : List Ro} (h : ptB k g rs = true) : Rd prtF ⟨k, g, rs⟩ (wholeP k g rs) := by
  have hok := ptB_ok h
  obtain ⟨h1, h2, h3, h4, h5⟩ := hok
  unfold ptB at h
  simp only [Bool.and_eq_true] at h
  have hrs := rsB_ok h.2
  obtain ⟨g, rfl⟩ : ∃ n : Nat, g = n := ⟨g.toNat, by omega⟩
  have e : wholeP k (g : Int) rs = txtE k ++ (num g ++ ((num rs.length ++ rs.flatMap rowP) ++ [])) := by
    unfold wholeP txtE
    simp only [Int.toNat_natCast, List.append_assoc, List.append_nil]
  rw [e]
  unfold prtF
  refine (rd_txt (by omega)).bind ?_ (fun _ => ok_num.bind fun _ => (ok_list ok_row).bind fun _ => OkRd.pure _)
  refine (rd_num (by omega)).bind ?_ (fun _ => (ok_list ok_row).bind fun _ => OkRd.pure _)
  exact (rd_list ok_row (by omega) (fun c hc => rd_ro (hrs c hc)) (fun c _ => rowP_ge c)).bind (Rd.pure _) (fun _ => OkRd.pure _)
theorem bk_prt : Bk prtF (fun p E => E = wholeP p.key p.gone p.rows) := by
  unfold prtF
  refine (Bk.bind (Q := fun k (r : Pt) F => r.key = k ∧ F = num r.gone.toNat ++ num r.rows.length ++ r.rows.flatMap rowP) bk_txt ok_txt fun k => ?_).mono fun c G hG => ?_
  · refine (Bk.bind (Q := fun (g : Nat) (r : Pt) F => r.key = k ∧ r.gone = (g : Int) ∧ F = num r.rows.length ++ r.rows.flatMap rowP) bk_num ok_num fun g => ?_).mono fun c G hG => ?_
    · refine (Bk.bind (Q := fun cs (r : Pt) F => r = ⟨k, (g : Int), cs⟩ ∧ F = []) (bk_list bk_ro ok_row) (ok_list ok_row) fun cs => Bk.pure _).mono fun c G hG => ?_
      obtain ⟨cs, E, F, rfl, ⟨rfl, rfl⟩, rfl⟩ := hG
      exact ⟨rfl, rfl, by rw [List.append_nil]⟩
    · obtain ⟨g, E, F, ⟨rfl, _⟩, ⟨e1, e2, rfl⟩, rfl⟩ := hG
      exact ⟨e1, by rw [e2, Int.toNat_natCast]; simp only [List.append_assoc]⟩
  · obtain ⟨k, E, F, rfl, ⟨e1, rfl⟩, rfl⟩ := hG
    unfold wholeP txtE
    rw [e1]
    simp only [List.append_assoc]

/-! ### A partition that is alone -/
theorem endR_full (B : List UInt8) (s : Nat × Int) (h : B.length ≤ s.1) : endR B s = s := if_neg (by omega)
theorem prtR_put {B : List UInt8} {k : ByteArray} {g : Int} {rs : List Ro} (h : ptB k g rs = true) (hB : B = wholeP k g rs) : prtR B (0, 0) = (⟨k, g, rs⟩, (B.length, 0)) := by
  have := (rd_prt h).fwd B 0 [] (Nat.zero_le _) (by rw [List.drop_zero, List.append_nil, hB])
  rw [prtR_eq, this]
  simp only
  rw [endR_full _ _ (by rw [hB]; simp), Nat.zero_add, ← hB]
theorem prtR_cut {k : ByteArray} {g : Int} {rs : List Ro} (h : ptB k g rs = true) {j : Nat} (hj : j < (wholeP k g rs).length) : (prtR ((wholeP k g rs).take j) (0, 0)).2.2 = 8 := by
  have := (rd_prt h).cut ((wholeP k g rs).take j) 0 ((wholeP k g rs).drop j) (Nat.zero_le _) (by rw [List.drop_zero, List.take_append_drop]) (by rw [ne_eq, List.drop_eq_nil_iff]; omega)
  rw [prtR_eq]
  simp only
  unfold endR failR
  split
  · rw [if_neg (by rw [this]; decide)]; exact this
  · exact this
theorem prtR_more {k : ByteArray} {g : Int} {rs : List Ro} (h : ptB k g rs = true) {R : List UInt8} (hR : R ≠ []) : (prtR (wholeP k g rs ++ R) (0, 0)).2.2 = 6 := by
  have := (rd_prt h).fwd (wholeP k g rs ++ R) 0 R (Nat.zero_le _) (by rw [List.drop_zero])
  have hl : 0 < R.length := List.length_pos_iff.2 hR
  rw [prtR_eq, this]
  simp only
  unfold endR
  rw [if_pos (by rw [List.length_append]; omega)]
  rfl
theorem prtR_back {B : List UInt8} {s : Nat × Int} (hs : s.1 ≤ B.length) (h : (prtR B s).2.2 = 0) : s.2 = 0 ∧ B.drop s.1 = wholeP (prtR B s).1.key (prtR B s).1.gone (prtR B s).1.rows := by
  rw [prtR_eq] at h ⊢
  simp only at h ⊢
  have hle := ok_prt.le B s hs
  unfold endR at h
  split at h
  · exact absurd h (failR_ne (by decide) _)
  · rename_i h1
    obtain ⟨a, E, rfl, c⟩ := bk_prt B s hs h
    refine ⟨a, ?_⟩
    rw [c, List.drop_eq_nil_of_le (show B.length ≤ (prtF B s).2.1 by omega), List.append_nil]
theorem prtR_er {B : List UInt8} {s : Nat × Int} (hs : s.1 ≤ B.length) (h : Er s.2) : Er (prtR B s).2.2 := by
  rw [prtR_eq]
  simp only
  have := ok_prt.er B s hs h
  unfold endR
  split
  · exact failR_er (.inr (.inl rfl)) this
  · exact this
theorem prtR_stick {B : List UInt8} {s : Nat × Int} (h : s.2 ≠ 0) : (prtR B s).2 = s := by
  rw [prtR_eq]
  simp only
  rw [ok_prt.stick B s h]
  unfold endR failR
  rw [if_neg h]
  split <;> rfl
theorem gp_put {B : List UInt8} {k : ByteArray} {g : Int} {rs : List Ro} (h : ptB k g rs = true) (hB : B = wholeP k g rs) (hl : B.length ≤ 262144) : gpErr B = 0 ∧ gpPt B = ⟨k, g, rs⟩ := by
  have e : getR B = (⟨k, g, rs⟩, (B.length, 0)) := by unfold getR; rw [if_pos hl]; exact prtR_put h hB
  have e1 : gpErr B = 0 := by unfold gpErr; rw [e]; simp [h]
  exact ⟨e1, by unfold gpPt; rw [if_pos e1, e]⟩
theorem gp_cut {k : ByteArray} {g : Int} {rs : List Ro} (h : ptB k g rs = true) (hl : (wholeP k g rs).length ≤ 262144) {j : Nat} (hj : j < (wholeP k g rs).length) : gpErr ((wholeP k g rs).take j) = 8 := by
  have e : (getR ((wholeP k g rs).take j)).2.2 = 8 := by unfold getR; rw [if_pos (by rw [List.length_take]; omega)]; exact prtR_cut h hj
  unfold gpErr
  rw [e]; rfl
theorem gp_more {k : ByteArray} {g : Int} {rs : List Ro} (h : ptB k g rs = true) {R : List UInt8} (hR : R ≠ []) (hl : (wholeP k g rs ++ R).length ≤ 262144) : gpErr (wholeP k g rs ++ R) = 6 := by
  have e : (getR (wholeP k g rs ++ R)).2.2 = 6 := by unfold getR; rw [if_pos hl]; exact prtR_more h hR
  unfold gpErr
  rw [e]; rfl
theorem gp_back {B : List UInt8} (h : gpErr B = 0) : ptB (gpPt B).key (gpPt B).gone (gpPt B).rows = true ∧ wholeP (gpPt B).key (gpPt B).gone (gpPt B).rows = B ∧ B.length ≤ 262144 := by
  have hp : gpPt B = (getR B).1 := if_pos h
  unfold gpErr at h
  split at h
  · rename_i h1
    split at h
    · rename_i h2
      have hl : B.length ≤ 262144 := by
        by_cases h3 : B.length ≤ 262144
        · exact h3
        · exfalso
          unfold getR at h1
          rw [if_neg h3, prtR_stick (by decide)] at h1
          cases h1
      rw [hp]
      have h5 := h1
      unfold getR at h5
      have := prtR_back (B := B) (Nat.zero_le _) h5
      rw [List.drop_zero] at this
      exact ⟨h2, this.2.symm, hl⟩
    · cases h
  · rename_i h1
    exact absurd h h1
theorem gp_er {B : List UInt8} (hl : B.length ≤ 262144) : gpErr B = 0 ∨ gpErr B = 1 ∨ gpErr B = 6 ∨ gpErr B = 8 := by
  have : Er (getR B).2.2 := by unfold getR; rw [if_pos hl]; exact prtR_er (Nat.zero_le _) (.inl rfl)
  unfold gpErr
  split
  · split
    · exact .inl rfl
    · exact .inr (.inl rfl)
  · rename_i h
    rcases this with h1 | h1 | h1
    · exact absurd h1 h
    · exact .inr (.inr (.inl h1))
    · exact .inr (.inr (.inr h1))
theorem gp_none {B : List UInt8} (h : gpErr B ≠ 0) : gpPt B = ⟨⟨#[]⟩, 0, []⟩ := if_neg h
end Go.Proofs.YtcmgeccgahakbaaDoor

/- Plain laws: batches: what is put is got; what is got is put as the same bytes. -/
namespace Go.Proofs.YtcmgeccgahakbaaDoor
open Go Go.RowKit

/-- A partition within a text. -/
def inR (t b : ByteArray) : Rdr Mq := fun _ s => (⟨t, (prtR b.data.toList (0, s.2)).1⟩, failR (prtR b.data.toList (0, s.2)).2.2 s)
theorem mutR_eq (B : List UInt8) (s : Nat × Int) : mutR B s = seqR txtR (fun t => seqR txtR fun b => inR t b) B s := rfl
theorem failR_stick {k : Int} {s : Nat × Int} (h : s.2 ≠ 0) : failR k s = s := if_neg h
theorem ok_in (t b : ByteArray) : OkRd (inR t b) :=
  ⟨fun _ s h => failR_stick h, fun _ s h => by unfold inR; simp only [failR_one]; exact h, fun _ s _ he => failR_er (prtR_er (Nat.zero_le _) he) he⟩
theorem ok_mut : OkRd mutR := (ok_txt.bind fun t => ok_txt.bind fun b => ok_in t b).congr mutR_eq
theorem rd_in {t b : ByteArray} {x : Mq} (ht : x.table = t) (h : ptB x.pt.key x.pt.gone x.pt.rows = true) (hb : b.data.toList = wholeP x.pt.key x.pt.gone x.pt.rows) : Rd (inR t b) x [] := by
  refine ⟨fun _ i _ _ _ => ?_, fun _ _ T _ h hT => absurd (List.append_eq_nil_iff.1 h).2 hT⟩
  unfold inR
  simp only
  rw [prtR_put h hb, ← ht]
  rfl
theorem rd_mut {x : Mq} (h : okMq x = true) : Rd mutR x (mutE x) := by
  unfold okMq at h
  simp only [Bool.and_eq_true] at h
  have hn := nameB_size h.1
  have hw := wholeP_le8 h.2
  refine Rd.congr ?_ (fun B i => mutR_eq B (i, 0))
  have e : mutE x = txtE x.table ++ (txtE (str (wholeP x.pt.key x.pt.gone x.pt.rows)) ++ []) := by
    unfold mutE mutQ txtE
    simp only [List.append_assoc, List.append_nil, str_size, str_toList]
  rw [e]
  refine (rd_txt (by omega)).bind ?_ fun t => ok_txt.bind fun b => ok_in t b
  exact (rd_txt (by rw [str_size]; omega)).bind (rd_in rfl h.2 rfl) fun b => ok_in _ b
theorem bk_in (t b : ByteArray) : Bk (inR t b) (fun x E => E = [] ∧ x.table = t ∧ b.data.toList = wholeP x.pt.key x.pt.gone x.pt.rows) := fun B s hs h => by
  unfold inR at h ⊢
  simp only at h ⊢
  by_cases h0 : s.2 = 0
  · unfold failR at h
    rw [if_pos h0] at h
    simp only at h
    have := prtR_back (Nat.zero_le _) h
    rw [List.drop_zero] at this
    exact ⟨h0, [], ⟨rfl, trivial, this.2⟩, by rw [failR_one]; rfl⟩
  · rw [failR_stick h0] at h
    exact absurd h h0
theorem bk_mut : Bk mutR (fun x E => E = mutE x) := by
  refine Bk.congr ?_ mutR_eq
  refine (Bk.bind (Q := fun t (x : Mq) F => x.table = t ∧ F = txtE (str (wholeP x.pt.key x.pt.gone x.pt.rows))) bk_txt ok_txt fun t => (Bk.bind (Q := fun b (x : Mq) F => F = [] ∧ x.table = t ∧ b.data.toList = wholeP x.pt.key x.pt.gone x.pt.rows) bk_txt ok_txt fun b => bk_in t b).mono fun x G hG => ?_).mono fun x G hG => ?_
  · obtain ⟨b, E, F, rfl, ⟨rfl, h1, h2⟩, rfl⟩ := hG
    refine ⟨h1, ?_⟩
    rw [← h2, str_back, List.append_nil]
  · obtain ⟨t, E, F, rfl, ⟨rfl, rfl⟩, rfl⟩ := hG
    unfold mutE mutQ txtE
    simp only [List.append_assoc, str_size, str_toList]
theorem noteR_eq (B : List UInt8) (s : Nat × Int) : noteR B s = seqR numR (fun n => seqR txtR fun t => pureR (⟨(n : Int), t⟩ : Nt)) B s := rfl
theorem ok_note : OkRd noteR := OkRd.congr (ok_num.bind fun n => ok_txt.bind fun t => OkRd.pure (⟨(n : Int), t⟩ : Nt)) noteR_eq
theorem rd_note {x : Nt} (h : okNt x = true) : Rd noteR x (notP x) := by
  unfold okNt idB at h
  simp only [Bool.and_eq_true, decide_eq_true_eq] at h
  obtain ⟨id, body⟩ := x
  simp only at h
  obtain ⟨n, rfl⟩ : ∃ n : Nat, id = n := ⟨id.toNat, by omega⟩
  refine Rd.congr ?_ (fun B i => noteR_eq B (i, 0))
  have e : notP ⟨(n : Int), body⟩ = num n ++ (txtE body ++ []) := by
    unfold notP txtE
    simp only [List.append_assoc, List.append_nil, Int.toNat_natCast]
  rw [e]
  refine (rd_num (by omega)).bind ?_ fun n => ok_txt.bind fun t => OkRd.pure _
  exact (rd_txt (by omega)).bind (Rd.pure _) fun b => OkRd.pure _
theorem bk_note : Bk noteR (fun x E => E = notP x) := by
  refine Bk.congr ?_ noteR_eq
  refine (Bk.bind (Q := fun (n : Nat) (x : Nt) F => x.id = (n : Int) ∧ F = txtE x.body) bk_num ok_num fun n => (Bk.bind (Q := fun t (x : Nt) F => x = ⟨(n : Int), t⟩ ∧ F = []) bk_txt ok_txt fun t => Bk.pure _).mono fun x G hG => ?_).mono fun x G hG => ?_
  · obtain ⟨t, E, F, rfl, ⟨rfl, rfl⟩, rfl⟩ := hG
    exact ⟨rfl, by rw [List.append_nil]⟩
  · obtain ⟨n, E, F, ⟨rfl, _⟩, ⟨h1, rfl⟩, rfl⟩ := hG
    unfold notP txtE
    rw [h1, Int.toNat_natCast]
    simp only [List.append_assoc]
theorem numIR_eq (B : List UInt8) (s : Nat × Int) : numIR B s = seqR numR (fun n => pureR (n : Int)) B s := rfl
theorem ok_numI : OkRd numIR := OkRd.congr (ok_num.bind fun n => OkRd.pure (n : Int)) numIR_eq
theorem rd_numI {x : Int} (h : idB x = true) : Rd numIR x (num x.toNat) := by
  unfold idB at h
  simp only [Bool.and_eq_true, decide_eq_true_eq] at h
  obtain ⟨n, rfl⟩ : ∃ n : Nat, x = n := ⟨x.toNat, by omega⟩
  refine Rd.congr ?_ (fun B i => numIR_eq B (i, 0))
  have := (rd_num (x := n) (by omega)).bind (g := fun n : Nat => pureR (n : Int)) (Rd.pure (n : Int)) fun n => OkRd.pure (n : Int)
  rw [List.append_nil] at this
  exact this
theorem bk_numI : Bk numIR (fun x E => E = num x.toNat) := by
  refine Bk.congr ?_ numIR_eq
  refine (Bk.bind (Q := fun (n : Nat) (x : Int) F => x = (n : Int) ∧ F = []) bk_num ok_num fun n => Bk.pure _).mono fun x G hG => ?_
  obtain ⟨n, E, F, ⟨rfl, _⟩, ⟨rfl, rfl⟩, rfl⟩ := hG
  rw [List.append_nil, Int.toNat_natCast]
theorem mutE_ge (x : Mq) : 1 ≤ (mutE x).length := by have := num_ge x.table.size; unfold mutE mutQ; simp only [List.length_append]; omega
theorem notP_ge (x : Nt) : 1 ≤ (notP x).length := by have := num_ge x.id.toNat; unfold notP; simp only [List.length_append]; omega
def btF : Rdr Bt := seqR (listF mutR) fun M => seqR (listF noteR) fun A => seqR (listF numIR) fun D => pureR ⟨M, A, D⟩
theorem btR_eq (B : List UInt8) (s : Nat × Int) : btR B s = ((btF B s).1, endR B (btF B s).2) := rfl
theorem ok_bt : OkRd btF := (ok_list ok_mut).bind fun _ => (ok_list ok_note).bind fun _ => (ok_list ok_numI).bind fun _ => OkRd.pure _
theorem rd_bt {b : Bt} (h : cbQ b = true) : Rd btF b (batQ b) := by
  unfold cbQ at h
  simp only [Bool.and_eq_true, decide_eq_true_eq, List.all_eq_true] at h
  obtain ⟨⟨⟨⟨⟨z1, z2⟩, z3⟩, hM⟩, hA⟩, hD⟩ := h
  obtain ⟨M, A, D⟩ := b
  simp only at z1 z2 z3 hM hA hD
  have e : batQ ⟨M, A, D⟩ = (num M.length ++ M.flatMap mutE) ++ ((num A.length ++ A.flatMap notP) ++ ((num D.length ++ D.flatMap fun d => num d.toNat) ++ [])) := by
    unfold batQ
    simp only [List.append_assoc, List.append_nil]
  rw [e]
  unfold btF
  refine (rd_list ok_mut (by omega) (fun x hx => rd_mut (hM x hx)) fun x _ => mutE_ge x).bind ?_ fun _ => (ok_list ok_note).bind fun _ => (ok_list ok_numI).bind fun _ => OkRd.pure _
  refine (rd_list ok_note (by omega) (fun x hx => rd_note (hA x hx)) fun x _ => notP_ge x).bind ?_ fun _ => (ok_list ok_numI).bind fun _ => OkRd.pure _
  exact (rd_list ok_numI (by omega) (fun x hx => rd_numI (hD x hx)) fun x _ => num_ge _).bind (Rd.pure _) fun _ => OkRd.pure _
theorem bk_bt : Bk btF (fun b E => E = batQ b) := by
  unfold btF
  refine (Bk.bind (Q := fun M (b : Bt) F => b.muts = M ∧ F = num b.add.length ++ b.add.flatMap notP ++ num b.drop.length ++ b.drop.flatMap fun d => num d.toNat) (bk_list bk_mut ok_mut) (ok_list ok_mut) fun M => ?_).mono fun c G hG => ?_
  · refine (Bk.bind (Q := fun A (b : Bt) F => b.muts = M ∧ b.add = A ∧ F = num b.drop.length ++ b.drop.flatMap fun d => num d.toNat) (bk_list bk_note ok_note) (ok_list ok_note) fun A => ?_).mono fun c G hG => ?_
    · refine (Bk.bind (Q := fun D (b : Bt) F => b = ⟨M, A, D⟩ ∧ F = []) (bk_list bk_numI ok_numI) (ok_list ok_numI) fun D => Bk.pure _).mono fun c G hG => ?_
      obtain ⟨D, E, F, rfl, ⟨rfl, rfl⟩, rfl⟩ := hG
      exact ⟨rfl, rfl, by rw [List.append_nil]⟩
    · obtain ⟨A, E, F, rfl, ⟨h1, rfl, rfl⟩, rfl⟩ := hG
      exact ⟨h1, by simp only [List.append_assoc]⟩
  · obtain ⟨M, E, F, rfl, ⟨rfl, rfl⟩, rfl⟩ := hG
    unfold batQ
    simp only [List.append_assoc]
theorem btR_put {B : List UInt8} {b : Bt} (h : cbQ b = true) (hB : B = batQ b) : btR B (0, 0) = (b, (B.length, 0)) := by
  have := (rd_bt h).fwd B 0 [] (Nat.zero_le _) (by rw [List.drop_zero, List.append_nil, hB])
  rw [btR_eq, this]
  simp only
  rw [endR_full _ _ (by rw [hB]; simp), Nat.zero_add, ← hB]
theorem btR_back {B : List UInt8} {s : Nat × Int} (hs : s.1 ≤ B.length) (h : (btR B s).2.2 = 0) : s.2 = 0 ∧ B.drop s.1 = batQ (btR B s).1 := by
  rw [btR_eq] at h ⊢
  simp only at h ⊢
  have hle := ok_bt.le B s hs
  unfold endR at h
  split at h
  · exact absurd h (failR_ne (by decide) _)
  · rename_i h1
    obtain ⟨a, E, rfl, c⟩ := bk_bt B s hs h
    refine ⟨a, ?_⟩
    rw [c, List.drop_eq_nil_of_le (show B.length ≤ (btF B s).2.1 by omega), List.append_nil]
theorem btR_stick {B : List UInt8} {s : Nat × Int} (h : s.2 ≠ 0) : (btR B s).2 = s := by
  rw [btR_eq]
  simp only
  rw [ok_bt.stick B s h]
  unfold endR failR
  rw [if_neg h]
  split <;> rfl
theorem gb_put {B : List UInt8} {b : Bt} (h : cbQ b = true) (hB : B = batQ b) (hl : B.length ≤ 262144) : gbErr B = 0 ∧ gbBt B = b := by
  have e : gB B = (b, (B.length, 0)) := by unfold gB; rw [if_pos hl]; exact btR_put h hB
  have e1 : gbErr B = 0 := by unfold gbErr; rw [e]; simp [h]
  exact ⟨e1, by unfold gbBt; rw [if_pos e1, e]⟩
theorem gb_back {B : List UInt8} (h : gbErr B = 0) : cbQ (gbBt B) = true ∧ batQ (gbBt B) = B ∧ B.length ≤ 262144 := by
  have hp : gbBt B = (gB B).1 := if_pos h
  unfold gbErr at h
  split at h
  · rename_i h1
    split at h
    · rename_i h2
      have hl : B.length ≤ 262144 := by
        by_cases h3 : B.length ≤ 262144
        · exact h3
        · exfalso
          unfold gB at h1
          rw [if_neg h3, btR_stick (by decide)] at h1
          cases h1
      rw [hp]
      have h5 := h1
      unfold gB at h5
      have := btR_back (B := B) (Nat.zero_le _) h5
      rw [List.drop_zero] at this
      exact ⟨h2, this.2.symm, hl⟩
    · cases h
  · rename_i h1
    exact absurd h h1
theorem gb_none {B : List UInt8} (h : gbErr B ≠ 0) : gbBt B = ⟨[], [], []⟩ := if_neg h
end Go.Proofs.YtcmgeccgahakbaaDoor
