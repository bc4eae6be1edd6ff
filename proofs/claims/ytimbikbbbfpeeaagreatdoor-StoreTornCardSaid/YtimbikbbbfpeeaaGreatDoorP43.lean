/- Plain law: what is scanned is what was put; behind what is good a record goes on; lengths of many records. -/
import Derived.Test.YtimbikbbbfpeeaaGreatDoorP41
import Derived.Test.YtimbikbbbfpeeaaGreatDoorP19
import Derived.Test.YtimbikbbbfpeeaaGreatDoorP27
import Derived.Test.YtimbikbbbfpeeaaGreatDoorP31
set_option linter.unusedSimpArgs false
set_option linter.unusedVariables false
namespace Go.Proofs.YtimbikbbbfpeeaaGreatDoor
open Go Go.RowKit

theorem scan_sound (s : List UInt8) : ∀ (m at_ : Nat), s.length - at_ ≤ m → s.drop at_ = puts at_ (scan s at_).1 ++ s.drop (scan s at_).2 ∧ (scan s at_).2 = at_ + (puts at_ (scan s at_).1).length := by
  intro m
  induction m with
  | zero =>
    intro at_ h
    have hr : rd s false at_ = none := by
      cases hr : rd s false at_ with
      | none => rfl
      | some p =>
        obtain ⟨b, e⟩ := p
        obtain ⟨_, _, h3, h4⟩ := rd_spec hr
        have := sput_pos false at_ b
        omega
    rw [scan_none hr]; simp [puts]
  | succ m ih =>
    intro at_ h
    cases hr : rd s false at_ with
    | none => rw [scan_none hr]; simp [puts]
    | some p =>
      obtain ⟨b, e⟩ := p
      obtain ⟨_, h2, h3, h4⟩ := rd_spec hr
      have hp := sput_pos false at_ b
      obtain ⟨i1, i2⟩ := ih e (by omega)
      rw [scan_some hr]
      simp only [puts, ← h3, List.append_assoc, List.length_append]
      refine ⟨by rw [← i1]; exact h2, by omega⟩
theorem scan_take (s : List UInt8) : s.take (scan s 0).2 = puts 0 (scan s 0).1 ∧ (scan s 0).2 = (puts 0 (scan s 0).1).length := by
  obtain ⟨h1, h2⟩ := scan_sound s _ 0 (Nat.le_refl _)
  rw [Nat.zero_add] at h2
  refine ⟨?_, h2⟩
  rw [List.drop_zero] at h1
  generalize (scan s 0).2 = g at h1 h2 ⊢
  generalize (scan s 0).1 = m at h1 h2 ⊢
  rw [h1]
  exact List.take_left' h2.symm
theorem scan_more (s body : List UInt8) : scan (s.take (scan s 0).2 ++ sput false (scan s 0).2 body) 0 = ((scan s 0).1 ++ [body], (scan s 0).2 + (sput false (scan s 0).2 body).length) := by
  obtain ⟨h1, h2⟩ := scan_take s
  have e : s.take (scan s 0).2 ++ sput false (scan s 0).2 body = puts 0 ((scan s 0).1 ++ [body]) := by
    rw [puts_append, h1, Nat.zero_add, ← h2]
    simp [puts]
  rw [e, scan_all, ← e, List.length_append, h1, ← h2]
theorem puts_le : ∀ (l : List (List UInt8)) (n : Nat), (∀ x ∈ l, x.length ≤ 400) → (puts n l).length ≤ l.length * 2812
  | [], _, _ => by simp [puts]
  | b :: l, n, h => by
    have h1 := puts_le l (n + (sput false n b).length) fun x hx => h x (List.mem_cons_of_mem _ hx)
    have h2 := lenS_le _ n b.length (Nat.le_refl _)
    have h3 := h b (List.mem_cons_self ..)
    have h4 := sput_lenS false n b
    simp only [puts, List.length_append, List.length_cons]
    omega
theorem puts_take {l : List (List UInt8)} {k : Nat} (hk : k < l.length) : puts 0 (l.take k) ++ sput false (puts 0 (l.take k)).length l[k] = puts 0 (l.take (k + 1)) := by
  rw [List.take_succ_eq_append_getElem hk, puts_append]
  simp [puts]
theorem take_le {l : List (List UInt8)} {k : Nat} (hk : k < l.length) (h : ∀ x ∈ l.take k, x.length ≤ 400) (hx : l[k].length ≤ 400) : ∀ x ∈ l.take (k + 1), x.length ≤ 400 := by
  rw [List.take_succ_eq_append_getElem hk]
  intro x hm
  rcases List.mem_append.1 hm with hm | hm
  · exact h x hm
  · rw [List.mem_singleton.1 hm]; exact hx
end Go.Proofs.YtimbikbbbfpeeaaGreatDoor

/- Numbers: what is put is got; cut it is none (plain law). -/
namespace Go.Proofs.YtimbikbbbfpeeaaGreatDoor
open Go Go.RowKit

theorem valB_cons (b : UInt8) (l : List UInt8) : valB (b :: l) = b.toNat * 256 ^ l.length + valB l := by
  have key : ∀ (m : List UInt8) (v : Nat), m.foldl (fun v b => v * 256 + b.toNat) v = v * 256 ^ m.length + valB m := by
    intro m
    induction m with
    | nil => intro v; simp [valB]
    | cons c m ih =>
      intro v
      have h1 := ih (v * 256 + c.toNat)
      have h2 := ih (0 * 256 + c.toNat)
      unfold valB
      rw [List.foldl_cons, List.foldl_cons, h1, h2, List.length_cons, Nat.pow_succ]
      simp only [Nat.add_mul, Nat.zero_mul, Nat.zero_add, Nat.mul_assoc, Nat.mul_comm 256]
      omega
  have := key l (0 * 256 + b.toNat)
  unfold valB at *
  rw [List.foldl_cons, this]
  simp
theorem valB_beB (k x : Nat) : valB (beB k x) = x % 256 ^ k := by
  induction k with
  | zero => simp [beB, valB, Nat.mod_one]
  | succ k ih =>
    rw [beB, valB_cons, ih, beB_length, Nat.mod_pow_succ]
    have : (UInt8.ofNat (x / 256 ^ k)).toNat = x / 256 ^ k % 256 := by simp
    rw [this, Nat.mul_comm]
    omega

theorem num_len (x : Nat) : (num x).length = nlen x + 1 := by simp [num, beB_length]
theorem nlen_le (x : Nat) (hx : x < 18446744073709551616) : nlen x ≤ 8 := by have := bitsOf_le64 hx; unfold nlen; omega
theorem nlen_lt8 (x : Nat) : x < 256 ^ nlen x := by
  rw [show (256 : Nat) = 2 ^ 8 by decide, ← Nat.pow_mul]
  refine Nat.lt_of_lt_of_le (bitsOf_lt x) (Nat.pow_le_pow_right (by decide) ?_)
  unfold nlen; omega
theorem top_ne (x : Nat) (h : 0 < nlen x) : UInt8.ofNat (x / 256 ^ (nlen x - 1)) ≠ 0 := by
  have hx : x ≠ 0 := by rintro rfl; simp [nlen, bitsOf] at h
  have h1 : 256 ^ (nlen x - 1) ≤ x := by
    rw [show (256 : Nat) = 2 ^ 8 by decide, ← Nat.pow_mul]
    refine Nat.le_trans (Nat.pow_le_pow_right (by decide) ?_) (bitsOf_le x hx)
    unfold nlen; omega
  have h2 : x / 256 ^ (nlen x - 1) < 256 := by
    refine Nat.div_lt_of_lt_mul ?_
    rw [← Nat.pow_succ, show (nlen x - 1).succ = nlen x by omega]
    exact nlen_lt8 x
  have h3 : 0 < x / 256 ^ (nlen x - 1) := Nat.div_pos h1 (Nat.pow_pos (by decide))
  intro he
  have := congrArg UInt8.toNat he
  rw [UInt8.toNat_ofNat_of_lt' h2] at this
  simp at this
  omega

theorem getNum_back (H R : List UInt8) (x : Nat) (hx : x < 18446744073709551616) : getNum (H ++ num x ++ R) (H.length : Int) = (x, ((H ++ num x).length : Int), 0) := by
  have h8 := nlen_le x hx
  unfold getNum
  rw [if_neg (by omega), Int.toNat_natCast]
  unfold getNumN
  have hlen : (H ++ num x ++ R).length = H.length + (nlen x + 1) + R.length := by simp [num_len]; omega
  rw [if_neg (by omega), dif_pos (by omega)]
  have e0 : (H ++ num x ++ R)[H.length]'(by omega) = UInt8.ofNat (nlen x) := by simp [num]
  have e1 : (UInt8.ofNat (nlen x)).toNat = nlen x := UInt8.toNat_ofNat_of_lt' (by show nlen x < 256; omega)
  rw [e0, e1, if_neg (by omega)]
  have e2 : (H ++ num x ++ R)[H.length + 1]? = (beB (nlen x) x ++ R)[0]? := by
    rw [List.append_assoc, List.getElem?_append_right (by omega)]
    simp [num]
  rw [e2, if_neg, if_neg (by omega)]
  · have e3 : ((H ++ num x ++ R).drop (H.length + 1)).take (nlen x) = beB (nlen x) x := by
      rw [List.append_assoc, List.drop_append, List.drop_eq_nil_of_le (by omega), show H.length + 1 - H.length = 1 by omega]
      simp [num, beB_length]
    rw [e3, valB_beB, Nat.mod_eq_of_lt (nlen_lt8 x)]
    simp [num_len]
    omega
  · rintro ⟨h0, h⟩
    rw [List.getElem?_append_left (by rw [beB_length]; exact h0), beB_get h0] at h
    have := top_ne x h0
    simp at h
    exact this (by simpa using h)

theorem getNum_cut (H : List UInt8) (x j : Nat) (hx : x < 18446744073709551616) (hj : j < (num x).length) : (getNum ((H ++ num x).take (H.length + j)) (H.length : Int)).2.2 = 8 := by
  have h8 := nlen_le x hx
  rw [num_len] at hj
  unfold getNum
  rw [if_neg (by omega), Int.toNat_natCast]
  unfold getNumN
  have hlen : ((H ++ num x).take (H.length + j)).length = H.length + j := by simp [num_len]; omega
  rw [if_neg (by omega)]
  by_cases hj0 : j = 0
  · rw [dif_neg (by omega)]
  rw [dif_pos (by omega)]
  have e0 : ((H ++ num x).take (H.length + j))[H.length]'(by omega) = UInt8.ofNat (nlen x) := by simp [num]
  have e1 : (UInt8.ofNat (nlen x)).toNat = nlen x := UInt8.toNat_ofNat_of_lt' (by show nlen x < 256; omega)
  rw [e0, e1, if_neg (by omega), if_neg, if_pos (by omega)]
  rintro ⟨h0, h⟩
  rw [List.getElem?_take] at h
  split at h
  · rw [List.getElem?_append_right (by omega), show H.length + 1 - H.length = 1 by omega] at h
    simp only [num, List.getElem?_cons_succ] at h
    rw [beB_get h0] at h
    exact top_ne x h0 (by simpa using h)
  · cases h
end Go.Proofs.YtimbikbbbfpeeaaGreatDoor

/- Plain laws: what pack puts, its reader gets; what its reader got is put as the same bytes. -/
namespace Go.Proofs.YtimbikbbbfpeeaaGreatDoor
open Go Go.RowKit

abbrev Rdr (α : Type) := List UInt8 → Nat × Int → α × (Nat × Int)
def seqR {α β : Type} (f : Rdr α) (g : α → Rdr β) : Rdr β := fun B s => g (f B s).1 B (f B s).2
def pureR {α : Type} (x : α) : Rdr α := fun _ s => (x, s)
/-- What may be wrong. -/
def Er (e : Int) : Prop := e = 0 ∨ e = 6 ∨ e = 8
/-- What is wrong stays; no place is behind the end. -/
structure OkRd {α : Type} (f : Rdr α) : Prop where
  stick : ∀ B s, s.2 ≠ 0 → (f B s).2 = s
  le : ∀ B s, s.1 ≤ B.length → (f B s).2.1 ≤ B.length
  er : ∀ B s, s.1 ≤ B.length → Er s.2 → Er (f B s).2.2
/-- Bytes E are x to a reader; cut they are none. -/
structure Rd {α : Type} (f : Rdr α) (x : α) (E : List UInt8) : Prop where
  fwd : ∀ B i R, i ≤ B.length → B.drop i = E ++ R → f B (i, 0) = (x, (i + E.length, 0))
  cut : ∀ B i T, i ≤ B.length → B.drop i ++ T = E → T ≠ [] → (f B (i, 0)).2.2 = 8
/-- What a reader took was the bytes of what it got. -/
def Bk {α : Type} (f : Rdr α) (P : α → List UInt8 → Prop) : Prop :=
  ∀ B s, s.1 ≤ B.length → (f B s).2.2 = 0 → s.2 = 0 ∧ ∃ E, P (f B s).1 E ∧ B.drop s.1 = E ++ B.drop (f B s).2.1

theorem drop_step {B E R : List UInt8} {i : Nat} (hi : i ≤ B.length) (h : B.drop i = E ++ R) : B.drop (i + E.length) = R ∧ i + E.length ≤ B.length := by
  constructor
  · rw [← List.drop_drop, h, List.drop_left]
  · have := congrArg List.length h
    rw [List.length_drop, List.length_append] at this
    omega

section
variable {α β : Type} {f : Rdr α} {g : α → Rdr β} {x : α} {y : β} {E F : List UInt8}
theorem OkRd.bind (hf : OkRd f) (hg : ∀ a, OkRd (g a)) : OkRd (seqR f g) := by
  refine ⟨fun B s h => ?_, fun B s h => (hg _).le B _ (hf.le B s h), fun B s h he => (hg _).er B _ (hf.le B s h) (hf.er B s h he)⟩
  unfold seqR
  rw [hf.stick B s h]
  exact (hg _).stick B s h
theorem OkRd.pure (x : α) : OkRd (pureR x) := ⟨fun _ _ _ => rfl, fun _ _ h => h, fun _ _ _ h => h⟩
theorem OkRd.ite {c : Prop} [Decidable c] {h : Rdr α} (hf : OkRd f) (hh : OkRd h) : OkRd (if c then f else h) := by split <;> assumption
theorem OkRd.congr {h : Rdr α} (hf : OkRd f) (e : ∀ B s, h B s = f B s) : OkRd h := by
  obtain rfl : h = f := funext fun B => funext fun s => e B s
  exact hf
theorem Rd.pure (x : α) : Rd (pureR x) x [] := ⟨fun _ _ _ _ _ => rfl, fun _ _ T _ h hT => absurd (List.append_eq_nil_iff.1 h).2 hT⟩
theorem Rd.congr {h : Rdr α} (hf : Rd f x E) (e : ∀ B i, h B (i, 0) = f B (i, 0)) : Rd h x E :=
  ⟨fun B i R hi hd => by rw [e]; exact hf.fwd B i R hi hd, fun B i T hi hd hT => by rw [e]; exact hf.cut B i T hi hd hT⟩
theorem Rd.bind (hf : Rd f x E) (hg : Rd (g x) y F) (hs : ∀ a, OkRd (g a)) : Rd (seqR f g) y (E ++ F) := by
  constructor
  · intro B i R hi hd
    rw [List.append_assoc] at hd
    have h1 := hf.fwd B i _ hi hd
    have h2 := drop_step hi hd
    unfold seqR
    rw [h1]
    simp only
    rw [hg.fwd B _ R h2.2 h2.1, List.length_append, Nat.add_assoc]
  · intro B i T hi hd hT
    rcases List.append_eq_append_iff.1 hd with ⟨a, h1, h2⟩ | ⟨c, h1, h2⟩
    · by_cases ha : a = []
      · subst ha
        have hd' : B.drop i = E ++ [] := by rw [List.append_nil] at h1 ⊢; exact h1.symm
        have h3 := drop_step hi hd'
        unfold seqR
        rw [hf.fwd B i [] hi hd']
        simp only
        refine hg.cut B _ T h3.2 ?_ hT
        rw [h3.1, List.nil_append, h2, List.nil_append]
      · have h3 := hf.cut B i a hi h1.symm ha
        unfold seqR
        have h4 := (hs (f B (i, 0)).1).stick B (f B (i, 0)).2 (by rw [h3]; decide)
        rw [h4]
        exact h3
    · have h3 := drop_step hi h1
      unfold seqR
      rw [hf.fwd B i c hi h1]
      simp only
      refine hg.cut B _ T h3.2 ?_ hT
      rw [h3.1, h2]
theorem Bk.pure (x : α) : Bk (pureR x) (fun y E => y = x ∧ E = []) := fun _ _ _ h => ⟨h, [], ⟨rfl, rfl⟩, rfl⟩
theorem Bk.bind {P : α → List UInt8 → Prop} {Q : α → β → List UInt8 → Prop} (hf : Bk f P) (ho : OkRd f) (hg : ∀ a, Bk (g a) (Q a)) : Bk (seqR f g) (fun y G => ∃ a E F, P a E ∧ Q a y F ∧ G = E ++ F) := fun B s hs h => by
  unfold seqR at h ⊢
  obtain ⟨k1, F, k3, k4⟩ := hg (f B s).1 B (f B s).2 (ho.le B s hs) h
  obtain ⟨m1, E, m3, m4⟩ := hf B s hs k1
  exact ⟨m1, E ++ F, ⟨_, E, F, m3, k3, rfl⟩, by rw [m4, k4, List.append_assoc]⟩
theorem Bk.mono {P Q : α → List UInt8 → Prop} (hf : Bk f P) (h : ∀ x E, P x E → Q x E) : Bk f Q := fun B s hs he => by
  obtain ⟨a, E, c, d⟩ := hf B s hs he
  exact ⟨a, E, h _ _ c, d⟩
theorem Bk.congr {h : Rdr α} {P : α → List UInt8 → Prop} (hf : Bk f P) (e : ∀ B s, h B s = f B s) : Bk h P := by
  obtain rfl : h = f := funext fun B => funext fun s => e B s
  exact hf
end

/-! ### Numbers -/
theorem beB_modA (k : Nat) : ∀ (y x : Nat), beB k (y * 256 ^ k + x) = beB k x := by
  induction k with
  | zero => intro y x; rfl
  | succ k ih =>
    intro y x
    unfold beB
    have e : y * 256 ^ (k + 1) = (y * 256) * 256 ^ k := by rw [Nat.pow_succ, Nat.mul_assoc, Nat.mul_comm (256 ^ k)]
    rw [e, ih, Nat.add_comm (y * 256 * 256 ^ k) x, Nat.add_mul_div_right _ _ (Nat.pow_pos (by decide))]
    congr 1
    apply UInt8.toNat.inj
    simp
theorem beB_valB : ∀ l : List UInt8, beB l.length (valB l) = l
  | [] => rfl
  | b :: l => by
    have h := valB_lt _ l rfl
    rw [valB_cons, List.length_cons]
    unfold beB
    rw [beB_modA, beB_valB l, Nat.add_comm, Nat.add_mul_div_right _ _ (Nat.pow_pos (by decide)), Nat.div_eq_of_lt h, Nat.zero_add]
    simp
theorem nlen_valB {b : UInt8} {l : List UInt8} (h : b ≠ 0) : nlen (valB (b :: l)) = l.length + 1 := by
  have hb : 1 ≤ b.toNat := by
    rcases Nat.eq_zero_or_pos b.toNat with h0 | h0
    · exact absurd (UInt8.toNat.inj (by rw [h0]; rfl)) h
    · exact h0
  have h1 : 256 ^ l.length ≤ valB (b :: l) := by
    rw [valB_cons]
    exact Nat.le_trans (Nat.le_mul_of_pos_left _ hb) (Nat.le_add_right _ _)
  have h2 : valB (b :: l) < 256 ^ (l.length + 1) := valB_lt _ (b :: l) rfl
  have hne : valB (b :: l) ≠ 0 := by have := Nat.pow_pos (n := l.length) (show 0 < 256 by decide); omega
  have a := bitsOf_lt (valB (b :: l))
  have c := bitsOf_le (valB (b :: l)) hne
  rw [show (256 : Nat) = 2 ^ 8 by decide, ← Nat.pow_mul] at h1 h2
  have d1 := (Nat.pow_lt_pow_iff_right (a := 2) (by omega)).1 (Nat.lt_of_le_of_lt h1 a)
  have d2 := (Nat.pow_lt_pow_iff_right (a := 2) (by omega)).1 (Nat.lt_of_le_of_lt c h2)
  unfold nlen
  omega
theorem num_valB (l : List UInt8) (h : l.length < 256) (h0 : l.head? ≠ some 0) : num (valB l) = UInt8.ofNat l.length :: l := by
  cases l with
  | nil => rfl
  | cons b l =>
    have hb : b ≠ 0 := by intro e; exact h0 (by rw [e]; rfl)
    unfold num
    rw [nlen_valB hb]
    have := beB_valB (b :: l)
    rw [List.length_cons] at this ⊢
    rw [this]
theorem getNum_put {B : List UInt8} {i : Nat} (h : (getNumN B i).2.2 = 0) : B.drop i = num (getNumN B i).1 ++ B.drop (getNumN B i).2.1.toNat := by
  unfold getNumN at h ⊢
  split at h
  · simp at h
  split at h
  · rename_i h1 h2
    split at h
    · simp at h
    split at h
    · simp at h
    split at h
    · simp at h
    rename_i h3 h4 h5
    rw [if_neg h1, dif_pos h2, if_neg h3, if_neg h4, if_neg h5]
    simp only
    have hl : ((B.drop (i + 1)).take B[i].toNat).length = B[i].toNat := by rw [List.length_take, List.length_drop]; omega
    have e1 : num (valB ((B.drop (i + 1)).take B[i].toNat)) = B[i] :: (B.drop (i + 1)).take B[i].toNat := by
      rw [num_valB _ (by rw [hl]; exact B[i].toNat_lt), hl]
      · simp
      · intro h6
        rw [List.head?_take] at h6
        split at h6
        · cases h6
        · rename_i h7
          rw [List.head?_drop] at h6
          exact h4 ⟨by omega, h6⟩
    rw [e1, List.drop_eq_getElem_cons h2, List.cons_append]
    congr 1
    have e2 : ((i : Int) + 1 + (B[i].toNat : Int)).toNat = i + 1 + B[i].toNat := by omega
    rw [e2, show B.drop (i + 1 + B[i].toNat) = (B.drop (i + 1)).drop B[i].toNat by rw [List.drop_drop], List.take_append_drop]
  · simp at h
theorem getNum_fwd {B R : List UInt8} {i x : Nat} (hx : x < 18446744073709551616) (hi : i ≤ B.length) (h : B.drop i = num x ++ R) : getNum B i = (x, ((i + (num x).length : Nat) : Int), 0) := by
  have := getNum_back (B.take i) R x hx
  rw [List.append_assoc, ← h, List.take_append_drop, List.length_append, List.length_take, Nat.min_eq_left hi] at this
  exact this
theorem getNum_short {B T : List UInt8} {i x : Nat} (hx : x < 18446744073709551616) (hi : i ≤ B.length) (h : B.drop i ++ T = num x) (hT : T ≠ []) : (getNum B i).2.2 = 8 := by
  have hl := congrArg List.length h
  rw [List.length_append, List.length_drop] at hl
  have hT' : 0 < T.length := List.length_pos_iff.2 hT
  have := getNum_cut (B.take i) x (B.length - i) hx (by omega)
  rw [List.length_take, Nat.min_eq_left hi, ← h, ← List.append_assoc, List.take_append_drop, show i + (B.length - i) = B.length by omega, List.take_left] at this
  exact this
theorem getNum_er {B : List UInt8} {i : Nat} (hi : i ≤ B.length) : Er (getNumN B i).2.2 := by
  unfold getNumN Er
  rw [if_neg (by omega)]
  repeat' split
  all_goals simp

/-! ### any, number, count, text, truth -/
theorem anyR_zero (B : List UInt8) (s : Nat × Int) (h : s.2 ≠ 0) : anyR B s = (0, s) := if_neg h
theorem ok_any : OkRd anyR := by
  refine ⟨fun B s h => by rw [anyR_zero B s h], fun B s h => anyR_le h, fun B s h he => ?_⟩
  by_cases h0 : s.2 = 0
  · unfold anyR
    rw [if_pos h0, getNum_nat]
    split
    · exact .inl rfl
    · exact getNum_er h
  · rw [anyR_zero B s h0]; exact he
theorem any_short {B T : List UInt8} {i x : Nat} (hx : x < 18446744073709551616) (hi : i ≤ B.length) (h : B.drop i ++ T = num x) (hT : T ≠ []) : anyR B (i, 0) = (0, (i, 8)) := by
  have := getNum_short hx hi h hT
  unfold anyR
  simp [this]
theorem failR_er {k : Int} {s : Nat × Int} (hk : Er k) (h : Er s.2) : Er (failR k s).2 := by unfold failR; split <;> assumption
theorem failR_one (k : Int) (s : Nat × Int) : (failR k s).1 = s.1 := by unfold failR; split <;> rfl
theorem failR_ne {k : Int} (hk : k ≠ 0) (s : Nat × Int) : (failR k s).2 ≠ 0 := by unfold failR; split <;> assumption
theorem ok_num : OkRd numR := by
  refine ⟨fun B s h => ?_, fun B s h => ?_, fun B s h he => ?_⟩
  · unfold numR
    rw [anyR_zero B s h]; rfl
  · unfold numR
    split
    · exact anyR_le h
    · simp only [failR_one]; exact anyR_le h
  · unfold numR
    split
    · exact ok_any.er B s h he
    · exact failR_er (.inr (.inl rfl)) (ok_any.er B s h he)
theorem ok_cnt : OkRd cntR := by
  refine ⟨fun B s h => ?_, fun B s h => by have := cntR_le h; omega, fun B s h he => ?_⟩
  · unfold cntR
    rw [anyR_zero B s h]
    simp only [Nat.zero_le, if_true]
    rw [if_neg h]
  · unfold cntR
    split
    · split
      · exact ok_any.er B s h he
      · exact ok_any.er B s h he
    · exact failR_er (.inr (.inr rfl)) (ok_any.er B s h he)
theorem cntR_zero (B : List UInt8) (s : Nat × Int) (h : s.2 ≠ 0) : cntR B s = (0, s) := by
  unfold cntR
  rw [anyR_zero B s h]
  simp only [Nat.zero_le, if_true]
  rw [if_neg h]
theorem ok_txt : OkRd txtR := by
  refine ⟨fun B s h => ?_, fun B s h => ?_, fun B s h he => ok_cnt.er B s h he⟩
  · unfold txtR
    rw [cntR_zero B s h]
    rfl
  · exact cntR_le h
theorem ok_tru : OkRd truR := by
  refine ⟨fun B s h => ?_, fun B s h => ?_, fun B s h he => ?_⟩
  · unfold truR; rw [if_neg h]
  · unfold truR
    split
    · split
      · exact h
      · rename_i hb
        have := (List.getElem?_eq_some_iff.1 hb).1
        exact this
    · exact h
  · unfold truR
    split
    · split
      · exact .inr (.inr rfl)
      · simp only
        split
        · exact .inr (.inl rfl)
        · exact .inl rfl
    · exact he
theorem rd_num {x : Nat} (hx : x ≤ 1099511627776) : Rd numR x (num x) := by
  constructor
  · intro B i R hi h
    unfold numR anyR
    rw [if_pos rfl, getNum_fwd (by omega) hi h]
    simp only [if_true, Int.toNat_natCast]
    rw [if_pos hx]
  · intro B i T hi h hT
    unfold numR
    rw [any_short (by omega) hi h hT, if_pos (Nat.zero_le _)]
theorem cnt_fwd {B R : List UInt8} {i n : Nat} (hn : n < 18446744073709551616) (hi : i ≤ B.length) (h : B.drop i = num n ++ R) (hR : n ≤ R.length) : cntR B (i, 0) = (n, (i + (num n).length, 0)) := by
  have hl := congrArg List.length h
  rw [List.length_drop, List.length_append] at hl
  unfold cntR anyR
  rw [if_pos rfl, getNum_fwd hn hi h]
  simp only [if_true, Int.toNat_natCast]
  rw [if_pos (by omega)]
theorem cnt_few {B R : List UInt8} {i n : Nat} (hn : n < 18446744073709551616) (hi : i ≤ B.length) (h : B.drop i = num n ++ R) (hR : R.length < n) : (cntR B (i, 0)).1 = 0 ∧ (cntR B (i, 0)).2.2 = 8 := by
  have hl := congrArg List.length h
  rw [List.length_drop, List.length_append] at hl
  unfold cntR anyR
  rw [if_pos rfl, getNum_fwd hn hi h]
  simp only [if_true, Int.toNat_natCast]
  rw [if_neg (by omega)]
  exact ⟨rfl, rfl⟩
theorem cnt_short {B T : List UInt8} {i n : Nat} (hn : n < 18446744073709551616) (hi : i ≤ B.length) (h : B.drop i ++ T = num n) (hT : T ≠ []) : (cntR B (i, 0)).1 = 0 ∧ (cntR B (i, 0)).2.2 = 8 := by
  unfold cntR
  rw [any_short hn hi h hT]
  simp only [Nat.zero_le, if_true]
  rw [if_neg (show ¬ (8 : Int) = 0 by decide)]
  exact ⟨rfl, rfl⟩
def txtE (s : ByteArray) : List UInt8 := num s.size ++ s.data.toList
theorem str_back (s : ByteArray) : str s.data.toList = s := rfl
theorem rd_txt {s : ByteArray} (hs : s.size < 18446744073709551616) : Rd txtR s (txtE s) := by
  have hz := dat_size s
  constructor
  · intro B i R hi h
    unfold txtE at h
    rw [List.append_assoc] at h
    have h1 := cnt_fwd hs hi h (by rw [List.length_append]; omega)
    have h2 := drop_step hi h
    unfold txtR
    rw [h1]
    simp only
    rw [h2.1, ← hz, List.take_left, str_back]
    unfold txtE
    rw [List.length_append, hz, Nat.add_assoc]
  · intro B i T hi h hT
    unfold txtE at h
    show (cntR B (i, 0)).2.2 = 8
    rcases List.append_eq_append_iff.1 h with ⟨a, h1, h2⟩ | ⟨c, h1, h2⟩
    · by_cases ha : a = []
      · subst ha
        have hd' : B.drop i = num s.size ++ [] := by rw [List.append_nil] at h1 ⊢; exact h1.symm
        refine (cnt_few hs hi hd' ?_).2
        have : 0 < T.length := List.length_pos_iff.2 hT
        rw [h2, List.nil_append] at this
        simp only [List.length_nil]
        omega
      · exact (cnt_short hs hi h1.symm ha).2
    · refine (cnt_few hs hi h1 ?_).2
      have : 0 < T.length := List.length_pos_iff.2 hT
      rw [h2, List.length_append] at hz
      omega
theorem rd_tru (d : Bool) : Rd truR d [if d then 1 else 0] := by
  constructor
  · intro B i R hi h
    have hb : B[i]? = some (if d then 1 else 0) := by
      rw [← List.head?_drop, h]; rfl
    unfold truR
    rw [if_pos rfl, hb]
    cases d <;> rfl
  · intro B i T hi h hT
    have hn : B.drop i = [] := by
      have := congrArg List.length h
      rw [List.length_append] at this
      have : 0 < T.length := List.length_pos_iff.2 hT
      apply List.eq_nil_of_length_eq_zero
      simp only [List.length_cons, List.length_nil] at *
      omega
    have hb : B[i]? = none := by
      rw [← List.head?_drop, hn]; rfl
    unfold truR
    rw [if_pos rfl, hb]
theorem bk_any : Bk anyR (fun x E => E = num x) := fun B s hs h => by
  by_cases h0 : s.2 = 0
  · refine ⟨h0, _, rfl, ?_⟩
    unfold anyR at h ⊢
    rw [if_pos h0, getNum_nat] at h ⊢
    split at h
    · rename_i h1
      rw [if_pos h1]
      exact getNum_put h1
    · rename_i h1
      exact absurd h h1
  · rw [anyR_zero B s h0] at h
    exact absurd h h0
theorem bk_num : Bk numR (fun x E => E = num x ∧ x ≤ 1099511627776) := fun B s hs h => by
  unfold numR at h ⊢
  split at h
  · rename_i h1
    rw [if_pos h1]
    obtain ⟨a, E, b, c⟩ := bk_any B s hs h
    exact ⟨a, E, ⟨b, h1⟩, c⟩
  · exact absurd h (failR_ne (by decide) _)
theorem bk_cnt : Bk cntR (fun x E => E = num x) := fun B s hs h => by
  unfold cntR at h ⊢
  split at h
  · rename_i h1
    split at h
    · rename_i h2
      rw [if_pos h1, if_pos h2]
      exact bk_any B s hs h
    · rename_i h2
      exact absurd h h2
  · exact absurd h (failR_ne (by decide) _)
theorem bk_txt : Bk txtR (fun x E => E = txtE x) := fun B s hs h => by
  obtain ⟨a, E, b, c⟩ := bk_cnt B s hs h
  have hle := cntR_le hs
  refine ⟨a, _, rfl, ?_⟩
  unfold txtR txtE
  simp only
  have e1 : (str ((B.drop (cntR B s).2.1).take (cntR B s).1)).size = (cntR B s).1 := by
    rw [str_size, List.length_take, List.length_drop]; omega
  rw [e1, c, b, str_toList, List.append_assoc, ← List.drop_drop, List.take_append_drop]
theorem bk_tru : Bk truR (fun d E => E = [if d then 1 else 0]) := fun B s hs h => by
  unfold truR at h ⊢
  by_cases h0 : s.2 = 0
  · refine ⟨h0, _, rfl, ?_⟩
    rw [if_pos h0] at h ⊢
    cases hb : B[s.1]? with
    | none => rw [hb] at h; simp at h
    | some b =>
      rw [hb] at h
      simp only at h ⊢
      obtain ⟨h1, h2⟩ := List.getElem?_eq_some_iff.1 hb
      rw [List.drop_eq_getElem_cons h1, h2]
      have : b = 0 ∨ b = 1 := by
        have h3 : ¬ 1 < b.toNat := by intro h4; rw [if_pos h4] at h; simp at h
        rcases Nat.lt_or_ge b.toNat 1 with h4 | h4
        · exact .inl (UInt8.toNat.inj (by show b.toNat = 0; omega))
        · exact .inr (UInt8.toNat.inj (by show b.toNat = 1; omega))
      rcases this with rfl | rfl <;> rfl
  · rw [if_neg h0] at h
    exact absurd h h0
end Go.Proofs.YtimbikbbbfpeeaaGreatDoor
