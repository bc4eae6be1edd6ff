/- Records in blocks: the plain law of what is put and what is scanned. -/
import Derived.Test.YtimbikbbbfpeeaaGreatDoorP15
import Derived.Test.YtimbikbbbfpeeaaGreatDoorP31
import Derived.Test.YtimbikbbbfpeeaaGreatDoorP32
import Derived.Shelf.Small.Bits
import Derived.Shelf.Small.Wraps
import Derived.Shelf.Strconv.Itoa0
import Derived.Shelf.Sort.Plain
import Derived.Shelf.Slices.In.SortNone
import Derived.Test.YtimbikbbbfpeeaaGreatDoorProg
set_option linter.unusedSimpArgs false
set_option linter.unusedVariables false
namespace Go.Proofs.YtimbikbbbfpeeaaGreatDoor

def tok (t : Nat) (l : List UInt8) : Nat := l.foldl (fun t b => (257 * t + b.toNat + 1) % 2147483647) t
def tok4 (t : Nat) : List UInt8 := [UInt8.ofNat (t / 16777216), UInt8.ofNat (t / 65536), UInt8.ofNat (t / 256), UInt8.ofNat t]
theorem tok_lt : ∀ (l : List UInt8) (t : Nat), t < 2147483647 → tok t l < 2147483647
  | [], _, h => h
  | b :: l, t, _ => tok_lt l ((257 * t + b.toNat + 1) % 2147483647) (Nat.mod_lt _ (by omega))
theorem tok_snoc (t : Nat) (l : List UInt8) (b : UInt8) : tok t (l ++ [b]) = (257 * tok t l + b.toNat + 1) % 2147483647 := by simp [tok]
def num4 (a b c d : UInt8) : Nat := ((a.toNat * 256 + b.toNat) * 256 + c.toNat) * 256 + d.toNat
theorem tok4_iff (a b c d : UInt8) (t : Nat) (ht : t < 4294967296) : [a, b, c, d] = tok4 t ↔ num4 a b c d = t := by
  have ha := a.toNat_lt; have hb := b.toNat_lt; have hc := c.toNat_lt; have hd := d.toNat_lt
  simp only [tok4, num4, List.cons.injEq, and_true, ← UInt8.toNat_inj, UInt8.toNat_ofNat']
  constructor
  · rintro ⟨h1, h2, h3, h4⟩; omega
  · rintro rfl; omega
@[simp] theorem tok4_length (t : Nat) : (tok4 t).length = 4 := rfl

/-- A piece. -/
def pc (kind : Nat) (body : List UInt8) : List UInt8 :=
  UInt8.ofNat kind :: UInt8.ofNat body.length :: (tok4 (tok 1 (UInt8.ofNat kind :: UInt8.ofNat body.length :: body)) ++ body)
@[simp] theorem pc_length (kind : Nat) (body : List UInt8) : (pc kind body).length = 6 + body.length := by simp [pc]; omega
def zer (n : Nat) : List UInt8 := List.replicate n 0
@[simp] theorem zer_length (n : Nat) : (zer n).length = n := by simp [zer]
def gap (n : Nat) : Nat := if 128 - n % 128 < 7 then 128 - n % 128 else 0
/-- How many bytes of a body a piece may have that comes behind n bytes (and the gap). -/
def room (n : Nat) : Nat := 122 - (n + gap n) % 128
theorem room_pos (n : Nat) : 1 ≤ room n := by unfold room gap; split <;> omega
theorem room_le (n : Nat) : room n ≤ 122 := by unfold room; omega
theorem room_left (n : Nat) : 6 + room n = 128 - (n + gap n) % 128 := by unfold room gap; split <;> omega
theorem gap_gap (n : Nat) : gap (n + gap n) = 0 := by unfold gap; split <;> split <;> omega
theorem gap_full (n : Nat) : (n + gap n + (6 + room n)) % 128 = 0 := by unfold room gap; split <;> omega
theorem gap_zero {n : Nat} (h : n % 128 = 0) : gap n = 0 := by unfold gap; split <;> omega
theorem room_zero {n : Nat} (h : n % 128 = 0) : room n = 122 := by unfold room; rw [gap_zero h]; omega
def kindOf (b : Bool) (end_ : Bool) : Nat := if end_ then (if b then 4 else 1) else (if b then 3 else 2)

/-- What is put behind n bytes; b: the record has begun. -/
def sput (b : Bool) (n : Nat) (body : List UInt8) : List UInt8 :=
  if body.length ≤ room n then zer (gap n) ++ pc (kindOf b true) body
  else zer (gap n) ++ (pc (kindOf b false) (body.take (room n)) ++ sput true (n + gap n + (6 + room n)) (body.drop (room n)))
termination_by body.length
decreasing_by have := room_pos n; simp; omega
theorem sput_last {b : Bool} {n : Nat} {body : List UInt8} (h : body.length ≤ room n) : sput b n body = zer (gap n) ++ pc (kindOf b true) body := by
  rw [sput, if_pos h]
theorem sput_more {b : Bool} {n : Nat} {body : List UInt8} (h : ¬ body.length ≤ room n) : sput b n body = zer (gap n) ++ (pc (kindOf b false) (body.take (room n)) ++ sput true (n + gap n + (6 + room n)) (body.drop (room n))) := by
  rw [sput, if_neg h]
theorem sput_gap (b : Bool) (n : Nat) (body : List UInt8) : zer (gap n) ++ sput b (n + gap n) body = sput b n body := by
  have hr : room (n + gap n) = room n := by unfold room; rw [gap_gap]; rfl
  by_cases h : body.length ≤ room n
  · rw [sput_last h, sput_last (by rw [hr]; exact h), gap_gap]; rfl
  · rw [sput_more h, sput_more (by rw [hr]; exact h), gap_gap, hr]; rfl
theorem sput_len (n : Nat) : ∀ (k : Nat) (b : Bool) (body : List UInt8), body.length ≤ k → 6 + body.length ≤ (sput b n body).length := by
  intro k
  induction k generalizing n with
  | zero => intro b body h; rw [sput_last (by omega)]; simp
  | succ k ih =>
    intro b body h
    by_cases hr : body.length ≤ room n
    · rw [sput_last hr]; simp
    · rw [sput_more hr]
      have h1 := room_pos n
      have := ih (n + gap n + (6 + room n)) true (body.drop (room n)) (by simp; omega)
      simp only [List.length_append, zer_length, pc_length, List.length_take, List.length_drop] at this ⊢
      omega
theorem sput_pos (b : Bool) (n : Nat) (body : List UInt8) : 6 + body.length ≤ (sput b n body).length := sput_len n _ b body (Nat.le_refl _)

/-! ### Reading -/
def pk (s : List UInt8) (k : Nat) : Nat := (s.getD k 0).toNat
def pn (s : List UInt8) (k : Nat) : Nat := (s.getD (k + 1) 0).toNat
def pb (s : List UInt8) (k : Nat) : List UInt8 := (s.drop (k + 6)).take (pn s k)
def sumB (s : List UInt8) (k : Nat) : Bool := (s.drop (k + 2)).take 4 == tok4 (tok 1 ((s.drop k).take 2 ++ pb s k))
/-- A piece at k that may be. -/
def okP (s : List UInt8) (b : Bool) (k : Nat) : Bool :=
  decide (k + 6 ≤ s.length) && decide (6 + pn s k ≤ 128 - k % 128) && decide (k + 6 + pn s k ≤ s.length) && decide (1 ≤ pk s k) && decide (pk s k ≤ 4) &&
    (b == (pk s k == 3 || pk s k == 4)) && !((pk s k == 2 || pk s k == 3) && (6 + pn s k != 128 - k % 128)) && !(pk s k != 1 && pn s k == 0) && sumB s k
def midB (s : List UInt8) (k : Nat) : Bool := pk s k == 2 || pk s k == 3
def gapOk (s : List UInt8) (at_ : Nat) : Bool := decide (at_ + gap at_ ≤ s.length) && ((s.drop at_).take (gap at_) == zer (gap at_))

theorem okP_len {s : List UInt8} {b : Bool} {k : Nat} (h : okP s b k = true) : k + 6 + pn s k ≤ s.length := by
  simp only [okP, Bool.and_eq_true, decide_eq_true_eq] at h
  exact h.1.1.1.1.1.1.2

def rd (s : List UInt8) (b : Bool) (at_ : Nat) : Option (List UInt8 × Nat) :=
  if gapOk s at_ = true then
    if h : okP s b (at_ + gap at_) = true then
      if midB s (at_ + gap at_) then (rd s true (at_ + gap at_ + 6 + pn s (at_ + gap at_))).map fun p => (pb s (at_ + gap at_) ++ p.1, p.2)
      else some (pb s (at_ + gap at_), at_ + gap at_ + 6 + pn s (at_ + gap at_))
    else none
  else none
termination_by s.length - at_
decreasing_by have := okP_len h; omega

theorem take_drop_split (s : List UInt8) (k n : Nat) : s.drop k = (s.drop k).take n ++ s.drop (k + n) := by
  rw [← List.drop_drop]; exact (List.take_append_drop n _).symm

theorem drop_two {s : List UInt8} {k : Nat} (h : k + 2 ≤ s.length) : (s.drop k).take 2 = [s.getD k 0, s.getD (k + 1) 0] := by
  rw [List.drop_eq_getElem_cons (show k < s.length by omega), List.drop_eq_getElem_cons (show k + 1 < s.length by omega)]
  rw [List.take_succ_cons, List.take_succ_cons, List.take_zero, List.getD_eq_getElem?_getD, List.getD_eq_getElem?_getD, List.getElem?_eq_getElem (show k < s.length by omega), List.getElem?_eq_getElem (show k + 1 < s.length by omega)]
  rfl

theorem ofNat_toNat8 (x : UInt8) : UInt8.ofNat x.toNat = x := by simp

theorem okP_pc {s : List UInt8} {b : Bool} {k : Nat} (h : okP s b k = true) : s.drop k = pc (pk s k) (pb s k) ++ s.drop (k + 6 + pn s k) ∧ (pb s k).length = pn s k := by
  have hl := okP_len h
  simp only [okP, Bool.and_eq_true] at h
  have hs : sumB s k = true := h.2
  have hlen : (pb s k).length = pn s k := by simp [pb]; omega
  refine ⟨?_, hlen⟩
  have e2 := drop_two (s := s) (k := k) (by omega)
  have e1 := take_drop_split s k 2
  have e3 := take_drop_split s (k + 2) 4
  have e4 := take_drop_split s (k + 2 + 4) (pn s k)
  simp only [sumB, beq_iff_eq] at hs
  rw [e2] at e1 hs
  rw [hs] at e3
  rw [e1, e3, e4]
  have : UInt8.ofNat (pb s k).length = s.getD (k + 1) 0 := by rw [hlen]; simp [pn]
  have h0 : UInt8.ofNat (pk s k) = s.getD k 0 := by simp [pk]
  simp only [pc, this, h0, List.cons_append, List.nil_append, List.append_assoc]
  rfl

theorem getD_of_drop {s t : List UInt8} {k : Nat} {x : UInt8} (h : s.drop k = x :: t) : s.getD k 0 = x ∧ k < s.length ∧ s.drop (k + 1) = t := by
  have hk : k < s.length := by
    have := congrArg List.length h
    simp at this; omega
  rw [List.drop_eq_getElem_cons hk] at h
  obtain ⟨h1, h2⟩ := List.cons.inj h
  exact ⟨by rw [List.getD_eq_getElem?_getD, List.getElem?_eq_getElem hk]; exact h1, hk, h2⟩

theorem pc_okP {s t bd : List UInt8} {b : Bool} {k kind : Nat} (h : s.drop k = pc kind bd ++ t) (h1 : 1 ≤ kind) (h4 : kind ≤ 4) (hb : b = (kind == 3 || kind == 4))
    (hl : 6 + bd.length ≤ 128 - k % 128) (hm : kind = 2 ∨ kind = 3 → 6 + bd.length = 128 - k % 128) (hz : kind ≠ 1 → bd.length ≠ 0) :
    okP s b k = true ∧ pk s k = kind ∧ pb s k = bd ∧ pn s k = bd.length ∧ s.drop (k + 6 + bd.length) = t := by
  have hbl : bd.length < 256 := by omega
  simp only [pc, List.cons_append] at h
  obtain ⟨g0, k0, h⟩ := getD_of_drop h
  obtain ⟨g1, k1, h⟩ := getD_of_drop h
  have hlen := congrArg List.length h
  simp at hlen
  have e4 : (s.drop (k + 1 + 1)).take 4 = tok4 (tok 1 (UInt8.ofNat kind :: UInt8.ofNat bd.length :: bd)) := by
    rw [h, List.append_assoc, List.take_left' (by simp)]
  have e6 : s.drop (k + 1 + 1 + 4) = bd ++ t := by
    rw [← List.drop_drop, h, List.append_assoc, List.drop_left' (by simp)]
  have p0 : pk s k = kind := by rw [pk, g0]; simp; omega
  have p1 : pn s k = bd.length := by rw [pn, g1]; simp; omega
  have p2 : pb s k = bd := by rw [pb, p1, show k + 6 = k + 1 + 1 + 4 from rfl, e6, List.take_left' rfl]
  have p3 : s.drop (k + 6 + bd.length) = t := by rw [← List.drop_drop, show k + 6 = k + 1 + 1 + 4 from rfl, e6, List.drop_left' rfl]
  refine ⟨?_, p0, p2, p1, p3⟩
  have hs : sumB s k = true := by
    simp only [sumB, beq_iff_eq]
    rw [drop_two (by omega), g0, g1, p2]
    exact e4
  simp only [okP, p0, p1, hs, hb, beq_self_eq_true, Bool.and_true, Bool.and_eq_true, decide_eq_true_eq, Bool.not_eq_true', Bool.and_eq_false_iff, bne_eq_false_iff_eq, beq_eq_false_iff_ne, Bool.or_eq_false_iff]
  refine ⟨⟨⟨⟨⟨⟨by omega, by omega⟩, by omega⟩, h1⟩, h4⟩, ?_⟩, ?_⟩
  · by_cases hk : kind = 2 ∨ kind = 3
    · exact .inr (hm hk)
    · left; omega
  · by_cases hk : kind = 1
    · exact .inl hk
    · exact .inr (hz hk)

theorem rd_of_put (s : List UInt8) : ∀ (m : Nat) (b : Bool) (at_ : Nat) (body t : List UInt8), body.length ≤ m → (b = true → body ≠ []) → s.drop at_ = sput b at_ body ++ t →
    rd s b at_ = some (body, at_ + (sput b at_ body).length) := by
  intro m
  induction m with
  | zero =>
    intro b at_ body t hm hb h
    obtain rfl : body = [] := List.eq_nil_of_length_eq_zero (by omega)
    have hb' : b = false := by cases b <;> simp_all
    subst hb'
    rw [sput_last (by simp)] at h ⊢
    have hg : s.drop (at_ + gap at_) = pc 1 [] ++ t := by rw [← List.drop_drop, h, List.append_assoc, List.drop_left' (by simp)]; rfl
    have hl := congrArg List.length h
    simp at hl
    have := room_left at_
    have hgap : gapOk s at_ = true := by
      simp only [gapOk, Bool.and_eq_true, decide_eq_true_eq, beq_iff_eq]
      exact ⟨by omega, by rw [h, List.append_assoc, List.take_left' (by simp)]⟩
    obtain ⟨o1, o2, o3, o4, o5⟩ := pc_okP (b := false) hg (by decide) (by decide) rfl (by simp; omega) (by simp) (by simp)
    rw [rd, if_pos hgap, dif_pos o1, o3, o4, if_neg (by simp [midB, o2])]
    simp [kindOf]; omega
  | succ m ih =>
    intro b at_ body t hm hb h
    have hroom := room_left at_
    have hrp := room_pos at_
    by_cases hr : body.length ≤ room at_
    · rw [sput_last hr] at h ⊢
      have hg : s.drop (at_ + gap at_) = pc (kindOf b true) body ++ t := by rw [← List.drop_drop, h, List.append_assoc, List.drop_left' (by simp)]
      have hl := congrArg List.length h
      simp at hl
      have hgap : gapOk s at_ = true := by
        simp only [gapOk, Bool.and_eq_true, decide_eq_true_eq, beq_iff_eq]
        exact ⟨by omega, by rw [h, List.append_assoc, List.take_left' (by simp)]⟩
      obtain ⟨o1, o2, o3, o4, o5⟩ := pc_okP (b := b) hg (by cases b <;> decide) (by cases b <;> decide) (by cases b <;> rfl) (by omega) (by cases b <;> simp [kindOf])
        (by cases b <;> simp [kindOf]; exact hb rfl)
      rw [rd, if_pos hgap, dif_pos o1, o3, o4, if_neg (by rw [midB, o2]; cases b <;> decide)]
      simp; omega
    · rw [sput_more hr] at h ⊢
      have hg : s.drop (at_ + gap at_) = pc (kindOf b false) (body.take (room at_)) ++ (sput true (at_ + gap at_ + (6 + room at_)) (body.drop (room at_)) ++ t) := by
        rw [← List.drop_drop, h, List.append_assoc, List.drop_left' (by simp), List.append_assoc]
      have hl := congrArg List.length h
      simp at hl
      have hgap : gapOk s at_ = true := by
        simp only [gapOk, Bool.and_eq_true, decide_eq_true_eq, beq_iff_eq]
        exact ⟨by omega, by rw [h, List.append_assoc, List.take_left' (by simp)]⟩
      have htl : (body.take (room at_)).length = room at_ := by simp; omega
      obtain ⟨o1, o2, o3, o4, o5⟩ := pc_okP (b := b) hg (by cases b <;> decide) (by cases b <;> decide) (by cases b <;> rfl) (by omega) (by omega) (by omega)
      rw [htl] at o4 o5
      have e : at_ + gap at_ + 6 + room at_ = at_ + gap at_ + (6 + room at_) := by omega
      rw [e] at o5
      have ih' := ih true (at_ + gap at_ + (6 + room at_)) (body.drop (room at_)) t (by simp; omega) (fun _ he => by have := congrArg List.length he; simp at this; omega) o5
      rw [rd, if_pos hgap, dif_pos o1, o3, o4, if_pos (by rw [midB, o2]; cases b <;> decide), e, ih']
      simp
      omega

theorem rd_some (s : List UInt8) : ∀ (m : Nat) (b : Bool) (at_ : Nat) (body : List UInt8) (e : Nat), s.length - at_ ≤ m → rd s b at_ = some (body, e) →
    (b = true → body ≠ []) ∧ s.drop at_ = sput b at_ body ++ s.drop e ∧ e = at_ + (sput b at_ body).length ∧ e ≤ s.length := by
  intro m
  induction m with
  | zero =>
    intro b at_ body e hm h
    rw [rd] at h
    by_cases hg : gapOk s at_ = true
    · rw [if_pos hg] at h
      by_cases ho : okP s b (at_ + gap at_) = true
      · have := okP_len ho; omega
      · rw [dif_neg ho] at h; cases h
    · rw [if_neg hg] at h; cases h
  | succ m ih =>
    intro b at_ body e hm h
    rw [rd] at h
    by_cases hg : gapOk s at_ = true
    · rw [if_pos hg] at h
      by_cases ho : okP s b (at_ + gap at_) = true
      · rw [dif_pos ho] at h
        have hl := okP_len ho
        obtain ⟨hpc, hpl⟩ := okP_pc ho
        simp only [gapOk, Bool.and_eq_true, decide_eq_true_eq, beq_iff_eq] at hg
        have hd0 := take_drop_split s at_ (gap at_)
        rw [hg.2] at hd0
        have hroom := room_left at_
        have ho' := ho
        simp only [okP, Bool.and_eq_true, decide_eq_true_eq, Bool.not_eq_true', beq_iff_eq] at ho'
        obtain ⟨⟨⟨⟨⟨⟨⟨⟨a1, a2⟩, a3⟩, a4⟩, a5⟩, a6⟩, a7⟩, a8⟩, a9⟩ := ho'
        by_cases hmid : midB s (at_ + gap at_) = true
        · rw [if_pos hmid] at h
          cases hr : rd s true (at_ + gap at_ + 6 + pn s (at_ + gap at_)) with
          | none => rw [hr] at h; cases h
          | some p =>
            obtain ⟨b2, e2⟩ := p
            rw [hr] at h
            simp only [Option.map_some, Option.some.injEq, Prod.mk.injEq] at h
            obtain ⟨rfl, rfl⟩ := h
            obtain ⟨i1, i2, i3, i4⟩ := ih true _ b2 e2 (by omega) hr
            have hn : 6 + pn s (at_ + gap at_) = 128 - (at_ + gap at_) % 128 := by
              simp only [midB] at hmid
              rw [hmid] at a7
              simpa using a7
            have hn' : pn s (at_ + gap at_) = room at_ := by omega
            have hb2 : b2.length ≠ 0 := fun hz => i1 rfl (List.eq_nil_of_length_eq_zero hz)
            have hgt : ¬ (pb s (at_ + gap at_) ++ b2).length ≤ room at_ := by simp [hpl]; omega
            have ek : pk s (at_ + gap at_) = kindOf b false := by
              simp only [midB, Bool.or_eq_true, beq_iff_eq] at hmid
              rcases hmid with hk | hk <;> rw [hk] at a6 ⊢ <;> rw [a6] <;> rfl
            have et : (pb s (at_ + gap at_) ++ b2).take (room at_) = pb s (at_ + gap at_) := List.take_left' (by omega)
            have ed : (pb s (at_ + gap at_) ++ b2).drop (room at_) = b2 := List.drop_left' (by omega)
            have ee : at_ + gap at_ + 6 + pn s (at_ + gap at_) = at_ + gap at_ + (6 + room at_) := by omega
            rw [ee] at i2 i3 hpc
            refine ⟨fun _ he => hb2 (by have := congrArg List.length he; simp at this; simp [this.2]), ?_, ?_, i4⟩
            · rw [sput_more hgt, et, ed, hd0, hpc, i2, ek]
              simp only [List.append_assoc]
            · rw [sput_more hgt, et, ed, i3]
              simp only [List.length_append, zer_length, pc_length, hpl]
              omega
        · rw [if_neg hmid] at h
          simp only [Option.some.injEq, Prod.mk.injEq] at h
          obtain ⟨rfl, rfl⟩ := h
          have hle : (pb s (at_ + gap at_)).length ≤ room at_ := by omega
          have ek : pk s (at_ + gap at_) = kindOf b true := by
            simp only [midB, Bool.or_eq_true, beq_iff_eq, not_or] at hmid
            have : pk s (at_ + gap at_) = 1 ∨ pk s (at_ + gap at_) = 4 := by omega
            rcases this with hk | hk <;> rw [hk] at a6 ⊢ <;> rw [a6] <;> rfl
          refine ⟨fun hb he => ?_, ?_, ?_, hl⟩
          · have hz : pn s (at_ + gap at_) = 0 := by rw [← hpl, he]; rfl
            subst hb
            rw [ek, hz] at a8
            simp [kindOf] at a8
          · rw [sput_last hle, hd0, hpc, ek, List.append_assoc]
          · rw [sput_last hle]; simp only [List.length_append, zer_length, pc_length, hpl]; omega
      · rw [dif_neg ho] at h; cases h
    · rw [if_neg hg] at h; cases h

theorem rd_spec {s : List UInt8} {b : Bool} {at_ e : Nat} {body : List UInt8} (h : rd s b at_ = some (body, e)) :
    (b = true → body ≠ []) ∧ s.drop at_ = sput b at_ body ++ s.drop e ∧ e = at_ + (sput b at_ body).length ∧ e ≤ s.length := rd_some s _ b at_ body e (Nat.le_refl _) h
theorem rd_put {s t : List UInt8} {at_ : Nat} {body : List UInt8} (h : s.drop at_ = sput false at_ body ++ t) : rd s false at_ = some (body, at_ + (sput false at_ body).length) :=
  rd_of_put s _ false at_ body t (Nat.le_refl _) nofun h

def scan (s : List UInt8) (at_ : Nat) : List (List UInt8) × Nat :=
  match h : rd s false at_ with
  | none => ([], at_)
  | some (b, e) => (b :: (scan s e).1, (scan s e).2)
termination_by s.length - at_
decreasing_by
  obtain ⟨_, _, h3, h4⟩ := rd_spec h
  have := sput_pos false at_ b
  omega
theorem scan_none {s : List UInt8} {at_ : Nat} (h : rd s false at_ = none) : scan s at_ = ([], at_) := by rw [scan, h]
theorem scan_some {s : List UInt8} {at_ e : Nat} {b : List UInt8} (h : rd s false at_ = some (b, e)) : scan s at_ = (b :: (scan s e).1, (scan s e).2) := by rw [scan, h]
theorem scan_le (s : List UInt8) : ∀ (m at_ : Nat), s.length - at_ ≤ m → at_ ≤ s.length → (scan s at_).2 ≤ s.length ∧ at_ ≤ (scan s at_).2 := by
  intro m
  induction m with
  | zero =>
    intro at_ hm ha
    cases h : rd s false at_ with
    | none => rw [scan_none h]; exact ⟨ha, Nat.le_refl _⟩
    | some p =>
      obtain ⟨b, e⟩ := p
      obtain ⟨_, _, h3, h4⟩ := rd_spec h
      have := sput_pos false at_ b
      omega
  | succ m ih =>
    intro at_ hm ha
    cases h : rd s false at_ with
    | none => rw [scan_none h]; exact ⟨ha, Nat.le_refl _⟩
    | some p =>
      obtain ⟨b, e⟩ := p
      obtain ⟨_, _, h3, h4⟩ := rd_spec h
      have := sput_pos false at_ b
      rw [scan_some h]
      have := ih e (by omega) h4
      exact ⟨this.1, by simp only; omega⟩

/-! ### Records one behind the other -/
def puts (n : Nat) : List (List UInt8) → List UInt8
  | [] => []
  | b :: l => sput false n b ++ puts (n + (sput false n b).length) l
theorem puts_append (n : Nat) : ∀ (l m : List (List UInt8)), puts n (l ++ m) = puts n l ++ puts (n + (puts n l).length) m := by
  intro l
  induction l generalizing n with
  | nil => intro m; simp [puts]
  | cons b l ih => intro m; simp only [List.cons_append, puts, ih, List.append_assoc, List.length_append, Nat.add_assoc]
theorem scan_puts (s : List UInt8) : ∀ (l : List (List UInt8)) (at_ : Nat) (t : List UInt8), s.drop at_ = puts at_ l ++ t →
    scan s at_ = (l ++ (scan s (at_ + (puts at_ l).length)).1, (scan s (at_ + (puts at_ l).length)).2) := by
  intro l
  induction l with
  | nil => intro at_ t _; simp [puts]
  | cons b l ih =>
    intro at_ t h
    simp only [puts, List.append_assoc] at h
    have h2 : s.drop (at_ + (sput false at_ b).length) = puts (at_ + (sput false at_ b).length) l ++ t := by
      rw [← List.drop_drop, h, List.drop_left' rfl]
    rw [scan_some (rd_put h), ih _ t h2]
    simp [puts, Nat.add_assoc]
/-- A record that is not whole is none. -/
theorem rd_cut {s t : List UInt8} {at_ : Nat} {body : List UInt8} (h : s.drop at_ ++ t = sput false at_ body) (ht : t ≠ []) (ha : at_ ≤ s.length) : rd s false at_ = none := by
  cases hr : rd s false at_ with
  | none => rfl
  | some p =>
    obtain ⟨b, e⟩ := p
    obtain ⟨_, h2, h3, h4⟩ := rd_spec hr
    exfalso
    have e1 : (s ++ t).drop at_ = sput false at_ body ++ [] := by rw [List.drop_append_of_le_length ha, h, List.append_nil]
    have e2 : (s ++ t).drop at_ = sput false at_ b ++ (s.drop e ++ t) := by rw [List.drop_append_of_le_length ha, h2, List.append_assoc]
    have r1 := rd_put e1
    have r2 := rd_put e2
    rw [r1] at r2
    simp only [Option.some.injEq, Prod.mk.injEq] at r2
    obtain ⟨rfl, _⟩ := r2
    have l1 := congrArg List.length h
    have l2 := congrArg List.length h2
    have : t.length ≠ 0 := fun hz => ht (List.eq_nil_of_length_eq_zero hz)
    simp at l1 l2
    omega
/-- So many of the records are whole in the first k bytes. -/
def wholes (n : Nat) (k : Nat) : List (List UInt8) → Nat
  | [] => 0
  | b :: l => if n + (sput false n b).length ≤ k then wholes (n + (sput false n b).length) k l + 1 else 0
theorem wholes_le (k : Nat) : ∀ (l : List (List UInt8)) (n : Nat), wholes n k l ≤ l.length
  | [], _ => Nat.le_refl _
  | b :: l, n => by
    have := wholes_le k l (n + (sput false n b).length)
    simp only [wholes]; split <;> simp <;> omega
theorem wholes_end (k : Nat) : ∀ (l : List (List UInt8)) (n : Nat), n ≤ k → n + (puts n (l.take (wholes n k l))).length ≤ k
  | [], n, h => by simpa [puts] using h
  | b :: l, n, h => by
    simp only [wholes]
    split
    · rename_i hle
      have := wholes_end k l (n + (sput false n b).length) hle
      simp only [List.take_succ_cons, puts, List.length_append]; omega
    · simpa [puts] using h
theorem scan_torn : ∀ (l : List (List UInt8)) (s : List UInt8) (n : Nat) (t : List UInt8), n ≤ s.length → s.drop n ++ t = puts n l →
    scan s n = (l.take (wholes n s.length l), n + (puts n (l.take (wholes n s.length l))).length) := by
  intro l
  induction l with
  | nil =>
    intro s n t hn h
    have : s.drop n = [] := by
      have := congrArg List.length h
      simp [puts] at this
      exact List.eq_nil_of_length_eq_zero (by simp; omega)
    have hr : rd s false n = none := by
      cases hr : rd s false n with
      | none => rfl
      | some p =>
        obtain ⟨b, e⟩ := p
        obtain ⟨_, h2, h3, h4⟩ := rd_spec hr
        rw [this] at h2
        have := sput_pos false n b
        have := congrArg List.length h2
        simp at this
        omega
    rw [scan_none hr]; simp [wholes, puts]
  | cons b l ih =>
    intro s n t hn h
    simp only [puts] at h
    by_cases hle : n + (sput false n b).length ≤ s.length
    · have h1 : s.drop n = sput false n b ++ s.drop (n + (sput false n b).length) := by
        have e := take_drop_split s n (sput false n b).length
        have : (s.drop n).take (sput false n b).length = sput false n b := by
          have e3 := congrArg (List.take (sput false n b).length) h
          rw [List.take_left' rfl, List.take_append_of_le_length (by simp; omega)] at e3
          exact e3
        rw [this] at e; exact e
      have h2 : s.drop (n + (sput false n b).length) ++ t = puts (n + (sput false n b).length) l := by
        rw [h1, List.append_assoc] at h
        exact List.append_cancel_left h
      rw [scan_some (rd_put h1), ih s _ t hle h2]
      simp [wholes, hle, puts, Nat.add_assoc]
    · have hr : rd s false n = none := by
        have e3 := congrArg (List.take (sput false n b).length) h
        rw [List.take_left' rfl, List.take_append] at e3
        rw [List.take_of_length_le (by simp; omega)] at e3
        refine rd_cut e3 (fun hz => ?_) hn
        have := congrArg List.length e3
        rw [hz] at this
        simp at this
        omega
      rw [scan_none hr]
      simp [wholes, hle, puts]
end Go.Proofs.YtimbikbbbfpeeaaGreatDoor

/- A store as plain data: what fits, what is put, what a log brings back. -/
namespace Go.Proofs.YtimbikbbbfpeeaaGreatDoor
open Go Go.RowKit

def notesF (A : List Nt) : Fl := A.map fun n => (n.id, n.body.data.toList)
def stAdds (F A : Fl) : Fl := A.foldl (fun F a => fput a.1 a.2 F) F
structure Sq where
  ts : List Tq
  N : Fl
def stFits (s : Sq) (b : Bt) : Bool := cbQ b && (mutsQ s.ts b.muts).1 && fitsB s.N (notesF b.add) b.drop
def stPut (s : Sq) (b : Bt) : Sq := ⟨(mutsQ s.ts b.muts).2, stAdds (fdels s.N b.drop) (notesF b.add)⟩
/-- Is a body taken? -/
def stOk (s : Sq) (x : List UInt8) : Bool := decide (gbErr x = 0) && stFits s (gbBt x)
theorem stOk_of {s : Sq} {x : List UInt8} (h1 : gbErr x = 0) (h2 : stFits s (gbBt x) = true) : stOk s x = true := by
  unfold stOk
  rw [decide_eq_true h1, h2]
  rfl
def stNext (s : Sq) (x : List UInt8) : Sq := stPut s (gbBt x)
section
variable {σ β : Type} (ok : σ → β → Bool) (next : σ → β → σ)
/-- As far as they go. -/
def goes : σ → List β → σ × List β
  | s, [] => (s, [])
  | s, x :: l => if ok s x then ((goes (next s x) l).1, x :: (goes (next s x) l).2) else (s, [])
variable {ok next}
theorem goes_append : ∀ (s : σ) (l m : List β), (goes ok next s l).2 = l → goes ok next s (l ++ m) = ((goes ok next (goes ok next s l).1 m).1, l ++ (goes ok next (goes ok next s l).1 m).2)
  | _, [], _, _ => rfl
  | s, x :: l, m, h => by
    simp only [goes] at h
    cases hc : ok s x
    · rw [hc] at h; simp at h
    · rw [hc] at h
      simp only [if_true, List.cons.injEq, true_and] at h
      simp only [List.cons_append, goes, hc, if_true]
      rw [goes_append _ l m h]
theorem goes_pre : ∀ (s : σ) (l : List β), ∃ m, (goes ok next s l).2 ++ m = l
  | _, [] => ⟨[], rfl⟩
  | s, x :: l => by
    simp only [goes]
    cases hc : ok s x
    · exact ⟨x :: l, rfl⟩
    · obtain ⟨m, h⟩ := goes_pre (next s x) l
      exact ⟨m, by simp [h]⟩
theorem goes_one {s : σ} {x : β} (h : ok s x = true) : goes ok next s [x] = (next s x, [x]) := by
  simp [goes, h]
theorem goes_take : ∀ (s : σ) (l : List β) (k : Nat), (goes ok next s l).2 = l → (goes ok next s (l.take k)).2 = l.take k
  | _, [], k, _ => by simp [goes]
  | _, x :: l, 0, _ => rfl
  | s, x :: l, k + 1, h => by
    simp only [goes] at h
    cases hc : ok s x
    · rw [hc] at h; simp at h
    · rw [hc] at h
      simp only [if_true, List.cons.injEq, true_and] at h
      simp only [List.take_succ_cons, goes, hc, if_true]
      rw [goes_take _ l k h]
end
/-- A log's bodies as far as they go: the store, and those that were taken. -/
def stReplay (s : Sq) (l : List (List UInt8)) : Sq × List (List UInt8) := goes stOk stNext s l
end Go.Proofs.YtimbikbbbfpeeaaGreatDoor

/- Contracts of the library, laid at this program: each is one application of a theorem of the shelf (the text is the tool's, its numbers by name). -/
namespace Go.Proofs
open Go.Shelf
def Tryz.lays189_ren : Go.Shelf.Ren := ⟨fun | 189 => 69 | 125 => 121 | 257 => 120 | 128 => 171 | 129 => 172 | 294 => 162 | 295 => 163 | 296 => 164 | 297 => 165 | 298 => 166 | 299 => 167 | 216 => 168 | 300 => 169 | 301 => 170 | 328 => 201 | 329 => 202 | 330 => 203 | 331 => 204 | 332 => 205 | 215 => 206 | 343 => 226 | n => n, fun | 28 => 35 | 3 => 3 | 46 => 152 | 0 => 0 | 51 => 213 | 53 => 159 | 4 => 4 | 183 => 237 | 182 => 236 | 131 => 181 | 5 => 5 | 9 => 9 | 218 => 272 | 222 => 275 | 228 => 290 | 229 => 291 | n => n, fun | n => n⟩
theorem Tryz.lays189 : Go.Proofs.Lays.n189 Tryz.prog Tryz.lays189_ren := {
  mixed := by kernel_rfl
  f125 := Tryz.func121.trans (congrArg some (by kernel_rfl))
  f128 := Tryz.func171.trans (congrArg some (by kernel_rfl))
  f129 := Tryz.func172.trans (congrArg some (by kernel_rfl))
  f189 := Tryz.func69.trans (congrArg some (by kernel_rfl))
  f215 := Tryz.func206.trans (congrArg some (by kernel_rfl))
  f216 := Tryz.func168.trans (congrArg some (by kernel_rfl))
  f257 := Tryz.func120.trans (congrArg some (by kernel_rfl))
  f294 := Tryz.func162.trans (congrArg some (by kernel_rfl))
  f295 := Tryz.func163.trans (congrArg some (by kernel_rfl))
  f296 := Tryz.func164.trans (congrArg some (by kernel_rfl))
  f297 := Tryz.func165.trans (congrArg some (by kernel_rfl))
  f298 := Tryz.func166.trans (congrArg some (by kernel_rfl))
  f299 := Tryz.func167.trans (congrArg some (by kernel_rfl))
  f300 := Tryz.func169.trans (congrArg some (by kernel_rfl))
  f301 := Tryz.func170.trans (congrArg some (by kernel_rfl))
  f328 := Tryz.func201.trans (congrArg some (by kernel_rfl))
  f329 := Tryz.func202.trans (congrArg some (by kernel_rfl))
  f330 := Tryz.func203.trans (congrArg some (by kernel_rfl))
  f331 := Tryz.func204.trans (congrArg some (by kernel_rfl))
  f332 := Tryz.func205.trans (congrArg some (by kernel_rfl))
  f343 := Tryz.func226.trans (congrArg some (by kernel_rfl))
  t0 := Tryz.underlying0
  a0 := Tryz.isAgg0
  z0 := Tryz.sizeOf0
  v0 := Tryz.zeroValue0
  t3 := Tryz.underlying3
  a3 := Tryz.isAgg3
  z3 := Tryz.sizeOf3
  v3 := Tryz.zeroValue3
  t4 := Tryz.underlying4
  a4 := Tryz.isAgg4
  z4 := Tryz.sizeOf4
  v4 := Tryz.zeroValue4
  t5 := Tryz.underlying5
  a5 := Tryz.isAgg5
  z5 := Tryz.sizeOf5
  v5 := Tryz.zeroValue5
  t9 := Tryz.underlying9
  a9 := Tryz.isAgg9
  z9 := Tryz.sizeOf9
  v9 := Tryz.zeroValue9
  t28 := Tryz.underlying35
  a28 := Tryz.isAgg35
  z28 := Tryz.sizeOf35
  v28 := Tryz.zeroValue35
  t46 := Tryz.underlying152
  a46 := Tryz.isAgg152
  z46 := Tryz.sizeOf152
  v46 := Tryz.zeroValue152
  t51 := Tryz.underlying213
  a51 := Tryz.isAgg213
  z51 := Tryz.sizeOf213
  v51 := Tryz.zeroValue213
  t53 := Tryz.underlying159
  a53 := Tryz.isAgg159
  z53 := Tryz.sizeOf159
  v53 := Tryz.zeroValue159
  t131 := Tryz.underlying181
  a131 := Tryz.isAgg181
  z131 := Tryz.sizeOf181
  v131 := Tryz.zeroValue181
  t182 := Tryz.underlying236
  a182 := Tryz.isAgg236
  z182 := Tryz.sizeOf236
  v182 := Tryz.zeroValue236
  t183 := Tryz.underlying237
  a183 := Tryz.isAgg237
  z183 := Tryz.sizeOf237
  v183 := Tryz.zeroValue237
  t218 := Tryz.underlying272
  a218 := Tryz.isAgg272
  z218 := Tryz.sizeOf272
  v218 := Tryz.zeroValue272
  t222 := Tryz.underlying275
  a222 := Tryz.isAgg275
  z222 := Tryz.sizeOf275
  v222 := Tryz.zeroValue275
  t228 := Tryz.underlying290
  a228 := Tryz.isAgg290
  z228 := Tryz.sizeOf290
  v228 := Tryz.zeroValue290
  t229 := Tryz.underlying291
  a229 := Tryz.isAgg291
  z229 := Tryz.sizeOf291
  v229 := Tryz.zeroValue291 }
open Go.Sort Go.RowKit in
theorem Tryz.slices_Sort_int (blk off cap : Nat) (zs : List Int) (w : World) (hH : Holds (Value.int .i64) w blk off zs.toArray) (hblk : blk < w.heap.size) (hsz : zs.length < 4611686018427387904) :
    Calls Tryz.prog 69 #[.slice (some ⟨blk, off, none⟩) zs.length cap] w fun e w' =>
      e = .returned (.tuple #[]) ∧ ∃ n os, w' = grow (putRow (Value.int .i64) (Sort.ahead w n) blk off (zs.mergeSort fun x y => decide (x ≤ y)).toArray) os := Any.slices_Sort_int Tryz.lays189 blk off cap zs w hH hblk hsz
theorem Tryz.slices_Sort_int_none (p : Option Addr) (cap : Nat) (w : World) :
    Calls Tryz.prog 69 #[.slice p 0 cap] w fun e w' => e = .returned (.tuple #[]) ∧ w' = w := Any.slices_Sort_int_none Tryz.lays189 p cap w
end Go.Proofs
