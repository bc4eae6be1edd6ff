/- Appending bytes: the laws at this program's numbers. -/
import Derived.Test.YtimbikbbbfpeeaaGreatDoorP1
import Derived.Test.YtimbikbbbfpeeaaGreatDoorP5
import Derived.Test.YtimbikbbbfpeeaaGreatDoorProg
import Derived.Laws.Strings
import Derived.Test.YtimbikbbbfpeeaaGreatDoorP3
import Derived.Deep.Light
set_option linter.unusedSimpArgs false
set_option linter.unusedVariables false
namespace Go.Proofs.YtimbikbbbfpeeaaGreatDoor
open Go Go.RowKit

theorem info_u8 : (Tryz.prog.info? 5).map (fun i => (i.zero, i.size, i.bytes)) = some (some (.int .u8 0), 1, 1) := by kernel_rfl
theorem und_bytes : Tryz.prog.underlying 61 = some (.slice 5) := by kernel_rfl
theorem und_u8 : Tryz.prog.underlying 5 = some (.int .u8) := by kernel_rfl
theorem und_string : Tryz.prog.underlying 9 = some .string := by kernel_rfl

/-- A row of bytes that begins new from block B on. -/
def OwnB (w : World) (B : Nat) (v : Value) (l : List UInt8) : Prop := w.ownsRow B 5 1 v l.length (bcells l)
theorem OwnB.bytes {w : World} {B : Nat} {v : Value} {l : List UInt8} (h : OwnB w B v l) : BytesIn w v l := SliceIn.of_owns h
theorem OwnB.ext {w w' : World} {B : Nat} {v : Value} {l : List UInt8} (h : OwnB w B v l) (hE : Ext w w') : OwnB w' B v l := ownsRow_ext h hE
theorem OwnB.base {w : World} {B B' : Nat} {v : Value} {l : List UInt8} (h : OwnB w B v l) (hb : B' ≤ B) : OwnB w B' v l := ownsRow_base h hb

theorem byte_of {X : Int} (h0 : 0 ≤ X) (h1 : X < 256) : ((UInt8.ofNat X.toNat).toNat : Int) = X := by
  have : X.toNat < 256 := by omega
  rw [UInt8.toNat_ofNat_of_lt' this]
  omega

/-- A slice of bytes that may be appended to: a row of the call's own, or one without spare room. -/
def Tip (w : World) (B : Nat) (v : Value) (l : List UInt8) : Prop := OwnB w B v l ∨ ∃ ao, v = .slice ao l.length l.length ∧ BytesIn w v l
theorem Tip.own {w : World} {B : Nat} {v : Value} {l : List UInt8} (h : OwnB w B v l) : Tip w B v l := .inl h
theorem Tip.full {w : World} {B : Nat} {ao : Option Addr} {l : List UInt8} (h : BytesIn w (.slice ao l.length l.length) l) : Tip w B (.slice ao l.length l.length) l := .inr ⟨_, rfl, h⟩
theorem Tip.nil (w : World) (B : Nat) : Tip w B (.slice none 0 0) [] := .inl (World.ownsRow_nil w B _ _)
theorem Tip.ext {w w' : World} {B : Nat} {v : Value} {l : List UInt8} (h : Tip w B v l) (hE : Ext w w') : Tip w' B v l :=
  h.imp (fun h => h.ext hE) fun ⟨ao, e, h⟩ => ⟨ao, e, h.ext hE⟩
theorem Tip.bytes {w : World} {B : Nat} {v : Value} {l : List UInt8} (h : Tip w B v l) : BytesIn w v l := h.elim OwnB.bytes fun ⟨_, _, h⟩ => h

theorem cs1 {X : Int} (h0 : 0 ≤ X) (h1 : X < 256) : (#[Value.int .u8 X] : Array Value).toList = bcells [UInt8.ofNat X.toNat] := by
  simp only [bcells, List.map_cons, List.map_nil, byte_of h0 h1]
theorem csb (b : UInt8) : (#[Value.int .u8 (b.toNat : Int)] : Array Value).toList = bcells [b] := rfl

/-- 'append(b, x, ..)' of bytes: the world at hand is w with the new bytes laid. -/
theorem appB {ops : Array Oper} {rest : List Oper} {o : Oper} {a : Act} {Q : Exit → Act → World → Prop} (w : World) (hg : o.guard = none) (s x : Operand)
    (hop : o.op = Op.call { callee := Callee.builtin Builtin.append, args := #[s, x], argTypes := #[61, 61] })
    (w0 : World) (hE : Ext w0 w) (v : Value) (l : List UInt8) (cs : Array Value) (news : List UInt8) (hcs : cs.toList = bcells news) (hm : 0 < news.length) (hs : a.eval s = v) (hT : Tip w w0.heap.size v l)
    (m : Nat) (hx : a.eval x = .slice (some ⟨w.heap.size, 0, none⟩) m m) (hmn : m = news.length) (hb : l.length + news.length ≤ 140737488355328)
    (hK : ∀ v' w', OwnB w' w0.heap.size v' (l ++ news) → Ext w0 w' → wpList Tryz.prog ops Q rest (a.put o.dst v') w') : wpList Tryz.prog ops Q (o :: rest) a (w.alloc (.cells cs 5)) := by
  subst hmn
  obtain ⟨i0, hi, hz0, hz1, hz2⟩ := info_parts info_u8
  have hT := hT.ext ((Ext.refl w).alloc (.cells cs 5))
  have hn : (bcells news).length = news.length * 1 := by simp
  have hc : ∀ j u, (bcells news)[j]? = some u → (w.alloc (.cells cs 5)).cell? ((⟨w.heap.size, 0, none⟩ : Addr).add j) = some u := by
    intro j u hj
    rw [Addr.add_lit, Nat.zero_add, cell_of_row _ w.heap.size j cs 5 (0, 0) (heap_alloc_new w _)]
    rw [← hcs] at hj
    simpa using hj
  have h1c : ∀ u ∈ bcells news, u.oneCell' = true := by
    intro u hu
    simp only [bcells, List.mem_map] at hu
    obtain ⟨b, _, rfl⟩ := hu
    rfl
  rcases hT with hown | ⟨ao, rfl, hin⟩
  · refine wpList_append_own _ hg s x 61 hop w0.heap.size 5 i0 (.int .u8 0) 1 1 und_bytes hi hz0 hz1 hz2 rfl (by decide) v l.length (bcells l) hs hown ⟨w.heap.size, 0, none⟩ news.length news.length (bcells news) hx hn hc h1c (by unfold maxLen; omega) (by omega) (by have := hE.le; simp; omega) ?_
    intro v' w' h2 h3 _
    refine hK v' w' ?_ (Ext.grownOwn (hE.alloc _) hown (Nat.le_refl _) h3)
    unfold OwnB
    rw [List.length_append, bcells_append]
    exact h2
  · refine wpList_append_fresh _ hg s x 61 hop 5 i0 (.int .u8 0) 1 1 und_bytes hi hz0 hz1 hz2 rfl (by decide) ao l.length (bcells l) hs hin (by simp) ⟨w.heap.size, 0, none⟩ news.length news.length (bcells news) hx hn hc h1c hm (by unfold maxLen; omega) (by omega) ?_
    intro v' w' h2 h3
    refine hK v' w' ?_ ((hE.alloc _).grown h3 (by intro k hk; cases hk))
    unfold OwnB
    rw [List.length_append, bcells_append]
    exact ownsRow_base h2 (by have := hE.le; simp; omega)
end Go.Proofs.YtimbikbbbfpeeaaGreatDoor

/- Plain laws: the bytes of numbers, texts and whole numbers stand in the order of what they are. -/
namespace Go.Proofs.YtimbikbbbfpeeaaGreatDoor
open Go

abbrev less (x y : List UInt8) : Bool := Op.bytesLess x y
theorem less_nil (x : List UInt8) : less x [] = false := by cases x <;> rfl
theorem less_nil_cons (b : UInt8) (y : List UInt8) : less [] (b :: y) = true := rfl
theorem less_cons (a b : UInt8) (x y : List UInt8) : less (a :: x) (b :: y) = (decide (a < b) || (a == b && less x y)) := rfl
theorem less_same (a : UInt8) (x y : List UInt8) : less (a :: x) (a :: y) = less x y := by
  rw [less_cons]
  have : ¬ a < a := UInt8.lt_irrefl a
  simp [this]
theorem less_lt {a b : UInt8} (h : a < b) (x y : List UInt8) : less (a :: x) (b :: y) = true := by rw [less_cons]; simp [h]
theorem less_gt {a b : UInt8} (h : b < a) (x y : List UInt8) : less (a :: x) (b :: y) = false := by
  rw [less_cons]
  have h1 : ¬ a < b := UInt8.lt_asymm h
  have h2 : a ≠ b := by rintro rfl; exact UInt8.lt_irrefl _ h
  simp [h1, h2]
theorem less_irrefl (x : List UInt8) : less x x = false := by
  induction x with
  | nil => rfl
  | cons a x ih => rw [less_same]; exact ih
theorem less_asymm : ∀ {x y : List UInt8}, less x y = true → less y x = false
  | [], [], h => by cases h
  | [], _ :: _, _ => less_nil _
  | _ :: _, [], h => by rw [less_nil] at h; cases h
  | a :: x, b :: y, h => by
    rw [less_cons] at h
    by_cases h1 : a < b
    · exact less_gt h1 _ _
    · simp [h1] at h
      obtain ⟨rfl, h⟩ := h
      rw [less_same]
      exact less_asymm h
theorem less_tri : ∀ (x y : List UInt8), less x y = true ∨ x = y ∨ less y x = true
  | [], [] => .inr (.inl rfl)
  | [], _ :: _ => .inl rfl
  | _ :: _, [] => .inr (.inr rfl)
  | a :: x, b :: y => by
    by_cases h1 : a < b
    · exact .inl (less_lt h1 _ _)
    · by_cases h2 : b < a
      · exact .inr (.inr (less_lt h2 _ _))
      · have : a = b := UInt8.le_antisymm (UInt8.not_lt.1 h2) (UInt8.not_lt.1 h1)
        subst this
        rw [less_same, less_same]
        rcases less_tri x y with h | h | h
        · exact .inl h
        · exact .inr (.inl (by rw [h]))
        · exact .inr (.inr h)
theorem less_ne {x y : List UInt8} (h : less x y = true) : x ≠ y := by rintro rfl; rw [less_irrefl] at h; cases h
theorem less_trans : ∀ {x y z : List UInt8}, less x y = true → less y z = true → less x z = true
  | _, _, [], _, h => by rw [less_nil] at h; cases h
  | [], _, _ :: _, _, _ => rfl
  | _ :: _, [], _ :: _, h, _ => by rw [less_nil] at h; cases h
  | a :: x, b :: y, c :: z, h1, h2 => by
    rw [less_cons] at h1 h2
    simp only [Bool.or_eq_true, decide_eq_true_eq, Bool.and_eq_true, beq_iff_eq] at h1 h2
    rcases h1 with h1 | ⟨rfl, h1⟩ <;> rcases h2 with h2 | ⟨rfl, h2⟩
    · exact less_lt (UInt8.lt_trans h1 h2) _ _
    · exact less_lt h1 _ _
    · exact less_lt h2 _ _
    · rw [less_same]; exact less_trans h1 h2

/-! ### Texts -/
theorem txt_nil_app (r : List UInt8) : txt [] ++ r = 0 :: 1 :: r := rfl
theorem txt_zero_app (l r : List UInt8) : txt (0 :: l) ++ r = 0 :: 255 :: (txt l ++ r) := by simp [txt, esc]
theorem txt_cons_app {b : UInt8} (h : b ≠ 0) (l r : List UInt8) : txt (b :: l) ++ r = b :: (txt l ++ r) := by simp [txt, esc, h]
theorem pos_of_ne {b : UInt8} (h : b ≠ 0) : 0 < b := by
  have : b.toNat ≠ 0 := fun e => h (UInt8.toNat.inj (by simpa using e))
  rw [UInt8.lt_iff_toNat_lt]
  simp; omega

theorem less_txt : ∀ (l m r s : List UInt8), less (txt l ++ r) (txt m ++ s) = if l = m then less r s else less l m
  | [], [], r, s => by rw [txt_nil_app, txt_nil_app, less_same, less_same, if_pos rfl]
  | [], b :: m, r, s => by
    rw [if_neg (by simp), txt_nil_app, less_nil_cons]
    by_cases h : b = 0
    · subst h; rw [txt_zero_app, less_same]; exact less_lt (by decide) _ _
    · rw [txt_cons_app h]; exact less_lt (pos_of_ne h) _ _
  | a :: l, [], r, s => by
    rw [if_neg (by simp), txt_nil_app, less_nil]
    by_cases h : a = 0
    · subst h; rw [txt_zero_app, less_same]; exact less_gt (by decide) _ _
    · rw [txt_cons_app h]; exact less_gt (pos_of_ne h) _ _
  | a :: l, b :: m, r, s => by
    by_cases hab : a = b
    · subst hab
      have ih := less_txt l m r s
      have e : (if a :: l = a :: m then less r s else less (a :: l) (a :: m)) = if l = m then less r s else less l m := by
        rw [less_same]
        by_cases hlm : l = m <;> simp [hlm]
      rw [e]
      by_cases h : a = 0
      · subst h; rw [txt_zero_app, txt_zero_app, less_same, less_same]; exact ih
      · rw [txt_cons_app h, txt_cons_app h, less_same]; exact ih
    · rw [if_neg (by simp [hab]), less_cons]
      have e : (a == b) = false := by simp [hab]
      rw [e, Bool.false_and, Bool.or_false]
      by_cases ha : a = 0
      · subst ha
        rw [txt_zero_app, txt_cons_app (Ne.symm hab), less_lt (pos_of_ne (Ne.symm hab))]
        simp [pos_of_ne (Ne.symm hab)]
      · by_cases hb : b = 0
        · subst hb
          rw [txt_zero_app, txt_cons_app ha, less_gt (pos_of_ne ha)]
          simp [UInt8.lt_asymm (pos_of_ne ha)]
        · rw [txt_cons_app ha, txt_cons_app hb, less_cons, e, Bool.false_and, Bool.or_false]

theorem txt_inj : ∀ (l m r s : List UInt8), txt l ++ r = txt m ++ s → l = m ∧ r = s
  | [], [], r, s, h => by rw [txt_nil_app, txt_nil_app] at h; simp at h; exact ⟨rfl, h⟩
  | [], b :: m, r, s, h => by
    rw [txt_nil_app] at h
    by_cases hb : b = 0
    · subst hb; rw [txt_zero_app] at h; simp at h
    · rw [txt_cons_app hb] at h; simp at h; exact absurd h.1.symm hb
  | a :: l, [], r, s, h => by
    rw [txt_nil_app] at h
    by_cases hb : a = 0
    · subst hb; rw [txt_zero_app] at h; simp at h
    · rw [txt_cons_app hb] at h; simp at h; exact absurd h.1 hb
  | a :: l, b :: m, r, s, h => by
    by_cases ha : a = 0 <;> by_cases hb : b = 0
    · subst ha; subst hb
      rw [txt_zero_app, txt_zero_app] at h; simp at h
      have := txt_inj l m r s h
      exact ⟨by rw [this.1], this.2⟩
    · subst ha; rw [txt_zero_app, txt_cons_app hb] at h; simp at h; exact absurd h.1.symm hb
    · subst hb; rw [txt_zero_app, txt_cons_app ha] at h; simp at h; exact absurd h.1 ha
    · rw [txt_cons_app ha, txt_cons_app hb] at h; simp at h
      have := txt_inj l m r s h.2
      exact ⟨by rw [h.1, this.1], this.2⟩

/-! ### Numbers -/
theorem beB_mod (x : Nat) : ∀ (k m : Nat), k ≤ m → beB k (x % 256 ^ m) = beB k x
  | 0, _, _ => rfl
  | k + 1, m, h => by
    simp only [beB]
    rw [beB_mod x k m (by omega)]
    congr 1
    obtain ⟨j, rfl⟩ : ∃ j, m = k + (j + 1) := ⟨m - k - 1, by omega⟩
    rw [Nat.pow_add, Nat.mod_mul_right_div_self, Nat.pow_succ]
    apply UInt8.toNat.inj
    simp [Nat.mod_mul_left_mod]

theorem less_beB : ∀ (k x y : Nat) (r s : List UInt8), x < 256 ^ k → y < 256 ^ k → less (beB k x ++ r) (beB k y ++ s) = if x = y then less r s else decide (x < y)
  | 0, x, y, r, s, hx, hy => by
    obtain rfl : x = 0 := by simpa using hx
    obtain rfl : y = 0 := by simpa using hy
    rw [if_pos rfl]; rfl
  | k + 1, x, y, r, s, hx, hy => by
    have hp : 0 < 256 ^ k := Nat.pow_pos (by decide)
    have hx1 : x / 256 ^ k < 256 := Nat.div_lt_of_lt_mul (by rw [Nat.pow_succ] at hx; exact hx)
    have hy1 : y / 256 ^ k < 256 := Nat.div_lt_of_lt_mul (by rw [Nat.pow_succ] at hy; exact hy)
    have ex := Nat.div_add_mod x (256 ^ k)
    have ey := Nat.div_add_mod y (256 ^ k)
    have mx := Nat.mod_lt x hp
    have my := Nat.mod_lt y hp
    have ih := less_beB k (x % 256 ^ k) (y % 256 ^ k) r s mx my
    rw [beB_mod x k k (Nat.le_refl k), beB_mod y k k (Nat.le_refl k)] at ih
    simp only [beB, List.cons_append]
    generalize x / 256 ^ k = a at *
    generalize y / 256 ^ k = b at *
    generalize x % 256 ^ k = c at *
    generalize y % 256 ^ k = d at *
    generalize 256 ^ k = p at *
    have na : (UInt8.ofNat a).toNat = a := by simp; omega
    have nb : (UInt8.ofNat b).toNat = b := by simp; omega
    rcases Nat.lt_trichotomy a b with h | h | h
    · rw [less_lt (UInt8.lt_iff_toNat_lt.2 (by rw [na, nb]; exact h))]
      have hlt : x < y := by
        have : p * (a + 1) ≤ p * b := Nat.mul_le_mul_left p h
        rw [Nat.mul_add] at this
        omega
      rw [if_neg (by omega)]
      simp [hlt]
    · subst h
      rw [less_same, ih]
      by_cases hcd : c = d
      · subst hcd; rw [if_pos rfl, if_pos (by omega)]
      · rw [if_neg hcd, if_neg (by omega)]
        congr 1
        apply propext
        omega
    · rw [less_gt (UInt8.lt_iff_toNat_lt.2 (by rw [na, nb]; exact h))]
      have hlt : y < x := by
        have : p * (b + 1) ≤ p * a := Nat.mul_le_mul_left p h
        rw [Nat.mul_add] at this
        omega
      rw [if_neg (by omega)]
      simp; omega

theorem beB_inj : ∀ (k x y : Nat) (r s : List UInt8), x < 256 ^ k → y < 256 ^ k → beB k x ++ r = beB k y ++ s → x = y ∧ r = s := by
  intro k x y r s hx hy h
  have e : beB k x = beB k y := by
    have := congrArg (List.take k) h
    rwa [List.take_left' (beB_length _ _), List.take_left' (beB_length _ _)] at this
  have h1 := less_beB k x y [] [] hx hy
  have h2 := less_beB k y x [] [] hy hx
  rw [e, less_irrefl] at h1
  rw [e, less_irrefl] at h2
  refine ⟨?_, by rw [e] at h; exact List.append_cancel_left h⟩
  by_cases hxy : x = y
  · exact hxy
  · rw [if_neg hxy] at h1
    rw [if_neg (Ne.symm hxy)] at h2
    simp at h1 h2
    omega

theorem lt_nlen (x : Nat) : x < 256 ^ nlen x := by
  refine Nat.lt_of_lt_of_le (bitsOf_lt x) ?_
  rw [show (256 : Nat) = 2 ^ 8 from rfl, ← Nat.pow_mul]
  exact Nat.pow_le_pow_right (by omega) (by unfold nlen; omega)
theorem nlen_le_pow {x : Nat} (h : x ≠ 0) : 256 ^ (nlen x - 1) ≤ x := by
  refine Nat.le_trans ?_ (bitsOf_le x h)
  rw [show (256 : Nat) = 2 ^ 8 from rfl, ← Nat.pow_mul]
  exact Nat.pow_le_pow_right (by omega) (by unfold nlen; omega)
theorem nlen_lt {x y : Nat} (h : nlen x < nlen y) : x < y := by
  have hy : y ≠ 0 := by rintro rfl; simp [nlen, bitsOf] at h
  refine Nat.lt_of_lt_of_le (lt_nlen x) (Nat.le_trans ?_ (nlen_le_pow hy))
  exact Nat.pow_le_pow_right (by omega) (by omega)

theorem less_num (x y : Nat) (r s : List UInt8) (hx : nlen x ≤ 8) (hy : nlen y ≤ 8) : less (num x ++ r) (num y ++ s) = if x = y then less r s else decide (x < y) := by
  simp only [num, List.cons_append]
  have na : (UInt8.ofNat (nlen x)).toNat = nlen x := by simp; omega
  have nb : (UInt8.ofNat (nlen y)).toNat = nlen y := by simp; omega
  rcases Nat.lt_trichotomy (nlen x) (nlen y) with h | h | h
  · have := nlen_lt h
    rw [less_lt (UInt8.lt_iff_toNat_lt.2 (by rw [na, nb]; exact h)), if_neg (by omega)]
    simp [this]
  · rw [h, less_same]
    exact less_beB _ x y r s (h ▸ lt_nlen x) (lt_nlen y)
  · have := nlen_lt h
    rw [less_gt (UInt8.lt_iff_toNat_lt.2 (by rw [na, nb]; exact h)), if_neg (by omega)]
    simp; omega
theorem num_inj (x y : Nat) (r s : List UInt8) (hx : nlen x ≤ 8) (hy : nlen y ≤ 8) (h : num x ++ r = num y ++ s) : x = y ∧ r = s := by
  simp only [num, List.cons_append, List.cons.injEq] at h
  have na : (UInt8.ofNat (nlen x)).toNat = nlen x := by simp; omega
  have nb : (UInt8.ofNat (nlen y)).toNat = nlen y := by simp; omega
  have e : nlen x = nlen y := by rw [← na, ← nb, h.1]
  rw [e] at h
  exact beB_inj _ x y r s (e ▸ lt_nlen x) (lt_nlen y) h.2

/-! ### Whole numbers -/
theorem less_int8 (m n : Int) (hm : -9223372036854775808 ≤ m) (hm' : m ≤ 9223372036854775807) (hn : -9223372036854775808 ≤ n) (hn' : n ≤ 9223372036854775807) : less (int8 m) (int8 n) = decide (m < n) := by
  unfold int8
  have h := less_beB 8 ((m + 9223372036854775808) % 18446744073709551616).toNat ((n + 9223372036854775808) % 18446744073709551616).toNat [] [] (by simp; omega) (by simp; omega)
  rw [List.append_nil, List.append_nil] at h
  rw [h]
  by_cases e : m = n
  · subst e; rw [if_pos rfl]; simp; rfl
  · rw [if_neg (by omega)]
    congr 1
    apply propext
    omega

end Go.Proofs.YtimbikbbbfpeeaaGreatDoor

/- Cells as one thing; cell.Seen, cell.Check. (what a smaller cut has) -/
namespace Go.Proofs.YtimbikbbbfpeeaaGreatDoor
open Go Go.RowKit

end Go.Proofs.YtimbikbbbfpeeaaGreatDoor
