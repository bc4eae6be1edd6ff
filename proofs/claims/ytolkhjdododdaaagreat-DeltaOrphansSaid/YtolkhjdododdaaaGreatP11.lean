/- Plain laws: the bytes of numbers, texts and whole numbers stand in the order of what they are. -/
import Derived.Test.YtolkhjdododdaaaGreatP1
import Derived.Laws.Strings
import Derived.Test.YtolkhjdododdaaaGreatP8
import Derived.Test.YtolkhjdododdaaaGreatP10
import Derived.Test.YtolkhjdododdaaaGreatP7
import Derived.Test.YtolkhjdododdaaaGreatP4
import Derived.Test.YtolkhjdododdaaaGreatP2
import Derived.Laws.OwnMore
import Derived.Deep.MidRow
set_option linter.unusedSimpArgs false
set_option linter.unusedVariables false
namespace Go.Proofs.YtolkhjdododdaaaGreat
open Go

abbrev less (x y : List UInt8) : Bool := Op.bytesLess x y
theorem less_nil (x : List UInt8) : less x [] = false := by cases x <;> rfl
theorem less_nil_cons (b : UInt8) (y : List UInt8) : less [] (b :: y) = true := rfl
theorem less_cons (a b : UInt8) (x y : List UInt8) : less (a :: x) (b :: y) = (decide (a < b) || (a == b && less x y)) := rfl
theorem less_same (a : UInt8) (x y : List UInt8) : less (a :: x) (a :: y) = less x y := by
  rw [less_cons]
  have : ¬ a < a := UInt8.lt_irrefl a
  simp [this]
theorem less_lt {a b : UInt8} (h : a < b) (x y : List UInt8) : less (a :: x) (b :: y) = true := by rw [less_cons]; simp [h]
theorem less_gt {a b : UInt8} (h : b < a) (x y : List UInt8) : less (a :: x) (b :: y) = false := by
  rw [less_cons]
  have h1 : ¬ a < b := UInt8.lt_asymm h
  have h2 : a ≠ b := by rintro rfl; exact UInt8.lt_irrefl _ h
  simp [h1, h2]
theorem less_irrefl (x : List UInt8) : less x x = false := by
  induction x with
  | nil => rfl
  | cons a x ih => rw [less_same]; exact ih
theorem less_asymm : ∀ {x y : List UInt8}, less x y = true → less y x = false
  | [], [], h => by cases h
  | [], _ :: _, _ => less_nil _
  | _ :: _, [], h => by rw [less_nil] at h; cases h
  | a :: x, b :: y, h => by
    rw [less_cons] at h
    by_cases h1 : a < b
    · exact less_gt h1 _ _
    · simp [h1] at h
      obtain ⟨rfl, h⟩ := h
      rw [less_same]
      exact less_asymm h
theorem less_tri : ∀ (x y : List UInt8), less x y = true ∨ x = y ∨ less y x = true
  | [], [] => .inr (.inl rfl)
  | [], _ :: _ => .inl rfl
  | _ :: _, [] => .inr (.inr rfl)
  | a :: x, b :: y => by
    by_cases h1 : a < b
    · exact .inl (less_lt h1 _ _)
    · by_cases h2 : b < a
      · exact .inr (.inr (less_lt h2 _ _))
      · have : a = b := UInt8.le_antisymm (UInt8.not_lt.1 h2) (UInt8.not_lt.1 h1)
        subst this
        rw [less_same, less_same]
        rcases less_tri x y with h | h | h
        · exact .inl h
        · exact .inr (.inl (by rw [h]))
        · exact .inr (.inr h)
theorem less_ne {x y : List UInt8} (h : less x y = true) : x ≠ y := by rintro rfl; rw [less_irrefl] at h; cases h
theorem less_trans : ∀ {x y z : List UInt8}, less x y = true → less y z = true → less x z = true
  | _, _, [], _, h => by rw [less_nil] at h; cases h
  | [], _, _ :: _, _, _ => rfl
  | _ :: _, [], _ :: _, h, _ => by rw [less_nil] at h; cases h
  | a :: x, b :: y, c :: z, h1, h2 => by
    rw [less_cons] at h1 h2
    simp only [Bool.or_eq_true, decide_eq_true_eq, Bool.and_eq_true, beq_iff_eq] at h1 h2
    rcases h1 with h1 | ⟨rfl, h1⟩ <;> rcases h2 with h2 | ⟨rfl, h2⟩
    · exact less_lt (UInt8.lt_trans h1 h2) _ _
    · exact less_lt h1 _ _
    · exact less_lt h2 _ _
    · rw [less_same]; exact less_trans h1 h2

/-! ### Texts -/
theorem txt_nil_app (r : List UInt8) : txt [] ++ r = 0 :: 1 :: r := rfl
theorem txt_zero_app (l r : List UInt8) : txt (0 :: l) ++ r = 0 :: 255 :: (txt l ++ r) := by simp [txt, esc]
theorem txt_cons_app {b : UInt8} (h : b ≠ 0) (l r : List UInt8) : txt (b :: l) ++ r = b :: (txt l ++ r) := by simp [txt, esc, h]
theorem pos_of_ne {b : UInt8} (h : b ≠ 0) : 0 < b := by
  have : b.toNat ≠ 0 := fun e => h (UInt8.toNat.inj (by simpa using e))
  rw [UInt8.lt_iff_toNat_lt]
  simp; omega

theorem less_txt : ∀ (l m r s : List UInt8), less (txt l ++ r) (txt m ++ s) = if l = m then less r s else less l m
  | [], [], r, s => by rw [txt_nil_app, txt_nil_app, less_same, less_same, if_pos rfl]
  | [], b :: m, r, s => by
    rw [if_neg (by simp), txt_nil_app, less_nil_cons]
    by_cases h : b = 0
    · subst h; rw [txt_zero_app, less_same]; exact less_lt (by decide) _ _
    · rw [txt_cons_app h]; exact less_lt (pos_of_ne h) _ _
  | a :: l, [], r, s => by
    rw [if_neg (by simp), txt_nil_app, less_nil]
    by_cases h : a = 0
    · subst h; rw [txt_zero_app, less_same]; exact less_gt (by decide) _ _
    · rw [txt_cons_app h]; exact less_gt (pos_of_ne h) _ _
  | a :: l, b :: m, r, s => by
    by_cases hab : a = b
    · subst hab
      have ih := less_txt l m r s
      have e : (if a :: l = a :: m then less r s else less (a :: l) (a :: m)) = if l = m then less r s else less l m := by
        rw [less_same]
        by_cases hlm : l = m <;> simp [hlm]
      rw [e]
      by_cases h : a = 0
      · subst h; rw [txt_zero_app, txt_zero_app, less_same, less_same]; exact ih
      · rw [txt_cons_app h, txt_cons_app h, less_same]; exact ih
    · rw [if_neg (by simp [hab]), less_cons]
      have e : (a == b) = false := by simp [hab]
      rw [e, Bool.false_and, Bool.or_false]
      by_cases ha : a = 0
      · subst ha
        rw [txt_zero_app, txt_cons_app (Ne.symm hab), less_lt (pos_of_ne (Ne.symm hab))]
        simp [pos_of_ne (Ne.symm hab)]
      · by_cases hb : b = 0
        · subst hb
          rw [txt_zero_app, txt_cons_app ha, less_gt (pos_of_ne ha)]
          simp [UInt8.lt_asymm (pos_of_ne ha)]
        · rw [txt_cons_app ha, txt_cons_app hb, less_cons, e, Bool.false_and, Bool.or_false]

theorem txt_inj : ∀ (l m r s : List UInt8), txt l ++ r = txt m ++ s → l = m ∧ r = s
  | [], [], r, s, h => by rw [txt_nil_app, txt_nil_app] at h; simp at h; exact ⟨rfl, h⟩
  | [], b :: m, r, s, h => by
    rw [txt_nil_app] at h
    by_cases hb : b = 0
    · subst hb; rw [txt_zero_app] at h; simp at h
    · rw [txt_cons_app hb] at h; simp at h; exact absurd h.1.symm hb
  | a :: l, [], r, s, h => by
    rw [txt_nil_app] at h
    by_cases hb : a = 0
    · subst hb; rw [txt_zero_app] at h; simp at h
    · rw [txt_cons_app hb] at h; simp at h; exact absurd h.1 hb
  | a :: l, b :: m, r, s, h => by
    by_cases ha : a = 0 <;> by_cases hb : b = 0
    · subst ha; subst hb
      rw [txt_zero_app, txt_zero_app] at h; simp at h
      have := txt_inj l m r s h
      exact ⟨by rw [this.1], this.2⟩
    · subst ha; rw [txt_zero_app, txt_cons_app hb] at h; simp at h; exact absurd h.1.symm hb
    · subst hb; rw [txt_zero_app, txt_cons_app ha] at h; simp at h; exact absurd h.1 ha
    · rw [txt_cons_app ha, txt_cons_app hb] at h; simp at h
      have := txt_inj l m r s h.2
      exact ⟨by rw [h.1, this.1], this.2⟩

/-! ### Numbers -/
theorem beB_mod (x : Nat) : ∀ (k m : Nat), k ≤ m → beB k (x % 256 ^ m) = beB k x
  | 0, _, _ => rfl
  | k + 1, m, h => by
    simp only [beB]
    rw [beB_mod x k m (by omega)]
    congr 1
    obtain ⟨j, rfl⟩ : ∃ j, m = k + (j + 1) := ⟨m - k - 1, by omega⟩
    rw [Nat.pow_add, Nat.mod_mul_right_div_self, Nat.pow_succ]
    apply UInt8.toNat.inj
    simp [Nat.mod_mul_left_mod]

theorem less_beB : ∀ (k x y : Nat) (r s : List UInt8), x < 256 ^ k → y < 256 ^ k → less (beB k x ++ r) (beB k y ++ s) = if x = y then less r s else decide (x < y)
  | 0, x, y, r, s, hx, hy => by
    obtain rfl : x = 0 := by simpa using hx
    obtain rfl : y = 0 := by simpa using hy
    rw [if_pos rfl]; rfl
  | k + 1, x, y, r, s, hx, hy => by
    have hp : 0 < 256 ^ k := Nat.pow_pos (by decide)
    have hx1 : x / 256 ^ k < 256 := Nat.div_lt_of_lt_mul (by rw [Nat.pow_succ] at hx; exact hx)
    have hy1 : y / 256 ^ k < 256 := Nat.div_lt_of_lt_mul (by rw [Nat.pow_succ] at hy; exact hy)
    have ex := Nat.div_add_mod x (256 ^ k)
    have ey := Nat.div_add_mod y (256 ^ k)
    have mx := Nat.mod_lt x hp
    have my := Nat.mod_lt y hp
    have ih := less_beB k (x % 256 ^ k) (y % 256 ^ k) r s mx my
    rw [beB_mod x k k (Nat.le_refl k), beB_mod y k k (Nat.le_refl k)] at ih
    simp only [beB, List.cons_append]
    generalize x / 256 ^ k = a at *
    generalize y / 256 ^ k = b at *
    generalize x % 256 ^ k = c at *
    generalize y % 256 ^ k = d at *
    generalize 256 ^ k = p at *
    have na : (UInt8.ofNat a).toNat = a := by simp; omega
    have nb : (UInt8.ofNat b).toNat = b := by simp; omega
    rcases Nat.lt_trichotomy a b with h | h | h
    · rw [less_lt (UInt8.lt_iff_toNat_lt.2 (by rw [na, nb]; exact h))]
      have hlt : x < y := by
        have : p * (a + 1) ≤ p * b := Nat.mul_le_mul_left p h
        rw [Nat.mul_add] at this
        omega
      rw [if_neg (by omega)]
      simp [hlt]
    · subst h
      rw [less_same, ih]
      by_cases hcd : c = d
      · subst hcd; rw [if_pos rfl, if_pos (by omega)]
      · rw [if_neg hcd, if_neg (by omega)]
        congr 1
        apply propext
        omega
    · rw [less_gt (UInt8.lt_iff_toNat_lt.2 (by rw [na, nb]; exact h))]
      have hlt : y < x := by
        have : p * (b + 1) ≤ p * a := Nat.mul_le_mul_left p h
        rw [Nat.mul_add] at this
        omega
      rw [if_neg (by omega)]
      simp; omega

theorem beB_inj : ∀ (k x y : Nat) (r s : List UInt8), x < 256 ^ k → y < 256 ^ k → beB k x ++ r = beB k y ++ s → x = y ∧ r = s := by
  intro k x y r s hx hy h
  have e : beB k x = beB k y := by
    have := congrArg (List.take k) h
    rwa [List.take_left' (beB_length _ _), List.take_left' (beB_length _ _)] at this
  have h1 := less_beB k x y [] [] hx hy
  have h2 := less_beB k y x [] [] hy hx
  rw [e, less_irrefl] at h1
  rw [e, less_irrefl] at h2
  refine ⟨?_, by rw [e] at h; exact List.append_cancel_left h⟩
  by_cases hxy : x = y
  · exact hxy
  · rw [if_neg hxy] at h1
    rw [if_neg (Ne.symm hxy)] at h2
    simp at h1 h2
    omega

theorem lt_nlen (x : Nat) : x < 256 ^ nlen x := by
  refine Nat.lt_of_lt_of_le (bitsOf_lt x) ?_
  rw [show (256 : Nat) = 2 ^ 8 from rfl, ← Nat.pow_mul]
  exact Nat.pow_le_pow_right (by omega) (by unfold nlen; omega)
theorem nlen_le_pow {x : Nat} (h : x ≠ 0) : 256 ^ (nlen x - 1) ≤ x := by
  refine Nat.le_trans ?_ (bitsOf_le x h)
  rw [show (256 : Nat) = 2 ^ 8 from rfl, ← Nat.pow_mul]
  exact Nat.pow_le_pow_right (by omega) (by unfold nlen; omega)
theorem nlen_lt {x y : Nat} (h : nlen x < nlen y) : x < y := by
  have hy : y ≠ 0 := by rintro rfl; simp [nlen, bitsOf] at h
  refine Nat.lt_of_lt_of_le (lt_nlen x) (Nat.le_trans ?_ (nlen_le_pow hy))
  exact Nat.pow_le_pow_right (by omega) (by omega)

theorem less_num (x y : Nat) (r s : List UInt8) (hx : nlen x ≤ 8) (hy : nlen y ≤ 8) : less (num x ++ r) (num y ++ s) = if x = y then less r s else decide (x < y) := by
  simp only [num, List.cons_append]
  have na : (UInt8.ofNat (nlen x)).toNat = nlen x := by simp; omega
  have nb : (UInt8.ofNat (nlen y)).toNat = nlen y := by simp; omega
  rcases Nat.lt_trichotomy (nlen x) (nlen y) with h | h | h
  · have := nlen_lt h
    rw [less_lt (UInt8.lt_iff_toNat_lt.2 (by rw [na, nb]; exact h)), if_neg (by omega)]
    simp [this]
  · rw [h, less_same]
    exact less_beB _ x y r s (h ▸ lt_nlen x) (lt_nlen y)
  · have := nlen_lt h
    rw [less_gt (UInt8.lt_iff_toNat_lt.2 (by rw [na, nb]; exact h)), if_neg (by omega)]
    simp; omega
theorem num_inj (x y : Nat) (r s : List UInt8) (hx : nlen x ≤ 8) (hy : nlen y ≤ 8) (h : num x ++ r = num y ++ s) : x = y ∧ r = s := by
  simp only [num, List.cons_append, List.cons.injEq] at h
  have na : (UInt8.ofNat (nlen x)).toNat = nlen x := by simp; omega
  have nb : (UInt8.ofNat (nlen y)).toNat = nlen y := by simp; omega
  have e : nlen x = nlen y := by rw [← na, ← nb, h.1]
  rw [e] at h
  exact beB_inj _ x y r s (e ▸ lt_nlen x) (lt_nlen y) h.2

/-! ### Whole numbers -/
theorem less_int8 (m n : Int) (hm : -9223372036854775808 ≤ m) (hm' : m ≤ 9223372036854775807) (hn : -9223372036854775808 ≤ n) (hn' : n ≤ 9223372036854775807) : less (int8 m) (int8 n) = decide (m < n) := by
  unfold int8
  have h := less_beB 8 ((m + 9223372036854775808) % 18446744073709551616).toNat ((n + 9223372036854775808) % 18446744073709551616).toNat [] [] (by simp; omega) (by simp; omega)
  rw [List.append_nil, List.append_nil] at h
  rw [h]
  by_cases e : m = n
  · subst e; rw [if_pos rfl]; simp; rfl
  · rw [if_neg (by omega)]
    congr 1
    apply propext
    omega

end Go.Proofs.YtolkhjdododdaaaGreat

/- slices.Equal over columns, row.Same, slices.EqualFunc over rows, part.Same. -/
namespace Go.Proofs.YtolkhjdododdaaaGreat
open Go Go.RowKit
attribute [local go_sem] yields yUpon ro8 pa3

set_option maxRecDepth 100000 in
set_option maxHeartbeats 2000000 in
theorem eqCols_any (v v' : Value) (l l' : List Co) (w : World) (hin : ColsIn w v l) (hin' : ColsIn w v' l') :
    Calls Tryz.prog 47 #[v, v'] w fun e w' => e = .returned (.bool (eqB l l')) ∧ Ext w w' := by
  obtain ⟨a, c, rfl, hc, hcm, hcell⟩ := hin.get
  obtain ⟨a', c', rfl, hc', hcm', hcell'⟩ := hin'.get
  have HC := Lib.hid hcell
  have HC' := Lib.hid hcell'
  clear hcell hin hcell' hin'
  by_cases hlen : l.length = l'.length
  · obtain ⟨n, hn⟩ : ∃ n, n = l.length := ⟨_, rfl⟩
    rw [← hn] at hlen hc ⊢
    rw [← hlen] at hc' ⊢
    have HN := Lib.hid hn
    have HN' := Lib.hid hlen
    clear hn hlen
    go_enter Tryz.func47, Tryz.ntmps47
    go_wp2
    go_loopw [13] (fun i wr => ∃ k : Nat, k ≤ n ∧ i = .int .i64 k ∧ Ext w wr ∧ Hid (l.take k = l'.take k)) (fun i _ => n - (intOf i).toNat)
    case atStart => exact ⟨0, Nat.zero_le _, rfl, Ext.refl w, rfl⟩
    case round =>
      obtain ⟨k, hk, rfl, hE, HT⟩ := hrel
      by_cases hlt : k < n
      · have hl1 : k < l.length := by rw [← HN.out]; exact hlt
        have hl2 : k < l'.length := by rw [← HN'.out]; exact hlt
        obtain ⟨b, o, rfl, hco⟩ := HC.out k hl1
        obtain ⟨b', o', rfl, hco'⟩ := HC'.out k hl2
        obtain ⟨M, hM⟩ : ∃ M, M = l[k] := ⟨_, rfl⟩
        obtain ⟨M', hM'⟩ : ∃ M', M' = l'[k] := ⟨_, rfl⟩
        rw [← hM] at hco
        rw [← hM'] at hco'
        have HM := Lib.hid hM
        have HM' := Lib.hid hM'
        clear hM hM'
        obtain ⟨g0, g1, g2, g3, g4⟩ := hco.ext hE
        obtain ⟨y0, y1, y2, y3, y4⟩ := hco'.ext hE
        clear hco hco'
        have hki : decide ((k : Int) < (n : Int)) = true := by simpa using hlt
        replace g0 := held g0
        replace g1 := held g1
        replace g2 := held g2
        replace g3 := held g3
        replace g4 := held g4
        replace y0 := held y0
        replace y1 := held y1
        replace y2 := held y2
        replace y3 := held y3
        replace y4 := held y4
        go_wp2_with fail
        refine wp_region_tab 9 [] (by kernel_rfl) (by kernel_rfl) (by kernel_rfl) trivial ?_
        refine rg_quiet rfl rfl rfl rfl ?_; intro K hK; go_big_quiet_op; go_big_quiet_on
        refine rg_quiet rfl rfl rfl rfl ?_; intro K hK; go_big_quiet_op; go_big_quiet_on
        refine rg_quiet rfl rfl rfl rfl ?_; intro K hK; go_big_quiet_op; go_big_quiet_on
        refine rg_quiet rfl rfl rfl rfl ?_; intro K hK; go_big_quiet_op; go_big_quiet_on
        refine rg_quiet rfl rfl rfl rfl ?_; intro K hK; go_big_quiet_op; go_big_quiet_on
        refine rg_quiet rfl rfl rfl rfl ?_; intro K hK; go_big_quiet_op; go_big_quiet_on
        refine rg_quiet rfl rfl rfl rfl ?_; intro K hK; go_big_quiet_op; go_big_quiet_on
        refine rg_quiet rfl rfl rfl rfl ?_; intro K hK; go_big_quiet_op; go_big_quiet_on
        refine rg_quiet rfl rfl rfl rfl ?_; intro K hK; go_big_quiet_op
        refine ⟨.bool (!eqB M M'), fun q => ?_, hK _ ?_⟩
        · by_cases h1 : M.name.toList = M'.name.toList
          · by_cases h2 : M.cell.val.toList = M'.cell.val.toList
            · by_cases h3 : M.cell.dead = M'.cell.dead
              · by_cases h4 : M.cell.at_ = M'.cell.at_
                · by_cases h5 : M.cell.fin = M'.cell.fin
                  · have e : M = M' := co_ext h1 h2 h3 h4 h5
                    rw [if_pos h1, if_pos h2, if_pos h3, if_pos h4, if_pos h5, eqB_true e]
                    exact ⟨rfl, rfl⟩
                  · rw [if_pos h1, if_pos h2, if_pos h3, if_pos h4, if_neg h5, eqB_false (fun e => h5 (by rw [e]))]
                    exact ⟨rfl, rfl⟩
                · rw [if_pos h1, if_pos h2, if_pos h3, if_neg h4, eqB_false (fun e => h4 (by rw [e]))]
                  exact ⟨rfl, rfl⟩
              · rw [if_pos h1, if_pos h2, if_neg h3, eqB_false (fun e => h3 (by rw [e]))]
                exact ⟨rfl, rfl⟩
            · rw [if_pos h1, if_neg h2, eqB_false (fun e => h2 (by rw [e]))]
              exact ⟨rfl, rfl⟩
          · rw [if_neg h1, eqB_false (fun e => h1 (by rw [e]))]
            exact ⟨rfl, rfl⟩
        clear hK K
        refine rel_nil fun w5 hE5 _ => ?_
        clear g0 g1 g2 g3 g4 y0 y1 y2 y3 y4
        by_cases hMM : M = M'
        · rw [eqB_true hMM]
          go_wp2_with fail
          go_roundw
          case rel =>
            refine ⟨k + 1, hlt, rfl, hE.trans hE5, ?_⟩
            show _ = _
            rw [List.take_succ_eq_append_getElem hl1, List.take_succ_eq_append_getElem hl2, HT.out, ← HM.out, ← HM'.out, hMM]
          case measure => simp [intOf]; omega
        · rw [eqB_false hMM]
          go_wp2_with fail
          go_ret
          rw [eqB_false (fun e => hMM (by rw [HM.out, HM'.out]; simp only [e]))]
          exact ⟨rfl, hE.trans hE5⟩
      · go_wp2_with fail
        go_ret
        rw [eqB_true (by
          have := HT.out
          rwa [List.take_of_length_le (by rw [← HN.out]; omega), List.take_of_length_le (by rw [← HN'.out]; omega)] at this)]
        exact ⟨rfl, hE⟩
  · have hne : l ≠ l' := fun e => hlen (by rw [e])
    have HB := Lib.hid (eqB_false hne)
    go_enter Tryz.func47, Tryz.ntmps47
    go_wp2
    go_ret
    exact ⟨by rw [HB.out]; rfl, Ext.refl w⟩

theorem ro_ext {a b : Ro} (h1 : a.key.toList = b.key.toList) (h2 : a.live.val.toList = b.live.val.toList) (h3 : a.live.dead = b.live.dead) (h4 : a.live.at_ = b.live.at_) (h5 : a.live.fin = b.live.fin) (h6 : a.gone = b.gone) (h7 : a.shade = b.shade) (h8 : a.cols = b.cols) : a = b := by
  have := cl_ext h2 h3 h4 h5
  cases a; cases b
  simp only at *
  rw [bytes_ext h1, this, h6, h7, h8]

set_option maxRecDepth 100000 in
set_option maxHeartbeats 4000000 in
theorem rowSame_any (a b : Ro) (va vb : Value) (w : World) (ha : ColsIn w va a.cols) (hb : ColsIn w vb b.cols) :
    Calls Tryz.prog 28 #[(.agg #[.string a.key, .string a.live.val, .bool a.live.dead, .int .i64 a.live.at_, .int .i64 a.live.fin, .int .i64 a.gone, .int .i64 a.shade, va]), (.agg #[.string b.key, .string b.live.val, .bool b.live.dead, .int .i64 b.live.at_, .int .i64 b.live.fin, .int .i64 b.gone, .int .i64 b.shade, vb])] w fun e w' => e = .returned (.bool (eqB a b)) ∧ Ext w w' := by
  go_enter Tryz.func28, Tryz.ntmps28
  go_wp2_with fail
  rotate_left
  all_goals try
    rename_i h
    go_ret
    exact ⟨by rw [eqB_false (fun e => h (by rw [e]))]; rfl, ((Ext.refl w).alloc _).alloc _⟩
  rename_i h1 h2 h3 h4 h5 h6 h7 _ _
  refine (eqCols_any va vb a.cols b.cols _ (ha.ext (((Ext.refl w).alloc _).alloc _)) (hb.ext (((Ext.refl w).alloc _).alloc _))).mono ?_
  rintro e w1 ⟨rfl, hE1⟩
  have he : eqB a.cols b.cols = eqB a b := by
    by_cases h : a.cols = b.cols
    · rw [eqB_true h, eqB_true (ro_ext h1 h2 h3 h4 h5 h6 h7 h)]
    · rw [eqB_false h, eqB_false (fun e => h (by rw [e]))]
  rw [he]
  obtain ⟨B, hB⟩ : ∃ B, B = eqB a b := ⟨_, rfl⟩
  rw [← hB]
  have HB := Lib.hid hB
  clear hB he h1 h2 h3 h4 h5 h6 h7
  go_wp2_with fail
  go_ret
  exact ⟨by rw [← HB.out]; rfl, (((Ext.refl w).alloc _).alloc _).trans hE1⟩

set_option maxRecDepth 100000 in
set_option maxHeartbeats 4000000 in
theorem eqRows_any (v v' : Value) (ps ps' : List (Ro × Value)) (w : World) (hin : RowsIn w v ps) (hin' : RowsIn w v' ps') :
    Calls Tryz.prog 45 #[v, v', .func (.func 28) #[] #[]] w fun e w' => e = .returned (.bool (eqB (ps.map (·.1)) (ps'.map (·.1)))) ∧ Ext w w' := by
  obtain ⟨a, c, rfl, hc, hcm, hcell⟩ := hin.get
  obtain ⟨a', c', rfl, hc', hcm', hcell'⟩ := hin'.get
  have HC := Lib.hid hcell
  have HC' := Lib.hid hcell'
  have HK := Lib.hid hin.cols
  have HK' := Lib.hid hin'.cols
  clear hcell hin hcell' hin'
  by_cases hlen : ps.length = ps'.length
  · obtain ⟨n, hn⟩ : ∃ n, n = ps.length := ⟨_, rfl⟩
    rw [← hn] at hlen hc ⊢
    rw [← hlen] at hc' ⊢
    have HN := Lib.hid hn
    have HN' := Lib.hid hlen
    clear hn hlen
    obtain ⟨l, hl⟩ : ∃ l, l = ps.map (·.1) := ⟨_, rfl⟩
    obtain ⟨l', hl'⟩ : ∃ l', l' = ps'.map (·.1) := ⟨_, rfl⟩
    rw [← hl, ← hl']
    have HL := Lib.hid hl
    have HL' := Lib.hid hl'
    clear hl hl'
    go_enter Tryz.func45, Tryz.ntmps45
    go_wp2
    go_loopw [17] (fun i wr => ∃ k : Nat, k ≤ n ∧ i = .int .i64 k ∧ Ext w wr ∧ Hid (l.take k = l'.take k)) (fun i _ => n - (intOf i).toNat)
    case atStart => exact ⟨0, Nat.zero_le _, rfl, Ext.refl w, rfl⟩
    case round =>
      obtain ⟨k, hk, rfl, hE, HT⟩ := hrel
      by_cases hlt : k < n
      · have hl1 : k < ps.length := by rw [← HN.out]; exact hlt
        have hl2 : k < ps'.length := by rw [← HN'.out]; exact hlt
        have hll : k < l.length := by rw [HL.out]; simpa using hl1
        have hll' : k < l'.length := by rw [HL'.out]; simpa using hl2
        obtain ⟨b, o, rfl, hco⟩ := HC.out k hl1
        obtain ⟨b', o', rfl, hco'⟩ := HC'.out k hl2
        have hk1 := HK.out _ (List.getElem_mem hl1)
        have hk2 := HK'.out _ (List.getElem_mem hl2)
        obtain ⟨M, hM⟩ : ∃ M, M = ps[k].1 := ⟨_, rfl⟩
        obtain ⟨M', hM'⟩ : ∃ M', M' = ps'[k].1 := ⟨_, rfl⟩
        obtain ⟨au, cu, hu⟩ := hk1.shape
        obtain ⟨au', cu', hu'⟩ := hk2.shape
        rw [← hM] at hco hk1 hu
        rw [← hM'] at hco' hk2 hu'
        rw [hu] at hco hk1
        rw [hu'] at hco' hk2
        have hM1 : M = l[k] := by simp only [HL.out, List.getElem_map]; exact hM
        have hM1' : M' = l'[k] := by simp only [HL'.out, List.getElem_map]; exact hM'
        have HM := Lib.hid hM1
        have HM' := Lib.hid hM1'
        clear hM hM' hu hu' hM1 hM1'
        obtain ⟨mm, hmm⟩ : ∃ mm, mm = M.cols.length := ⟨_, rfl⟩
        obtain ⟨mm', hmm'⟩ : ∃ mm', mm' = M'.cols.length := ⟨_, rfl⟩
        rw [← hmm] at hco hk1
        rw [← hmm'] at hco' hk2
        clear hmm hmm'
        obtain ⟨g0, g1, g2, g3, g4, g5, g6, g7⟩ := hco.ext hE
        have hco2 := hco'.ext hE
        go_wp2_with (first
          | (((guard_target =~ wpList _ _ _ (Oper.mk none (Op.store _ (Operand.tmp 8) (Operand.tmp 21)) _ _ _ _ :: _) _ _); go_must (refine storeBox rfl 54 (.tmp 8) (.tmp 21) rfl (wr.heap.size) _ _ _ (by rfl) (by rfl) ((BoxAt.made wr (ro8 ⟨⟨#[]⟩, zeroCl, 0, 0, []⟩ (.slice none 0 0)) 54)) (by kernel_rfl) (by rfl) (by simp [Value.oneCell']) ?_); intro w4 c4 gg4); have hX4 : Ext wr w4 := ((Ext.refl wr).alloc _).grown gg4 (fun q hq => by cases hq; omega); obtain ⟨y0, y1, y2, y3, y4, y5, y6, y7⟩ := hco2.ext hX4)
          | (((guard_target =~ wpList _ _ _ (Oper.mk none (Op.store _ (Operand.tmp 9) (Operand.tmp 25)) _ _ _ _ :: _) _ _); go_must (refine storeBox rfl 54 (.tmp 9) (.tmp 25) rfl (w4.heap.size) _ _ _ (by rfl) (by rfl) ((BoxAt.made w4 (ro8 ⟨⟨#[]⟩, zeroCl, 0, 0, []⟩ (.slice none 0 0)) 54)) (by kernel_rfl) (by rfl) (by simp [Value.oneCell']) ?_); intro w5 c5 gg5); have hX5 : Ext w4 w5 := ((Ext.refl w4).alloc _).grown gg5 (fun q hq => by cases hq; omega); have d4 := (c4.ext hX5).ro (r := ⟨M.key, M.live, M.gone, M.shade, []⟩) (v := .slice au mm cu); have d5 := c5.ro (r := ⟨M'.key, M'.live, M'.gone, M'.shade, []⟩) (v := .slice au' mm' cu')))
        refine (rowSame_any M M' _ _ w5 (hk1.ext ((hE.trans hX4).trans hX5)) (hk2.ext ((hE.trans hX4).trans hX5))).mono ?_
        rintro e w6 ⟨rfl, hE6⟩
        have hX6 := ((hE.trans hX4).trans hX5).trans hE6
        clear d4 d5 g0 g1 g2 g3 g4 g5 g6 g7 y0 y1 y2 y3 y4 y5 y6 y7 c4 c5 gg4 gg5
        by_cases hMM : M = M'
        · rw [eqB_true hMM]
          go_wp2_with fail
          go_roundw
          case rel =>
            refine ⟨k + 1, hlt, rfl, hX6, ?_⟩
            show _ = _
            rw [List.take_succ_eq_append_getElem hll, List.take_succ_eq_append_getElem hll', HT.out, ← HM.out, ← HM'.out, hMM]
          case measure => simp [intOf]; omega
        · rw [eqB_false hMM]
          go_wp2_with fail
          go_ret
          rw [eqB_false (fun e => hMM (by rw [HM.out, HM'.out]; simp only [e]))]
          exact ⟨rfl, hX6⟩
      · go_wp2_with fail
        go_ret
        rw [eqB_true (by
          have := HT.out
          rwa [List.take_of_length_le (by rw [HL.out]; simp; rw [← HN.out]; omega), List.take_of_length_le (by rw [HL'.out]; simp; rw [← HN'.out]; omega)] at this)]
        exact ⟨rfl, hE⟩
  · have hne : ps.map (·.1) ≠ ps'.map (·.1) := fun e => hlen (by have := congrArg List.length e; simpa using this)
    have HB := Lib.hid (eqB_false hne)
    go_enter Tryz.func45, Tryz.ntmps45
    go_wp2
    go_ret
    exact ⟨by rw [HB.out]; rfl, Ext.refl w⟩

set_option maxRecDepth 100000 in
set_option maxHeartbeats 4000000 in
theorem partSame_any (k k' : ByteArray) (g g' : Int) (u u' : Value) (ps ps' : List (Ro × Value)) (w : World) (hin : RowsIn w u ps) (hin' : RowsIn w u' ps') :
    Calls Tryz.prog 24 #[.agg #[.string k, .int .i64 g, u], .agg #[.string k', .int .i64 g', u']] w fun e w' => e = .returned (.bool (eqB (k, g, ps.map (·.1)) (k', g', ps'.map (·.1)))) ∧ Ext w w' := by
  by_cases hg : g = g'
  · subst hg
    go_enter Tryz.func24, Tryz.ntmps24
    go_wp2_with fail
    rotate_left
    · rename_i h
      go_ret
      exact ⟨by rw [eqB_false (fun e => h (congrArg ByteArray.toList (congrArg Prod.fst e)))]; rfl, ((Ext.refl w).alloc _).alloc _⟩
    rename_i h1 _ _
    refine (eqRows_any u u' ps ps' _ (hin.ext (((Ext.refl w).alloc _).alloc _)) (hin'.ext (((Ext.refl w).alloc _).alloc _))).mono ?_
    rintro e w1 ⟨rfl, hE1⟩
    have he : eqB (ps.map (·.1)) (ps'.map (·.1)) = eqB (k, g, ps.map (·.1)) (k', g, ps'.map (·.1)) := by
      by_cases h : ps.map (·.1) = ps'.map (·.1)
      · rw [eqB_true h, eqB_true (by rw [bytes_ext h1, h])]
      · rw [eqB_false h, eqB_false (fun e => h (congrArg (fun p => p.2.2) e))]
    rw [he]
    obtain ⟨B, hB⟩ : ∃ B, B = eqB (k, g, ps.map (·.1)) (k', g, ps'.map (·.1)) := ⟨_, rfl⟩
    rw [← hB]
    have HB := Lib.hid hB
    clear hB he h1
    go_wp2_with fail
    go_ret
    exact ⟨by rw [← HB.out]; rfl, (((Ext.refl w).alloc _).alloc _).trans hE1⟩
  · have hgb : (g == g') = false := by simpa using hg
    have hne := Lib.hid (eqB_false (fun e : (k, g, ps.map (·.1)) = (k', g', ps'.map (·.1)) => hg (congrArg (fun p => p.2.1) e)))
    clear hg
    go_enter Tryz.func24, Tryz.ntmps24
    go_wp2_with fail
    all_goals
      go_ret
      exact ⟨by rw [hne.out]; rfl, ((Ext.refl w).alloc _).alloc _⟩
end Go.Proofs.YtolkhjdododdaaaGreat

/- Which columns a view has: slices.Index, Contains at names, picker.not, slices.IndexFunc over columns. -/
namespace Go.Proofs.YtolkhjdododdaaaGreat
open Go Go.RowKit
attribute [local go_sem] yields yUpon

def StrsIn (w : World) (v : Value) (l : List ByteArray) : Prop := SliceIn w v l.length (l.map Value.string)
theorem StrsIn.ext {w w' : World} (hE : Ext w w') {v : Value} {l : List ByteArray} (h : StrsIn w v l) : StrsIn w' v l := SliceIn.ext hE h
theorem StrsIn.get {w : World} {v : Value} {l : List ByteArray} (h : StrsIn w v l) : ∃ a c, v = .slice a l.length c ∧ l.length ≤ c ∧ c ≤ 9223372036854775807 ∧ ∀ k (hk : k < l.length), ∃ b o, a = some ⟨b, o, none⟩ ∧ w.cell? ⟨b, o + k, none⟩ = some (.string l[k]) := by
  obtain ⟨a, c, rfl, hc, hcm, ha, hcell⟩ := h
  unfold maxLen at hcm
  exact ⟨a, c, rfl, hc, by omega, fun k hk => hcell k _ (by simp [hk])⟩
def hasS (l : List ByteArray) (x : ByteArray) : Bool := l.any fun s => x.toList == s.toList

set_option maxRecDepth 100000 in
set_option maxHeartbeats 1000000 in
theorem index_any (v : Value) (l : List ByteArray) (x : ByteArray) (w : World) (hin : StrsIn w v l) :
    Calls Tryz.prog 104 #[v, .string x] w fun e w' => ∃ i : Int, e = .returned (.int .i64 i) ∧ w = w' ∧ decide (0 ≤ i) = hasS l x := by
  obtain ⟨a, c, rfl, hc, hcm, hcell⟩ := hin.get
  have HC := Lib.hid hcell
  clear hcell hin
  go_enter Tryz.func104, Tryz.ntmps104
  go_wp2
  go_loop [8] (fun i => ∃ k : Nat, k ≤ l.length ∧ i = .int .i64 k ∧ Hid (hasS l x = hasS (l.drop k) x)) (fun i => l.length - (intOf i).toNat)
  case atStart => exact ⟨0, Nat.zero_le _, rfl, rfl⟩
  case round =>
    obtain ⟨k, hk, rfl, HX⟩ := hrel
    by_cases hlt : k < l.length
    · obtain ⟨b, o, rfl, hco⟩ := HC.out k hlt
      have hD : hasS (l.drop k) x = ((x.toList == l[k].toList) || hasS (l.drop (k + 1)) x) := by
        unfold hasS; rw [List.drop_eq_getElem_cons hlt]; rfl
      have HD := Lib.hid (HX.out.trans hD)
      clear hD HX
      cases hq : (x.toList == l[k].toList)
      · go_wp2_with fail
        go_round
        case rel => exact ⟨k + 1, by omega, by go_num, HD.out.trans (by rw [hq]; rfl)⟩
        case measure => simp [intOf] <;> omega
      · go_wp2_with fail
        go_ret
        exact ⟨_, rfl, rfl, (decide_eq_true (by omega)).trans (HD.out.trans (by rw [hq]; rfl)).symm⟩
    · go_wp2_with fail
      go_ret
      exact ⟨_, rfl, rfl, by rw [HX.out, List.drop_eq_nil_of_le (by omega)]; rfl⟩

set_option maxHeartbeats 1000000 in
theorem contains_any (v : Value) (l : List ByteArray) (x : ByteArray) (w : World) (hin : StrsIn w v l) :
    Calls Tryz.prog 99 #[v, .string x] w fun e w' => e = .returned (.bool (hasS l x)) ∧ w = w' := by
  obtain ⟨a, c, rfl, hc, hcm, _⟩ := hin.get
  go_enter Tryz.func99, Tryz.ntmps99
  go_wp2_with fail
  refine (index_any _ l x _ hin).mono ?_
  rintro e w1 ⟨i, rfl, rfl, hi⟩
  cases hb : hasS l x
  all_goals
    rw [hb] at hi
    have HB := Lib.hid hb
    clear hb
    go_wp2
    go_ret
    exact ⟨ret_bool HB.out.symm, rfl⟩

set_option maxHeartbeats 1000000 in
theorem not_any (v : Value) (l : List ByteArray) (c : Co) (w : World) (hin : StrsIn w v l) :
    Calls Tryz.prog 85 #[v, .agg #[.string c.name, .string c.cell.val, .bool c.cell.dead, .int .i64 c.cell.at_, .int .i64 c.cell.fin]] w fun e w' => e = .returned (.bool (!hasS l c.name)) ∧ Ext w w' := by
  obtain ⟨a, cp, rfl, hc, hcm, _⟩ := hin.get
  go_enter Tryz.func85, Tryz.ntmps85
  go_wp2_with fail
  refine (contains_any _ l c.name _ (hin.ext ((Ext.refl w).alloc _))).mono ?_
  rintro e w1 ⟨rfl, rfl⟩
  cases hb : hasS l c.name
  all_goals
    have HB := Lib.hid hb
    clear hb
    go_wp2
    go_ret
    exact ⟨ret_bool (by rw [HB.out]; rfl), (Ext.refl w).alloc _⟩

/-- A view's predicate, as it is handed on: struck is what is none of the names. -/
def strikes (l : List ByteArray) (c : Co) : Bool := !hasS l c.name
set_option maxRecDepth 100000 in
set_option maxHeartbeats 2000000 in
theorem indexFunc_any (v : Value) (l : List Co) (nv : Value) (ns : List ByteArray) (w : World) (hin : ColsIn w v l) (hns : StrsIn w nv ns) :
    Calls Tryz.prog 100 #[v, .func (.func 85) #[nv] #[]] w fun e w' => ∃ i : Int, e = .returned (.int .i64 i) ∧ Ext w w' ∧ ((i = -1 ∧ l.all (fun c => !strikes ns c) = true) ∨ ∃ k : Nat, i = k ∧ ∃ hk : k < l.length, strikes ns l[k] = true ∧ (l.take k).all (fun c => !strikes ns c) = true) := by
  obtain ⟨a, c, rfl, hc, hcm, hcell⟩ := hin.get
  have HC := Lib.hid hcell
  clear hcell hin
  go_enter Tryz.func100, Tryz.ntmps100
  go_wp2
  go_loopw [8] (fun i wr => ∃ k : Nat, k ≤ l.length ∧ i = .int .i64 k ∧ Ext w wr ∧ Hid ((l.take k).all (fun c => !strikes ns c) = true)) (fun i _ => l.length - (intOf i).toNat)
  case atStart => exact ⟨0, Nat.zero_le _, rfl, Ext.refl w, rfl⟩
  case round =>
    obtain ⟨k, hk, rfl, hE, HX⟩ := hrel
    by_cases hlt : k < l.length
    · obtain ⟨b, o, rfl, hco⟩ := HC.out k hlt
      obtain ⟨M, hM⟩ : ∃ M, M = l[k] := ⟨_, rfl⟩
      rw [← hM] at hco
      have hT : (l.take (k + 1)).all (fun c => !strikes ns c) = ((l.take k).all (fun c => !strikes ns c) && !strikes ns M) := by
        rw [List.take_succ_eq_append_getElem hlt, List.all_append, hM]; simp
      have HT := Lib.hid hT
      have HM := Lib.hid hM
      clear hT hM
      replace hco := hco.ext hE
      obtain ⟨g0, g1, g2, g3, g4⟩ := hco
      go_wp2_with fail
      refine (not_any nv ns M _ (hns.ext hE)).mono ?_
      rintro e w1 ⟨rfl, hE1⟩
      cases hb : hasS ns M.name
      all_goals
        have HB := Lib.hid hb
        clear hb g0 g1 g2 g3 g4
        go_wp2_with fail
      · go_ret
        exact ⟨_, rfl, hE.trans hE1, .inr ⟨k, rfl, hlt, by rw [← HM.out]; unfold strikes; rw [HB.out]; rfl, HX.out⟩⟩
      · go_roundw
        case rel => exact ⟨k + 1, by omega, by go_num, hE.trans hE1, HT.out.trans (by rw [HX.out]; unfold strikes; rw [HB.out]; rfl)⟩
        case measure => simp [intOf] <;> omega
    · obtain rfl : k = l.length := by omega
      go_wp2_with fail
      go_ret
      exact ⟨_, rfl, hE, .inl ⟨rfl, by have := HX.out; rw [List.take_length] at this; exact this⟩⟩
end Go.Proofs.YtolkhjdododdaaaGreat

/- slices.DeleteFunc over columns of one's own. -/
namespace Go.Proofs.YtolkhjdododdaaaGreat
open Go Go.RowKit
attribute [local go_sem] yields yUpon

theorem coCells_set (c : Co) : ∀ (l : List Co) (i : Nat), i < l.length → coCells (l.set i c) = (((((coCells l).set (i * 5) (.string c.name)).set (i * 5 + 1) (.string c.cell.val)).set (i * 5 + 2) (.bool c.cell.dead)).set (i * 5 + 3) (.int .i64 c.cell.at_)).set (i * 5 + 4) (.int .i64 c.cell.fin)
  | d :: l, 0, _ => by simp [coCells]
  | d :: l, i + 1, h => by
    have ih := coCells_set c l i (by simpa using h)
    have e : (i + 1) * 5 = i * 5 + 5 := by omega
    simp only [e, List.set_cons_succ, coCells, ih]
theorem own_cut {w : World} {B : Nat} {e : TypeId} {size : Nat} {g n cap : Nat} {X : List Value} (h : w.ownsRow B e size (.slice (some ⟨g, 0, none⟩) n cap) n X) {i : Nat} (hi : i ≤ n) : w.ownsRow B e size (.slice (some ⟨g, 0, none⟩) i cap) i (X.take (i * size)) := by
  rcases h.2 with ⟨h', _⟩ | ⟨g', cap', cur, h', hb, hg, hnc, hcm, hcs, htake⟩
  · cases h'
  · cases h'
    refine ⟨?_, .inr ⟨_, _, cur, rfl, hb, hg, Nat.le_trans hi hnc, hcm, hcs, ?_⟩⟩
    · rw [List.length_take, h.1, Nat.min_eq_left (Nat.mul_le_mul_right _ hi)]
    · rw [← htake, List.take_take, Nat.min_eq_left (Nat.mul_le_mul_right _ hi)]
theorem setCells_own {B : Nat} {e : TypeId} {size g n cap : Nat} : ∀ (vs : List Value) (o : Nat) (w : World) (X : List Value), w.ownsRow B e size (.slice (some ⟨g, 0, none⟩) n cap) n X →
    ∃ X', (w.setCells g o vs).ownsRow B e size (.slice (some ⟨g, 0, none⟩) n cap) n X' ∧ X'.take o = X.take o ∧ w.grownBy (w.setCells g o vs) (some g)
  | [], o, w, X, h => ⟨X, h, rfl, grownBy_refl w _⟩
  | u :: vs, o, w, X, h => by
    obtain ⟨h1, h2⟩ := h.stored o u
    obtain ⟨X', h3, h4, h5⟩ := setCells_own vs (o + 1) _ _ h1
    refine ⟨X', h3, ?_, grownBy_trans h2 h5⟩
    have := congrArg (List.take o) h4
    rw [List.take_take, List.take_take, Nat.min_eq_left (Nat.le_succ o)] at this
    rw [this, List.take_set_of_le (Nat.le_refl o)]
theorem und_Cols' : Tryz.prog.underlying 52 = some (.slice 57) := und_Cols
theorem zero_Col (w : World) : (zeroValue 57).run Tryz.prog w = .ok (.agg #[.string ⟨#[]⟩, .string ⟨#[]⟩, .bool false, .int .i64 0, .int .i64 0]) w := Tryz.zeroValue57 w
/-- 'clear' on some of a row of one's own. -/
theorem run_clear_own {B g n cap : Nat} {w : World} {X : List Value} (h : w.ownsRow B 57 5 (.slice (some ⟨g, 0, none⟩) n cap) n X) (o m c : Nat) (ty : TypeId) (hm : 0 < m) (hom : o + m * 5 ≤ n * 5) :
    ∃ w' X', (Builtin.clear_ #[52] ty #[.slice (some ⟨g, o, none⟩) m c]).run Tryz.prog w = .ok (.tuple #[]) w' ∧ w'.ownsRow B 57 5 (.slice (some ⟨g, 0, none⟩) n cap) n X' ∧ X'.take o = X.take o ∧ w.grownBy w' (some g) := by
  obtain ⟨zs, hz⟩ : ∃ zs, zs = (Builtin.zeroCells (Value.agg #[.string ⟨#[]⟩, .string ⟨#[]⟩, .bool false, .int .i64 0, .int .i64 0]).cells m).toList := ⟨_, rfl⟩
  have hzl : zs.length = m * 5 := by rw [hz]; simp [Builtin.zeroCells, Value.cells]
  have hz1 : ∀ v ∈ zs, v.oneCell' = true := by
    intro v hv
    rw [hz] at hv
    simp only [Builtin.zeroCells, Array.toList_map, List.mem_map] at hv
    obtain ⟨i, _, rfl⟩ := hv
    have : i % 5 < 5 := Nat.mod_lt _ (by decide)
    simp only [Value.cells]
    obtain h | h | h | h | h : i % 5 = 0 ∨ i % 5 = 1 ∨ i % 5 = 2 ∨ i % 5 = 3 ∨ i % 5 = 4 := by omega
    all_goals simp [h, Value.oneCell']
  obtain ⟨X', h1, h2, h3⟩ := setCells_own zs o w X h
  have hg : ∃ cur : Array Value, w.heap[g]? = some (.cells cur 57 (0, 0)) ∧ n * 5 ≤ cur.size := by
    rcases h.2 with ⟨h', _⟩ | ⟨g', cap', cur, h', hb, hg, hnc, hcm, hcs, htake⟩
    · cases h'
    · cases h'
      exact ⟨cur, hg, by omega⟩
  obtain ⟨cur, hgc, hsz⟩ := hg
  have hst := run_storeCells_cells (P := Tryz.prog) g o zs 0 w (fun j hj => by rw [var_cell hgc]; simp; omega) (fun j hj => var_free hgc _) hz1
  simp only [Nat.add_zero] at hst
  refine ⟨_, X', ?_, h1, h2, h3⟩
  obtain ⟨k, rfl⟩ : ∃ k, m = k + 1 := ⟨m - 1, by omega⟩
  simp [Builtin.clear_, run_underlying und_Cols, zero_Col, ← hz, hst]

theorem own_put {B g n cap : Nat} {w : World} {X : List Co} (h : w.ownsRow B 57 5 (.slice (some ⟨g, 0, none⟩) n cap) n (coCells X)) (i : Nat) (hi : i < X.length) (M : Co) :
    (w.setCells g (i * 5) (co5 M).toList).ownsRow B 57 5 (.slice (some ⟨g, 0, none⟩) n cap) n (coCells (X.set i M)) ∧ w.grownBy (w.setCells g (i * 5) (co5 M).toList) (some g) := by
  rw [coCells_set M X i hi]
  obtain ⟨h1, g1⟩ := h.stored (i * 5) (.string M.name)
  obtain ⟨h2, g2⟩ := h1.stored (i * 5 + 1) (.string M.cell.val)
  obtain ⟨h3, g3⟩ := h2.stored (i * 5 + 2) (.bool M.cell.dead)
  obtain ⟨h4, g4⟩ := h3.stored (i * 5 + 3) (.int .i64 M.cell.at_)
  obtain ⟨h5, g5⟩ := h4.stored (i * 5 + 4) (.int .i64 M.cell.fin)
  exact ⟨h5, grownBy_trans g1 (grownBy_trans g2 (grownBy_trans g3 (grownBy_trans g4 g5)))⟩
theorem own_there {B g n cap : Nat} {w : World} {X : List Value} (h : w.ownsRow B 57 5 (.slice (some ⟨g, 0, none⟩) n cap) n X) (o m : Nat) (hm : o + m ≤ n * 5) : w.there g o m := by
  rcases h.2 with ⟨h', _⟩ | ⟨g', cap', cur, h', hb, hg, hnc, hcm, hcs, htake⟩
  · cases h'
  · cases h'
    exact fun j hj => ⟨by rw [var_cell hg]; simp; omega, var_free hg _⟩

def keeps (ns : List ByteArray) (c : Co) : Bool := !strikes ns c
theorem keep_start {ns : List ByteArray} {l : List Co} {k : Nat} (hk : k < l.length) (hs : strikes ns l[k] = true) (hp : (l.take k).all (fun c => !strikes ns c) = true) : l.take k = (l.take (k + 1)).filter (keeps ns) := by
  rw [List.take_succ_eq_append_getElem hk, List.filter_append]
  have h1 : (l.take k).filter (keeps ns) = l.take k := List.filter_eq_self.2 fun c hc => (List.all_eq_true.1 hp) c hc
  have h2 : [l[k]].filter (keeps ns) = [] := by simp [keeps, hs]
  rw [h1, h2, List.append_nil]
theorem keep_next {ns : List ByteArray} {l : List Co} {j : Nat} {M : Co} {R : List Co} (hd : l.drop j = M :: R) : (l.take (j + 1)).filter (keeps ns) = (l.take j).filter (keeps ns) ++ if strikes ns M = true then [] else [M] := by
  have hk : j < l.length := by
    rcases Nat.lt_or_ge j l.length with h | h
    · exact h
    · rw [List.drop_eq_nil_of_le h] at hd; cases hd
  have e : l[j] = M := by rw [List.drop_eq_getElem_cons hk] at hd; exact (List.cons.inj hd).1
  rw [List.take_succ_eq_append_getElem hk, e, List.filter_append]
  congr 1
  cases h : strikes ns M <;> simp [keeps, h]

set_option maxRecDepth 100000 in
set_option maxHeartbeats 4000000 in
theorem deleteFunc_any (v : Value) (l : List Co) (nv : Value) (ns : List ByteArray) (B : Nat) (w : World) (hB : B ≤ w.heap.size) (hlen : l.length ≤ 1000000) (hown : w.ownsRow B 57 5 v l.length (coCells l)) (hns : ∀ w', w.grownBy w' v.ownBlock → StrsIn w' nv ns) :
    Calls Tryz.prog 86 #[v, .func (.func 85) #[nv] #[]] w fun e w' => ∃ v', e = .returned v' ∧ w'.ownsRow B 57 5 v' (l.filter (keeps ns)).length (coCells (l.filter (keeps ns))) ∧ w.grownBy w' v.ownBlock := by
  have hcols := cols_own hown
  go_enter Tryz.func86, Tryz.ntmps86
  go_wp2_with fail
  refine (indexFunc_any v l nv ns _ hcols (hns w (grownBy_refl w _))).mono ?_
  rintro e w1 ⟨i, rfl, hE1, hcase⟩
  clear hcols
  rcases hcase with ⟨rfl, hall⟩ | ⟨k, rfl, hk, hs, hpre⟩
  · have hf : l.filter (keeps ns) = l := List.filter_eq_self.2 fun c hc => (List.all_eq_true.1 hall) c hc
    have HF := Lib.hid hf
    clear hall hf
    go_wp2_with fail
    go_ret
    exact ⟨_, rfl, by rw [HF.out]; exact ownsRow_ext hown hE1, grownBy_ext (grownBy_refl w _) hE1⟩
  · obtain ⟨g, cap, rfl, hcap, hcm⟩ : ∃ g cap, v = .slice (some ⟨g, 0, none⟩) l.length cap ∧ l.length ≤ cap ∧ cap ≤ 9223372036854775807 := by
      rcases hown.2 with ⟨_, h0⟩ | ⟨g, cap, cur, h', hb, hg, hnc, hcm, hcs, htake⟩
      · omega
      · unfold maxLen at hcm
        exact ⟨g, cap, h', hnc, by omega⟩
    have hw1 : w.grownBy w1 (some g) := grownBy_ext (grownBy_refl w _) hE1
    have hown1 := ownsRow_ext hown hE1
    have HS := Lib.hid (keep_start hk hs hpre)
    have hk1 : ((k : Int) == -1) = false := by simp only [beq_eq_false_iff_ne]; omega
    have hwk : IntKind.i64.wrap ((k : Int) + 1) = (k : Int) + 1 := by rw [IntKind.wrap_i64]; omega
    clear hs hpre hown hE1
    go_wp2_with fail
    go_loopw [5, 6] (fun si sj wr => ∃ (i j : Nat) (X : List Co), i < j ∧ j ≤ l.length ∧ si = .int .i64 i ∧ sj = .int .i64 j ∧ X.length = l.length ∧ wr.ownsRow B 57 5 (.slice (some ⟨g, 0, none⟩) l.length cap) l.length (coCells X) ∧ w.grownBy wr (some g) ∧ Hid (X.take i = (l.take j).filter (keeps ns)) ∧ Hid (X.drop j = l.drop j)) (fun _ sj _ => l.length - (intOf sj).toNat)
    case atStart => exact ⟨k, k + 1, l, by omega, hk, rfl, by go_num, rfl, hown1, hw1, HS, rfl⟩
    case round =>
      clear hown1 hw1
      obtain ⟨i, j, X, hij, hj, rfl, rfl, hXl, hownX, hgr, HT, HD⟩ := hrel
      by_cases hlt : j < l.length
      · have hcX := cols_own (l := X) (by rw [hXl]; exact hownX)
        obtain ⟨a', c', e', _, _, hcell⟩ := hcX.get
        obtain ⟨b, o, e2, hco⟩ := hcell j (by omega)
        obtain ⟨rfl, rfl⟩ : b = g ∧ o = 0 := by rw [e2] at e'; injection e' with h1 h2 h3; injection h1 with h4; injection h4 with h5 h6 h7; exact ⟨h5.symm, h6.symm⟩
        clear e' e2 hcell hcX
        obtain ⟨M, hM⟩ : ∃ M, M = X[j]'(by omega) := ⟨_, rfl⟩
        rw [← hM] at hco
        have hMl : l.drop j = M :: l.drop (j + 1) := by
          have h1 := HD.out
          rw [List.drop_eq_getElem_cons (show j < X.length by omega), ← hM, List.drop_eq_getElem_cons hlt] at h1
          rw [List.drop_eq_getElem_cons hlt, (List.cons.inj h1).1]
        have hKN := Lib.hid (keep_next (ns := ns) hMl)
        clear hM hMl
        obtain ⟨g0, g1, g2, g3, g4⟩ := hco
        rw [Nat.zero_add] at g0 g1 g2 g3 g4
        have hj1 : IntKind.i64.wrap ((j : Int) + 1) = (j : Int) + 1 := by rw [IntKind.wrap_i64]; omega
        have hi1 : IntKind.i64.wrap ((i : Int) + 1) = (i : Int) + 1 := by rw [IntKind.wrap_i64]; omega
        have hil : i < l.length := by omega
        go_wp2_with fail
        refine (not_any nv ns M _ ((hns wr hgr).ext ((Ext.refl _).alloc _))).mono ?_
        rintro e w3 ⟨rfl, hE3⟩
        have hbox3 := (BoxAt.made wr (co5 M) 57).ext hE3
        have hown3 := ownsRow_ext (ownsRow_ext hownX ((Ext.refl _).alloc _)) hE3
        have hgr3 := grownBy_ext (grownBy_ext hgr ((Ext.refl wr).alloc (.cells (co5 M) 57))) hE3
        clear g0 g1 g2 g3 g4 hE3 hownX hgr
        obtain ⟨x0, x1, x2, x3, x4⟩ := hbox3.co
        cases hb : hasS ns M.name
        · have HB := Lib.hid hb
          clear hb
          go_wp2_with fail
          go_roundw
          case rel =>
            refine ⟨i, j + 1, X, by omega, by omega, rfl, by go_num, hXl, hown3, hgr3, ?_, ?_⟩
            · show X.take i = _
              rw [hKN.out, HT.out, if_pos (by unfold strikes; rw [HB.out]; rfl), List.append_nil]
            · show X.drop (j + 1) = _
              rw [← List.drop_drop, ← List.drop_drop, HD.out]
          case measure => simp [intOf] <;> omega
        · have HB := Lib.hid hb
          clear hb
          go_wp2_with ((guard_target =~ wpList _ _ _ (Oper.mk none (Op.store _ (Operand.tmp 33) _) _ _ _ _ :: _) _ _); go_must (refine wpList_store_mid rfl 57 (.tmp 33) (.tmp 32) rfl b (i * 5) (co5 M) (by rfl) (by rfl) (own_there hown3 (i * 5) 5 (by omega)) (by kernel_rfl) (by simp [co5, Value.oneCell']) ?_))
          go_roundw
          case rel =>
            obtain ⟨ho, hg⟩ := own_put hown3 i (by omega) M
            refine ⟨i + 1, j + 1, X.set i M, by omega, by omega, by go_num, by go_num, by simpa using hXl, ho, grownBy_trans hgr3 hg, ?_, ?_⟩
            · show (X.set i M).take (i + 1) = _
              rw [hKN.out, if_neg (by unfold strikes; rw [HB.out]; decide), ← HT.out, List.take_succ_eq_append_getElem (by simp; omega), List.take_set_of_le (Nat.le_refl i)]
              simp
            · show (X.set i M).drop (j + 1) = _
              rw [List.drop_set_of_lt (by omega), ← List.drop_drop, ← List.drop_drop, HD.out]
          case measure => simp [intOf] <;> omega
      · obtain rfl : j = l.length := by omega
        rw [List.take_length] at HT
        obtain ⟨w4, X', he, ho4, htk, hg4⟩ := run_clear_own hownX (i * 5) (l.length - i) (cap - i) 0 (by omega) (by omega)
        have HE := Lib.hid he
        have hcut := own_cut ho4 (i := i) (by omega)
        rw [htk] at hcut
        have hXi : (coCells X).take (i * 5) = coCells (X.take i) := by
          have := coCells_append (X.take i) (X.drop i)
          rw [List.take_append_drop] at this
          rw [this, List.take_left' (by rw [coCells_length, List.length_take, Nat.min_eq_left (by omega)])]
        rw [hXi, HT.out] at hcut
        have hli : (l.filter (keeps ns)).length = i := by rw [← HT.out, List.length_take]; omega
        have HL := Lib.hid hli
        clear he ho4 htk hXi hli hownX
        have hil : i ≤ l.length := by omega
        go_wp2_with fail
        rw [HE.out]
        simp only [Result.andThen]
        rw [Oper.upon_value]
        go_wp2_with fail
        go_ret
        exact ⟨_, rfl, by rw [HL.out]; exact hcut, grownBy_trans hgr hg4⟩
end Go.Proofs.YtolkhjdododdaaaGreat
