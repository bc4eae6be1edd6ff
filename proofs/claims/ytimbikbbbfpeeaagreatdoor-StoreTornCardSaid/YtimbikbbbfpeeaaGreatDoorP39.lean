/- Records in blocks: the reference's reading, the scan as it goes on, sizes. Plain law. -/
import Derived.Test.YtimbikbbbfpeeaaGreatDoorP33
import Derived.Test.YtimbikbbbfpeeaaGreatDoorP6
import Derived.Test.YtimbikbbbfpeeaaGreatDoorP1
set_option linter.unusedSimpArgs false
set_option linter.unusedVariables false
namespace Go.Proofs.YtimbikbbbfpeeaaGreatDoor

/-- The reference's way: pieces without a look at sums. -/
def rwk (s : List UInt8) (at_ : Nat) : Option (List UInt8 × Nat) :=
  if gapOk s at_ = true then
    if h : at_ + gap at_ + 6 + pn s (at_ + gap at_) ≤ s.length then
      if (pk s (at_ + gap at_) == 1 || pk s (at_ + gap at_) == 4) then some (pb s (at_ + gap at_), at_ + gap at_ + 6 + pn s (at_ + gap at_))
      else (rwk s (at_ + gap at_ + 6 + pn s (at_ + gap at_))).map fun p => (pb s (at_ + gap at_) ++ p.1, p.2)
    else none
  else none
termination_by s.length - at_
decreasing_by omega
theorem rwk_of_rd (s : List UInt8) : ∀ (m : Nat) (b : Bool) (at_ : Nat) (p : List UInt8 × Nat), s.length - at_ ≤ m → rd s b at_ = some p → rwk s at_ = some p := by
  intro m
  induction m with
  | zero =>
    intro b at_ p hm h
    obtain ⟨bd, e⟩ := p
    obtain ⟨_, _, h3, h4⟩ := rd_spec h
    have := sput_pos b at_ bd
    omega
  | succ m ih =>
    intro b at_ p hm h
    rw [rd] at h
    by_cases hg : gapOk s at_ = true
    · rw [if_pos hg] at h
      by_cases ho : okP s b (at_ + gap at_) = true
      · rw [dif_pos ho] at h
        have hl := okP_len ho
        have ho' := ho
        simp only [okP, Bool.and_eq_true, decide_eq_true_eq] at ho'
        have h1 := ho'.1.1.1.1.1.2
        have h4 := ho'.1.1.1.1.2
        rw [rwk, if_pos hg, dif_pos hl]
        by_cases hmid : midB s (at_ + gap at_) = true
        · rw [if_pos hmid] at h
          have hk : (pk s (at_ + gap at_) == 1 || pk s (at_ + gap at_) == 4) = false := by
            simp only [midB, Bool.or_eq_true, beq_iff_eq] at hmid
            rcases hmid with hk | hk <;> rw [hk] <;> rfl
          rw [hk]
          cases hr : rd s true (at_ + gap at_ + 6 + pn s (at_ + gap at_)) with
          | none => rw [hr] at h; cases h
          | some q =>
            rw [hr] at h
            rw [ih true _ q (by omega) hr]
            exact h
        · rw [if_neg hmid] at h
          have hk : (pk s (at_ + gap at_) == 1 || pk s (at_ + gap at_) == 4) = true := by
            simp only [midB, Bool.or_eq_true, beq_iff_eq, not_or] at hmid
            simp only [Bool.or_eq_true, beq_iff_eq]
            omega
          rw [hk]
          exact h
      · rw [dif_neg ho] at h; cases h
    · rw [if_neg hg] at h; cases h
theorem rwk_le (s : List UInt8) : ∀ (m : Nat) (at_ : Nat) (b : List UInt8) (e : Nat), s.length - at_ ≤ m → rwk s at_ = some (b, e) → e ≤ s.length ∧ at_ ≤ e := by
  intro m
  induction m with
  | zero =>
    intro at_ b e hm h
    rw [rwk] at h
    split at h
    · split at h
      · omega
      · cases h
    · cases h
  | succ m ih =>
    intro at_ b e hm h
    rw [rwk] at h
    split at h
    · split at h
      · split at h
        · simp only [Option.some.injEq, Prod.mk.injEq] at h; omega
        · cases hr : rwk s (at_ + gap at_ + 6 + pn s (at_ + gap at_)) with
          | none => rw [hr] at h; cases h
          | some q =>
            obtain ⟨b2, e2⟩ := q
            rw [hr] at h
            simp only [Option.map_some, Option.some.injEq, Prod.mk.injEq] at h
            have := ih _ b2 e2 (by omega) hr
            omega
      · cases h
    · cases h
/-- What the reference makes of it. -/
theorem rd_of_rwk_none {s : List UInt8} {at_ : Nat} (h : rwk s at_ = none) : rd s false at_ = none := by
  cases hr : rd s false at_ with
  | none => rfl
  | some p => rw [rwk_of_rd s _ false at_ p (Nat.le_refl _) hr] at h; cases h
theorem rd_of_rwk_yes {s : List UInt8} {at_ e : Nat} {b : List UInt8} (h : rwk s at_ = some (b, e)) (hp : (s.drop at_).take (e - at_) = sput false at_ b) : rd s false at_ = some (b, e) := by
  obtain ⟨h1, h2⟩ := rwk_le s _ at_ b e (Nat.le_refl _) h
  have hd := take_drop_split s at_ (e - at_)
  rw [hp] at hd
  rw [rd_put hd]
  have := congrArg List.length hp
  simp at this
  simp only [Option.some.injEq, Prod.mk.injEq, true_and]
  omega
theorem rd_of_rwk_no {s : List UInt8} {at_ e : Nat} {b : List UInt8} (h : rwk s at_ = some (b, e)) (hp : (s.drop at_).take (e - at_) ≠ sput false at_ b) : rd s false at_ = none := by
  cases hr : rd s false at_ with
  | none => rfl
  | some p =>
    rw [rwk_of_rd s _ false at_ p (Nat.le_refl _) hr] at h
    cases h
    obtain ⟨_, h2, h3, h4⟩ := rd_spec hr
    exfalso
    apply hp
    rw [h2, h3]
    exact List.take_left' (by omega)

/-! ### The scan as it goes on -/
def resume (s : List UInt8) (at_ : Nat) (b : Bool) (under : List UInt8) (good : Nat) : List (List UInt8) × Nat :=
  match rd s b at_ with
  | none => ([], good)
  | some (bd, e) => ((under ++ bd) :: (scan s e).1, (scan s e).2)
theorem resume_new (s : List UInt8) (at_ : Nat) : resume s at_ false [] at_ = scan s at_ := by
  unfold resume
  cases h : rd s false at_ with
  | none => rw [scan_none h]
  | some p => obtain ⟨b, e⟩ := p; rw [scan_some h]; rfl
theorem resume_gap {s : List UInt8} {at_ : Nat} (b : Bool) (u : List UInt8) (g : Nat) (h : gapOk s at_ = false) : resume s at_ b u g = ([], g) := by
  unfold resume; rw [rd, if_neg (by rw [h]; decide)]
theorem resume_bad {s : List UInt8} {at_ : Nat} {b : Bool} (u : List UInt8) (g : Nat) (h : okP s b (at_ + gap at_) = false) : resume s at_ b u g = ([], g) := by
  unfold resume; rw [rd]
  split
  · rfl
  · rename_i hr
    split at hr
    · rw [dif_neg (by rw [h]; decide)] at hr; cases hr
    · cases hr
theorem resume_mid {s : List UInt8} {at_ : Nat} {b : Bool} (u : List UInt8) (g : Nat) (hg : gapOk s at_ = true) (h : okP s b (at_ + gap at_) = true) (hm : midB s (at_ + gap at_) = true) :
    resume s at_ b u g = resume s (at_ + gap at_ + 6 + pn s (at_ + gap at_)) true (u ++ pb s (at_ + gap at_)) g := by
  unfold resume
  rw [rd, if_pos hg, dif_pos h, if_pos hm]
  cases rd s true (at_ + gap at_ + 6 + pn s (at_ + gap at_)) with
  | none => rfl
  | some p => obtain ⟨bd, e⟩ := p; simp
theorem resume_end {s : List UInt8} {at_ : Nat} {b : Bool} (u : List UInt8) (g : Nat) (hg : gapOk s at_ = true) (h : okP s b (at_ + gap at_) = true) (hm : midB s (at_ + gap at_) = false) :
    resume s at_ b u g = ((u ++ pb s (at_ + gap at_)) :: (scan s (at_ + gap at_ + 6 + pn s (at_ + gap at_))).1, (scan s (at_ + gap at_ + 6 + pn s (at_ + gap at_))).2) := by
  unfold resume
  rw [rd, if_pos hg, dif_pos h, if_neg (by rw [hm]; decide)]

/-! ### Sizes -/
theorem sput_same (n : Nat) : ∀ (k : Nat) (b b' : Bool) (x y : List UInt8), x.length ≤ k → x.length = y.length → (sput b n x).length = (sput b' n y).length := by
  intro k
  induction k generalizing n with
  | zero =>
    intro b b' x y hk h
    rw [sput_last (b := b) (n := n) (body := x) (by omega), sput_last (b := b') (n := n) (body := y) (by omega)]
    simp [h]
  | succ k ih =>
    intro b b' x y hk h
    by_cases hr : x.length ≤ room n
    · rw [sput_last hr, sput_last (b := b') (n := n) (body := y) (by omega)]; simp [h]
    · rw [sput_more hr, sput_more (b := b') (n := n) (body := y) (by omega)]
      have := room_pos n
      have e := ih (n + gap n + (6 + room n)) true true (x.drop (room n)) (y.drop (room n)) (by simp; omega) (by simp; omega)
      simp only [List.length_append, zer_length, pc_length, List.length_take, e]
      omega
/-- How many bytes a body of m bytes takes behind n bytes. -/
def lenS (n m : Nat) : Nat := (sput false n (zer m)).length
theorem sput_lenS (b : Bool) (n : Nat) (x : List UInt8) : (sput b n x).length = lenS n x.length := sput_same n _ b false x _ (Nat.le_refl _) (by simp)
theorem lenS_last {n m : Nat} (h : m ≤ room n) : lenS n m = gap n + (6 + m) := by
  unfold lenS; rw [sput_last (by simpa using h)]; simp
theorem lenS_more {n m : Nat} (h : ¬ m ≤ room n) : lenS n m = gap n + (6 + room n) + lenS (n + gap n + (6 + room n)) (m - room n) := by
  conv => lhs; unfold lenS
  rw [sput_more (by simpa using h)]
  have e : ((zer m).drop (room n)) = zer (m - room n) := by simp [zer]
  rw [e]
  simp only [List.length_append, zer_length, pc_length, List.length_take]
  rw [sput_lenS, zer_length]
  omega
theorem lenS_pos (n m : Nat) : 6 + m ≤ lenS n m := by
  have := sput_pos false n (zer m); simpa [lenS] using this
theorem lenS_le : ∀ (k n m : Nat), m ≤ k → lenS n m ≤ 12 + 7 * m := by
  intro k
  induction k with
  | zero => intro n m h; rw [lenS_last (by omega)]; unfold gap; split <;> omega
  | succ k ih =>
    intro n m h
    by_cases hr : m ≤ room n
    · rw [lenS_last hr]; unfold gap; split <;> omega
    · rw [lenS_more hr]
      have h1 := room_pos n
      have hz := gap_full n
      have h2 := ih (n + gap n + (6 + room n)) (m - room n) (by omega)
      by_cases hm : m - room n ≤ 122
      · rw [lenS_last (by rw [room_zero hz]; exact hm), gap_zero hz]
        unfold gap; split <;> omega
      · have h3 : lenS (n + gap n + (6 + room n)) (m - room n) = _ := lenS_more (by rw [room_zero hz]; exact hm)
        rw [h3, gap_zero hz, room_zero hz]
        have h4 := ih (n + gap n + (6 + room n) + 0 + (6 + 122)) (m - room n - 122) (by omega)
        have : gap n ≤ 6 := by unfold gap; split <;> omega
        omega
end Go.Proofs.YtimbikbbbfpeeaaGreatDoor

/- Package token (and clerestoryref03): places of texts. (what a smaller cut has) -/
namespace Go.Proofs.YtimbikbbbfpeeaaGreatDoor
open Go Go.RowKit
attribute [local go_sem] yields yUpon

set_option maxHeartbeats 400000 in
theorem tcut_any (t : Int) (h0 : 0 ≤ t) (h1 : t < 2147483647) (w : World) :
    Calls Tryz.prog 98 #[.int .i64 t] w fun e w' => e = .returned (.int .i64 t) ∧ w = w' := by
  have h2 : max 0 (min t 2147483646) = t := by omega
  have H2 := Lib.hid h2
  clear h2
  go_enter Tryz.func98, Tryz.ntmps98
  go_wp2
  all_goals
    go_ret
    first | exact ⟨ret_int H2.out, rfl⟩ | exact ⟨ret_int (by omega), rfl⟩

set_option maxHeartbeats 400000 in
theorem tround_any (p : Nat) (t b : Int) (e : TypeId) (h0 : 0 ≤ t) (h1 : t < 2147483647) (b0 : 0 ≤ b) (b1 : b < 256) (w : World) (hb : BoxAt w p #[.int .i64 t] e) :
    Calls Tryz.prog 147 #[.int .u8 b, .pointer (some ⟨p, 0, none⟩)] w fun e w' => e = .returned (.tuple #[]) ∧ w' = w.setCell ⟨p, 0, none⟩ (.int .i64 ((257 * t + b + 1) % 2147483647)) := by
  have c0 := hb.cell 0
  have f0 := hb.free 0
  simp at c0
  go_enter Tryz.func147, Tryz.ntmps147
  go_wp2
  go_end0
  exact ⟨rfl, rfl⟩

theorem tok_step (t : Nat) (l : List UInt8) (k : Nat) (h : k < l.length) : (257 * (tok t (l.take k) : Int) + ((l[k]).toNat : Int) + 1) % 2147483647 = (tok t (l.take (k + 1)) : Int) := by
  rw [List.take_succ_eq_append_getElem h, tok_snoc]
  omega

set_option maxHeartbeats 1000000 in
theorem tmore_any (t : Nat) (ht : t < 2147483647) (s : ByteArray) (hs : s.size ≤ maxLen) (w : World) :
    Calls Tryz.prog 99 #[.int .i64 (t : Int), .string s] w fun e w' => e = .returned (.int .i64 (tok t s.data.toList : Int)) ∧ Ext w w' := by
  unfold maxLen at hs
  have E1 := (Ext.refl w).alloc (.cells #[.int .i64 (t : Int)] 3)
  have hb := BoxAt.made w #[.int .i64 (t : Int)] 3
  have c0 := hb.cell 0
  have f0 := hb.free 0
  simp at c0
  go_enter Tryz.func99, Tryz.ntmps99
  go_wp2_with (go_at_call 98; go_must (refine (tcut_any _ (by omega) (by omega) _).mono ?_); rintro e w1 ⟨rfl, rfl⟩)
  go_loopw [6, 12] (fun _ i wr => ∃ k : Nat, k ≤ s.size ∧ i = .int .i64 k ∧ BoxAt wr w.heap.size #[.int .i64 (tok t (s.data.toList.take k) : Int)] 3 ∧ Ext w wr) (fun _ i _ => s.size - (intOf i).toNat)
  case atStart => exact ⟨0, Nat.zero_le _, rfl, hb, E1⟩
  case round =>
    obtain ⟨k, hk, rfl, hbox, hE⟩ := hrel
    have hlt := tok_lt (s.data.toList.take k) t ht
    by_cases hks : k < s.size
    · have hst : (257 * (tok t (s.data.toList.take k) : Int) + (s[k].toNat : Int) + 1) % 2147483647 = (tok t (s.data.toList.take (k + 1)) : Int) := tok_step t s.data.toList k hks
      have hb2 := hbox.set 0 (.int .i64 ((257 * (tok t (s.data.toList.take k) : Int) + (s[k].toNat : Int) + 1) % 2147483647))
      have HS := Lib.hid hst
      have hbyte := s[k].toNat_lt
      clear hst c0 f0
      go_wp2_with fail
      refine (tround_any w.heap.size _ _ 3 (by omega) (by omega) (by omega) (by omega) _ hbox).mono ?_
      rintro e w2 ⟨rfl, rfl⟩
      go_wp2
      go_roundw
      case rel => exact ⟨k + 1, by omega, by go_num, by rw [← HS.out]; exact hb2, hE.setCell (Nat.le_refl _) _⟩
      case measure => simp [intOf]; omega
    · obtain rfl : k = s.size := by omega
      have e : s.data.toList.take s.size = s.data.toList := List.take_of_length_le (Nat.le_of_eq rfl)
      rw [e] at hbox
      have c1 := hbox.cell 0
      simp at c1
      clear c0 f0
      go_wp2
      go_ret
      exact ⟨rfl, hE⟩

theorem tof_any (s : ByteArray) (hs : s.size ≤ maxLen) (w : World) :
    Calls Tryz.prog 59 #[.string s] w fun e w' => e = .returned (.int .i64 (tok 1 s.data.toList : Int)) ∧ Ext w w' := by
  go_enter Tryz.func59, Tryz.ntmps59
  go_wp2_with fail
  refine (tmore_any 1 (by decide) s hs _).mono ?_
  rintro e w1 ⟨rfl, hE⟩
  go_wp2
  go_ret
  exact ⟨rfl, hE⟩
end Go.Proofs.YtimbikbbbfpeeaaGreatDoor

/- Package token (and clerestoryref03): places of texts, as four bytes. (what a smaller cut has) -/
namespace Go.Proofs.YtimbikbbbfpeeaaGreatDoor
open Go Go.RowKit
attribute [local go_sem] yields yUpon

theorem tok4_cells (t : Nat) (ht : t < 2147483647) : (#[Value.int .u8 ((t : Int) / 16777216), Value.int .u8 ((t : Int) / 65536 % 256), Value.int .u8 ((t : Int) / 256 % 256), Value.int .u8 ((t : Int) % 256)] : Array Value).toList = bcells (tok4 t) := by
  simp only [tok4, bcells, List.map_cons, List.map_nil, UInt8.toNat_ofNat']
  congr 1
  congr 1
  omega
theorem tok4_bytes (t : Nat) (ht : t < 2147483647) (e : TypeId) (w : World) : BytesIn (w.alloc (.cells #[Value.int .u8 ((t : Int) / 16777216), Value.int .u8 ((t : Int) / 65536 % 256), Value.int .u8 ((t : Int) / 256 % 256), Value.int .u8 ((t : Int) % 256)] e)) (.slice (some ⟨w.heap.size, 0, none⟩) 4 4) (tok4 t) := by
  have h := SliceIn.made w #[Value.int .u8 ((t : Int) / 16777216), Value.int .u8 ((t : Int) / 65536 % 256), Value.int .u8 ((t : Int) / 256 % 256), Value.int .u8 ((t : Int) % 256)] e 4 (by decide)
  rw [tok4_cells t ht] at h
  exact h

set_option maxRecDepth 100000 in
set_option maxHeartbeats 2000000 in
theorem tbytes_any (t : Nat) (ht : t < 2147483647) (w : World) :
    Calls Tryz.prog 58 #[.int .i64 (t : Int)] w fun e w' => e = .returned (.string (str (tok4 t))) ∧ Ext w w' := by
  go_enter Tryz.func58, Tryz.ntmps58
  go_wp2_with (go_at_call 98; go_must (refine (tcut_any _ (by omega) (by omega) _).mono ?_); rintro e w1 ⟨rfl, rfl⟩)
  refine wp_loop_rounds 5 ?_
  rw [rounds_succ]
  go_wp2
  rw [rounds_succ]
  go_wp2
  rw [rounds_succ]
  go_wp2
  rw [rounds_succ]
  go_wp2
  rw [rounds_succ]
  go_wp2
  rw [run_convert_bytesIn _ 61 9 5 und_bytes und_u8 und_string (tok4_bytes t ht _ _)]
  simp only [Result.andThen]
  rw [Oper.upon_value]
  go_wp2
  go_ret
  exact ⟨rfl, (Ext.refl w).alloc _⟩

theorem i64_or8 (x y : Int) (hx0 : 0 ≤ x) (hx : x % 256 = 0) (hx1 : x < 4611686018427387904) (hy0 : 0 ≤ y) (hy : y < 256) : bits .or .i64 x y = x + y := by
  refine bits_join .i64 62 (by decide) (fun n h0 h1 => ?_) 8 x y hx0 (by simpa using hx) (by simpa using hx1) hy0 (by simpa using hy) (by have : y < 256 := hy; show y < 2 ^ 62; omega)
  exact IntWalk.i64_in _ (by omega)

set_option maxRecDepth 100000 in
set_option maxHeartbeats 2000000 in
theorem tnumber_any (a b c d : UInt8) (w : World) :
    Calls Tryz.prog 106 #[.string ⟨#[a, b, c, d]⟩] w fun e w' => e = .returned (if num4 a b c d < 2147483647 then .tuple #[.int .i64 (num4 a b c d : Int), .bool true] else .tuple #[.int .i64 0, .bool false]) ∧ w = w' := by
  have ha := a.toNat_lt
  have hb := b.toNat_lt
  have hc := c.toNat_lt
  have hd := d.toNat_lt
  obtain ⟨A, hA⟩ : ∃ A : Nat, a.toNat = A := ⟨_, rfl⟩
  obtain ⟨B, hB⟩ : ∃ A : Nat, b.toNat = A := ⟨_, rfl⟩
  obtain ⟨C, hC⟩ : ∃ A : Nat, c.toNat = A := ⟨_, rfl⟩
  obtain ⟨D, hD⟩ : ∃ A : Nat, d.toNat = A := ⟨_, rfl⟩
  rw [hA] at ha
  rw [hB] at hb
  rw [hC] at hc
  rw [hD] at hd
  have ha' : (A : Int) < 256 := by omega
  have hb' : (B : Int) < 256 := by omega
  have hc' : (C : Int) < 256 := by omega
  have hd' : (D : Int) < 256 := by omega
  have HN : Hid ((num4 a b c d : Int) = ((A * 256 + B) * 256 + C) * 256 + D) := Lib.hid (by unfold num4; rw [hA, hB, hC, hD]; omega)
  have e0 : (({ data := #[a, b, c, d] } : ByteArray)[0]'(by show 0 < 4; omega)).toNat = A := hA
  have e1 : (({ data := #[a, b, c, d] } : ByteArray)[1]'(by show 1 < 4; omega)).toNat = B := hB
  have e2 : (({ data := #[a, b, c, d] } : ByteArray)[2]'(by show 2 < 4; omega)).toNat = C := hC
  have e3 : (({ data := #[a, b, c, d] } : ByteArray)[3]'(by show 3 < 4; omega)).toNat = D := hD
  have o0 : bits .or .i64 0 (A : Int) = (A : Int) := by rw [i64_or8 _ _ (by omega) (by omega) (by omega) (by omega) (by omega)]; omega
  have o1 : bits .or .i64 ((A : Int) * 256) (B : Int) = (A : Int) * 256 + B := i64_or8 _ _ (by omega) (by omega) (by omega) (by omega) (by omega)
  have o2 : bits .or .i64 (((A : Int) * 256 + B) * 256) (C : Int) = ((A : Int) * 256 + B) * 256 + C := i64_or8 _ _ (by omega) (by omega) (by omega) (by omega) (by omega)
  have o3 : bits .or .i64 ((((A : Int) * 256 + B) * 256 + C) * 256) (D : Int) = (((A : Int) * 256 + B) * 256 + C) * 256 + D := i64_or8 _ _ (by omega) (by omega) (by omega) (by omega) (by omega)
  clear ha hb hc hd hA hB hC hD
  by_cases hn : num4 a b c d < 2147483647
  all_goals
    have hn' := hn
    first | rw [if_pos hn] | rw [if_neg hn]
    have hs2 := HN.out
    obtain ⟨V, hV⟩ : ∃ V : Int, V = (((A : Int) * 256 + B) * 256 + C) * 256 + D := ⟨_, rfl⟩
    rw [← hV] at o3 hs2
    have HV := Lib.hid hs2
  · rw [HV.out]
    have hs3 : V < 2147483647 := by omega
    have hs4 : 0 ≤ V := by omega
    clear hV hs2 hn' hn
    go_enter Tryz.func106, Tryz.ntmps106
    go_wp2
    refine wp_loop_rounds 5 ?_
    rw [rounds_succ]
    go_wp2
    rw [rounds_succ]
    go_wp2
    rw [rounds_succ]
    go_wp2
    rw [rounds_succ]
    go_wp2
    rw [rounds_succ]
    go_wp2
    go_ret2
    exact ⟨rfl, rfl⟩
  · have hs3 : 2147483647 ≤ V := by omega
    have hs4 : 0 ≤ V := by omega
    clear hV hs2 hn' hn
    go_enter Tryz.func106, Tryz.ntmps106
    go_wp2
    refine wp_loop_rounds 5 ?_
    rw [rounds_succ]
    go_wp2
    rw [rounds_succ]
    go_wp2
    rw [rounds_succ]
    go_wp2
    rw [rounds_succ]
    go_wp2
    rw [rounds_succ]
    go_wp2
    go_ret2
    exact ⟨rfl, rfl⟩
end Go.Proofs.YtimbikbbbfpeeaaGreatDoor
