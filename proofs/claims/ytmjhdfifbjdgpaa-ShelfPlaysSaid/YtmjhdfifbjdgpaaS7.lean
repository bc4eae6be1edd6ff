/- clerestoryref05: Put. -/
import Derived.Test.YtmjhdfifbjdgpaaS6
import Derived.Test.YtmjhdfifbjdgpaaS5
import Derived.Sort.OwnSortedInts
import Derived.Maps.Ext
set_option linter.unusedSimpArgs false
set_option linter.unusedVariables false
namespace Go.Proofs.Ytmjhdfifbjdgpaa
open Go Go.RowKit
attribute [local go_sem] yields yUpon

/-- The two appends of the region. -/
def pPut (k : Nat) (X N R : List Value) (j : Nat) : Option (Nat × List Value × List Value) := if j = 6 then some (k, X, N) else if j = 13 then some (k + 1, X ++ N, R) else none
theorem pPut_none {k : Nat} {X N R : List Value} {j : Nat} (h4 : j ≠ 6) (h11 : j ≠ 13) : pPut k X N R j = none := by unfold pPut; rw [if_neg h4, if_neg h11]
theorem pPut_some {k k' : Nat} {X N R X' N' : List Value} {j : Nat} (h : pPut k X N R j = some (k', X', N')) : (j = 6 ∧ k' = k ∧ X' = X ∧ N' = N) ∨ (j = 13 ∧ k' = k + 1 ∧ X' = X ++ N ∧ N' = R) := by
  unfold pPut at h
  split at h
  · cases h; exact .inl ⟨by assumption, rfl, rfl, rfl⟩
  · split at h
    · cases h; exact .inr ⟨by assumption, rfl, rfl, rfl⟩
    · cases h
/-- What stays true in the region. -/
structure PutC (w1 : World) (T : TypeId) (v : Value) (k : Nat) (X : List Value) (x : World) : Prop where
  ext : Ext w1 x
  own : x.ownsRow w1.heap.size T 2 v k X
theorem PutC.grow {w1 : World} {T : TypeId} {v : Value} {k : Nat} {X : List Value} {x y : World} (h : PutC w1 T v k X x) (hE : Ext x y) : PutC w1 T v k X y := ⟨h.ext.trans hE, ownsRow_ext h.own hE⟩
theorem PutC.app {w1 : World} {T : TypeId} {v : Value} {k k' : Nat} {X X' N : List Value} {x y : World} (h : PutC w1 T v k X x) (hA : AppE T 2 w1.heap.size k' X' N x y) (hk : k ≤ k') : PutC w1 T v k X y := ⟨hA.to (Nat.le_refl _) h.ext, hA.keep_short h.own hk⟩

theorem putE_box {T U : TypeId} {S k : Nat} {X R : List Value} {u0 u1 : Value} {j : Nat} {x y : World} (h : NE T 2 S (pPut k X [u0, u1] R) j x y) {b : Nat} (hb : BoxAt x b #[u0, u1] U) : BoxAt y b #[u0, u1] U :=
  NE_box h hb fun k' X' N' hp _ i u hu h1 h2 => by
    have hi : i < 2 := by have := (Array.getElem?_eq_some_iff.1 hu).1; simpa using this
    rcases pPut_some hp with ⟨_, rfl, rfl, rfl⟩ | ⟨_, rfl, rfl, rfl⟩
    · have hk0 : k' = 0 ∨ 0 < k' := by omega
      rcases hk0 with rfl | hk0
      · simpa using hu
      · omega
    · omega
theorem putE_mid {T : TypeId} {S k : Nat} {X N R : List Value} {j : Nat} (hj : j ≠ 6) {x y : World} (h : NE T 2 S (pPut k X N R) j x y) {v : Value} (ho : x.ownsRow S T 2 v (k + 1) (X ++ N)) : y.ownsRow S T 2 v (k + 1) (X ++ N) :=
  NE_own h ho fun k' X' N' hp i u hu h1 h2 => by
    rcases pPut_some hp with ⟨e, _⟩ | ⟨_, rfl, rfl, rfl⟩
    · exact absurd e hj
    · have := (List.getElem?_eq_some_iff.1 hu).1
      rw [ho.1] at this
      omega
theorem putE_end {T : TypeId} {S k m : Nat} {X N R : List Value} (hX : X.length = k * 2) {j : Nat} (hj : j ≠ 13) {x y : World} (h : NE T 2 S (pPut k X N R) j x y) {v : Value} (ho : x.ownsRow S T 2 v m (X ++ N ++ R)) : y.ownsRow S T 2 v m (X ++ N ++ R) :=
  NE_own h ho fun k' X' N' hp i u hu h1 h2 => by
    rcases pPut_some hp with ⟨_, rfl, rfl, rfl⟩ | ⟨e, _⟩
    · rw [List.append_assoc, List.getElem?_append_right (by omega), hX, List.getElem?_append_left (by omega)] at hu
      exact hu
    · exact absurd e hj

section
variable {q : Nat} {log : ByteArray} {syn : Nat} {F : Fl} {man : ByteArray}
set_option maxRecDepth 100000 in
set_option maxHeartbeats 8000000 in
theorem r5_put_new (n : Int) (b : ByteArray) (hb : b.size ≤ 1000000) (w : World) (h : S5At w q log syn F man) (hr : Rises F) (a1 : ¬ n < 1) (a2 : ¬ 1099511627776 < n) (hh : fhas n F = false) (a4 : ¬ 262144 < (b.size : Int)) (a5 : ¬ 40 ≤ (F.length : Int)) :
    Calls Try.prog 61 #[.pointer (some ⟨q, 0, none⟩), .int .i64 n, .string b] w fun e w' => (e = .returned (.int .i64 0) ∧ Touch w w' [q]) ∧ S5At w' q log syn (fput n b.data.toList F) man := by
  rw [fput_at hh]
  obtain ⟨k, hk⟩ : ∃ k, k = fat n F := ⟨_, rfl⟩
  have hl : k ≤ F.length := by rw [hk]; exact fat_le n F
  rw [← hk]
  have HK := Lib.hid hk
  obtain ⟨m, hm⟩ : ∃ m, m = F.length := ⟨_, rfl⟩
  rw [← hm] at hl a5
  have HM := Lib.hid hm
  obtain ⟨X, hX⟩ : ∃ X, X = ncells (F.take k) := ⟨_, rfl⟩
  obtain ⟨R, hR⟩ : ∃ R, R = ncells (F.drop k) := ⟨_, rfl⟩
  have hXl : X.length = k * 2 := by rw [hX, ncells_length, List.length_take]; omega
  have hRl : R.length = (m - k) * 2 := by rw [hR, ncells_length, List.length_drop]; omega
  have hX1 : ∀ u ∈ X, u.oneCell' = true := by rw [hX]; exact ncells_one _
  have hR1 : ∀ u ∈ R, u.oneCell' = true := by rw [hR]; exact ncells_one _
  have HX := Lib.hid hX
  have HR := Lib.hid hR
  clear hk hm hX hR
  go_enter Try.func61, Try.ntmps61
  go_wp2_with (first
    | (go_at_call 57; go_must (refine (r5_at n w h hr).mono ?_); rintro e w1 ⟨rfl, hE1⟩; rw [hh, ← HK.out]; have h1 := h.ext hE1; obtain ⟨v, hqx, hown⟩ := h1.box; have hin : NotesIn w1 v F := SliceIn.of_owns hown; obtain ⟨a, c, rfl, hc, hcm, _⟩ := hin.get; rw [← HM.out] at hqx hin hc; have c0 : w1.cell? ⟨q, 2, none⟩ = some (.slice a m c) := hqx.cell 2; have hin1 := notes_take hin hl HM.out; have hin2 := notes_drop hin hl HM.out; have hin1' : SliceIn w1 (.slice a k c) k X := (by have e : (F.take k).length = k := (by rw [List.length_take]; have := HM.out; omega); unfold NotesIn at hin1; rw [← HX.out, e] at hin1; exact hin1); have hin2' : SliceIn w1 (dropV a m c k 2) (m - k) R := (by have e : (F.drop k).length = m - k := (by rw [List.length_drop]; have := HM.out; omega); unfold NotesIn at hin2; rw [← HR.out, e] at hin2; exact hin2); clear hin1 hin2 hin hown)
    | ((guard_target =~ wpList _ _ _ (Oper.mk (some 44) _ _ _ _ _ :: _) _ _); go_must (refine wpList_cloneS rfl info_F und_Fs rfl (by decide) (.const (.slice none 0 0)) (.tmp 43) rfl (by rfl) hin1' (by rfl) hXl hX1 (by unfold maxLen; omega) (by omega) ?_); intro v7 w7 ho7 hE7; obtain ⟨a7, c7, rfl⟩ := own_shape ho7))
  have hC0 : PutC w1 117 (.slice a7 k c7) k X w7.drew := ⟨hE7.drew, ownsRow_ext ho7 (Ext.refl w7).drew⟩
  refine wp_region_relE (PutC w1 117 (.slice a7 k c7) k X) (NE 117 2 w1.heap.size (pPut k X [.int .i64 n, .string b] R))
    (Tab.atE [(5, fun v x => ∃ bb, v = .slice (some ⟨bb, 0, none⟩) 1 1 ∧ BoxAt x bb #[.int .i64 n, .string b] 117), (6, fun v x => x.ownsRow w1.heap.size 117 2 v (k + 1) (X ++ [.int .i64 n, .string b])), (8, fun v _ => v = .pointer (some ⟨q, 0, none⟩)), (10, fun v _ => v = .slice a m c), (12, fun v _ => v = dropV a m c k 2), (13, fun v x => x.ownsRow w1.heap.size 117 2 v (k + 1 + (m - k)) (X ++ [.int .i64 n, .string b] ++ R)), (14, fun v _ => v = .pointer (some ⟨q, 0, none⟩))])
    (Tab.staysE ⟨fun j hj v x y hR ⟨bb, e, hx⟩ => ⟨bb, e, putE_box hR hx⟩, fun j hj v x y hR hx => putE_mid hj hR hx, fun _ _ _ _ _ _ h => h, fun _ _ _ _ _ _ h => h, fun _ _ _ _ _ _ h => h, fun j hj v x y hR hx => putE_end hXl hj hR hx, fun _ _ _ _ _ _ h => h, trivial⟩)
    16 (by kernel_rfl) (by kernel_rfl) (by kernel_rfl) hC0 ?_
  refine relE_quiet rfl rfl rfl rfl ?_; intro K hK; go_big_quiet_op; (first | refine ⟨_, fun _ _ => rfl, hK _ ?_⟩ | refine hK _ ?_); clear hK K
  refine relE_quiet rfl rfl rfl rfl ?_; intro K hK; go_big_quiet_op; (first | refine ⟨_, fun _ _ => rfl, hK _ ?_⟩ | refine hK _ ?_); clear hK K
  refine relE_quiet rfl rfl rfl rfl ?_; intro K hK; go_big_quiet_op; (first | refine ⟨_, fun _ _ => rfl, hK _ ?_⟩ | refine hK _ ?_); clear hK K
  refine relE_quiet rfl rfl rfl rfl ?_; intro K hK; go_big_quiet_op; (first | refine ⟨_, fun _ _ => rfl, hK _ ?_⟩ | refine hK _ ?_); clear hK K
  refine relE_quiet rfl rfl rfl rfl ?_; intro K hK; go_big_quiet_op; (first | refine ⟨_, fun _ _ => rfl, hK _ ?_⟩ | refine hK _ ?_); clear hK K
  refine relE_fact [] rfl rfl rfl (by kernel_rfl) (fun y hy hf => ?_) (fun v3 y3 hC3 hG3 h3 => ?_)
  · go_simp
    exact ⟨hy.grow ((Ext.refl y).alloc _), NE_ext rfl ((Ext.refl y).alloc _), _, rfl, BoxAt.made y _ _⟩
  obtain ⟨b3, rfl, _⟩ := h3
  clear hC3 hG3
  simp only [Act.put, List.setIfInBounds_toArray, List.set_cons_zero, List.set_cons_succ]
  refine relE_fact [5] rfl rfl rfl (by kernel_rfl) (fun y hy hf => ?_) (fun v4 y4 hC4 hG4 h4 => ?_)
  · obtain ⟨bb, e, hx⟩ := (hf 5 (by simp)).2 rfl
    cases e
    have hin : SliceIn y (.slice (some ⟨b3, 0, none⟩) 1 1) 1 [.int .i64 n, .string b] := ⟨_, _, rfl, Nat.le_refl _, by unfold maxLen; omega, nofun, fun j u hj => ⟨b3, 0, rfl, by rw [Nat.zero_add, hx.cell j]; simpa using hj⟩⟩
    refine yields_app info_F und_Fs rfl (by decide) (.tmp 46) (.tmp 50) rfl w1.heap.size hy.ext.le _ k X hy.own (by rfl) hin (by rfl) rfl (by simp [Value.oneCell']) (by unfold maxLen; omega) (by omega) ?_
    intro v' y' ho' hA' _
    exact ⟨hy.app hA' (Nat.le_refl _), NE_app rfl hA', ho'⟩
  have h4' := h4
  obtain ⟨a4, c4, rfl⟩ := own_shape h4'
  clear hC4 hG4 h4 h4'
  simp only [Act.put, List.setIfInBounds_toArray, List.set_cons_zero, List.set_cons_succ]
  refine relE_quiet rfl rfl rfl rfl ?_; intro K hK; go_big_quiet_op; (first | refine ⟨_, fun _ _ => rfl, hK _ ?_⟩ | refine hK _ ?_); clear hK K
  refine relE_val [] rfl rfl rfl (by kernel_rfl) (fun y hy hf => ?_) ?_
  · go_simp
    exact ⟨hy, NE_ext rfl (Ext.refl y), rfl⟩
  simp only [Act.put, List.setIfInBounds_toArray, List.set_cons_zero, List.set_cons_succ]
  refine relE_quiet rfl rfl rfl rfl ?_; intro K hK; go_big_quiet_op; (first | refine ⟨_, fun _ _ => rfl, hK _ ?_⟩ | refine hK _ ?_); clear hK K
  refine relE_val [] rfl rfl rfl (by kernel_rfl) (fun y hy hf => ?_) ?_
  · have z0 := hy.ext.cell c0
    go_simp
    exact ⟨hy, NE_ext rfl (Ext.refl y), rfl⟩
  simp only [Act.put, List.setIfInBounds_toArray, List.set_cons_zero, List.set_cons_succ]
  refine relE_quiet rfl rfl rfl rfl ?_; intro K hK; go_big_quiet_op; (first | refine ⟨_, fun _ _ => rfl, hK _ ?_⟩ | refine hK _ ?_); clear hK K
  refine relE_val [] rfl rfl rfl (by kernel_rfl) (fun y hy hf => ?_) ?_
  · exact yields_from und_Fs (size := 2) (by kernel_rfl) (.tmp 55) (.tmp 56) rfl rfl (by rfl) hl ⟨hy, NE_ext rfl (Ext.refl y), rfl⟩
  simp only [Act.put, List.setIfInBounds_toArray, List.set_cons_zero, List.set_cons_succ]
  refine relE_fact [6] rfl rfl rfl (by kernel_rfl) (fun y hy hf => ?_) (fun v11 y11 hC11 hG11 h11 => ?_)
  · have h4 := (hf 6 (by simp)).2 rfl
    refine yields_app info_F und_Fs rfl (by decide) (.tmp 51) (.tmp 57) rfl w1.heap.size hy.ext.le _ (k + 1) _ h4 (by rfl) (SliceIn.ext hy.ext hin2') (by rfl) hRl hR1 (by unfold maxLen; omega) (by omega) ?_
    intro v' y' ho' hA' _
    exact ⟨hy.app hA' (Nat.le_succ k), NE_app rfl hA', ho'⟩
  have h11' := h11
  obtain ⟨a11, c11, rfl⟩ := own_shape h11'
  clear hC11 hG11 h11 h11'
  simp only [Act.put, List.setIfInBounds_toArray, List.set_cons_zero, List.set_cons_succ]
  refine relE_val [] rfl rfl rfl (by kernel_rfl) (fun y hy hf => ?_) ?_
  · go_simp
    exact ⟨hy, NE_ext rfl (Ext.refl y), rfl⟩
  simp only [Act.put, List.setIfInBounds_toArray, List.set_cons_zero, List.set_cons_succ]
  refine relE_quiet rfl rfl rfl rfl ?_; intro K hK; go_big_quiet_op; (first | refine ⟨_, fun _ _ => rfl, hK _ ?_⟩ | refine hK _ ?_); clear hK K
  refine relE_tail rfl rfl fun w8 hC8 hG => ?_
  have h15 := (hG 13).2 rfl
  have hb8 := BoxAt.ext hC8.ext hqx
  have z0 : w8.cell? ⟨q, 2, none⟩ = some (.slice a m c) := hb8.cell 2
  have zf := hb8.free 2
  clear hG
  go_wp2
  go_ret
  have hqs := hqx.lt
  have T : Touch w (w8.setCell ⟨q, 2, none⟩ (.slice a11 (k + 1 + (m - k)) c11)) [q] := ((Touch.of_ext (hE1.trans hC8.ext) [q]).trans (Touch.set (L := [q]) (by simp))).mono (by simp)
  refine ⟨⟨rfl, T⟩, ⟨_, hb8.set 2 _, ?_⟩⟩
  have ho := ownsRow_setCell_below h15 (a := ⟨q, 2, none⟩) hqs (.slice a11 (k + 1 + (m - k)) c11)
  have el : (F.take k ++ (n, b.data.toList) :: F.drop k).length = k + 1 + (m - k) := by simp [← HM.out]; omega
  have ec : ncells (F.take k ++ (n, b.data.toList) :: F.drop k) = X ++ [.int .i64 n, .string b] ++ R := by
    rw [ncells_append, show (n, b.data.toList) :: F.drop k = [(n, b.data.toList)] ++ F.drop k from rfl, ncells_append, HX.out, HR.out, List.append_assoc]
    simp only [ncells, List.flatMap_cons, List.flatMap_nil, List.append_nil]
    rw [show str b.data.toList = b from (str_eq rfl).symm]
  rw [el, ec]
  exact own_mono (Nat.zero_le _) ho

set_option maxHeartbeats 4000000 in
theorem r5_put (n : Int) (b : ByteArray) (hb : b.size ≤ 1000000) (w : World) (h : S5At w q log syn F man) (hr : Rises F) :
    Calls Try.prog 61 #[.pointer (some ⟨q, 0, none⟩), .int .i64 n, .string b] w fun e w' => (e = .returned (.int .i64 (putE n b F)) ∧ Touch w w' [q]) ∧ S5At w' q log syn (if putE n b F = 0 then fput n b.data.toList F else F) man := by
  by_cases e1 : n < 1 ∨ 1099511627776 < n ∨ fhas n F = true
  · have e : putE n b F = 1 := by unfold putE; rw [if_pos e1]
    rw [e, if_neg (by decide)]
    clear e
    have ex : n < 1 ∨ (¬ n < 1 ∧ 1099511627776 < n) ∨ (¬ n < 1 ∧ ¬ 1099511627776 < n ∧ fhas n F = true) := by
      by_cases a1 : n < 1
      · exact .inl a1
      · by_cases a2 : 1099511627776 < n
        · exact .inr (.inl ⟨a1, a2⟩)
        · rcases e1 with x | x | x
          · exact absurd x a1
          · exact absurd x a2
          · exact .inr (.inr ⟨a1, a2, x⟩)
    clear e1
    rcases ex with a1 | ⟨a1, a2⟩ | ⟨a1, a2, a3⟩
    all_goals
      go_enter Try.func61, Try.ntmps61
      go_wp2_with (go_at_call 57; go_must (refine (r5_at n w h hr).mono ?_); rintro e w1 ⟨rfl, hE1⟩; (try rw [a3]))
      go_ret
      exact ⟨⟨rfl, Touch.of_ext hE1 _⟩, h.ext hE1⟩
  · have a1 : ¬ n < 1 := fun x => e1 (.inl x)
    have a2 : ¬ 1099511627776 < n := fun x => e1 (.inr (.inl x))
    have a3 : fhas n F = false := by cases hh : fhas n F; rfl; exact absurd (.inr (.inr hh)) e1
    by_cases e2 : 262144 < b.size ∨ 40 ≤ F.length
    · have e : putE n b F = 2 := by unfold putE; rw [if_neg e1, if_pos e2]
      rw [e, if_neg (by decide)]
      clear e e1
      have ex : 262144 < (b.size : Int) ∨ (¬ 262144 < (b.size : Int) ∧ 40 ≤ (F.length : Int)) := by
        rcases e2 with x | x <;> omega
      clear e2
      rcases ex with a4 | ⟨a4, a5⟩
      all_goals
        go_enter Try.func61, Try.ntmps61
        go_wp2_with (go_at_call 57; go_must (refine (r5_at n w h hr).mono ?_); rintro e w1 ⟨rfl, hE1⟩; rw [a3]; obtain ⟨v, c2, hin⟩ := (h.ext hE1).notes; obtain ⟨a, c, rfl, hc, hcm, _⟩ := hin.get; clear hin)
        go_ret
        exact ⟨⟨rfl, Touch.of_ext hE1 _⟩, h.ext hE1⟩
    · have e : putE n b F = 0 := by unfold putE; rw [if_neg e1, if_neg e2]
      rw [e, if_pos rfl]
      exact r5_put_new n b hb w h hr a1 a2 a3 (by omega) (by omega)
end
end Go.Proofs.Ytmjhdfifbjdgpaa

/- Package shelf: Nums, Copy: a range over the map. -/
namespace Go.Proofs.Ytmjhdfifbjdgpaa
open Go Go.RowKit
attribute [local go_sem] yields yUpon

theorem strict_eq : ∀ (l m : List Int), l.Pairwise (· < ·) → m.Pairwise (· < ·) → (∀ x, x ∈ l ↔ x ∈ m) → l = m
  | [], [], _, _, _ => rfl
  | [], y :: m, _, _, h => by have := (h y).2 (by simp); cases this
  | x :: l, [], _, _, h => by have := (h x).1 (by simp); cases this
  | x :: l, y :: m, hl, hm, h => by
    obtain ⟨l1, l2⟩ := List.pairwise_cons.1 hl
    obtain ⟨m1, m2⟩ := List.pairwise_cons.1 hm
    have hxy : x = y := by
      rcases List.mem_cons.1 ((h x).1 (by simp)) with e | e
      · exact e
      · rcases List.mem_cons.1 ((h y).2 (by simp)) with e2 | e2
        · exact e2.symm
        · have := m1 x e; have := l1 y e2; omega
    subst hxy
    rw [strict_eq l m l2 m2 fun z => ?_]
    constructor
    · intro hz
      rcases List.mem_cons.1 ((h z).1 (by simp [hz])) with e | e
      · subst e; have := l1 z hz; omega
      · exact e
    · intro hz
      rcases List.mem_cons.1 ((h z).2 (by simp [hz])) with e | e
      · subst e; have := m1 z hz; omega
      · exact e
def keysF (F : Fl) : List Int := F.map (·.1)
theorem keysF_mem (F : Fl) (x : Int) : x ∈ keysF F ↔ fhas x F = true := by
  simp [keysF, fhas]
theorem keysF_rises {F : Fl} (h : Rises F) : (keysF F).Pairwise (· < ·) := by
  unfold keysF
  rw [List.pairwise_map]
  exact h
theorem sorted_keys {xs : List Int} {F : Fl} (hF : Rises F) (hn : xs.Nodup) (hm : ∀ x, x ∈ xs ↔ fhas x F = true) : xs.mergeSort (fun x y => decide (x ≤ y)) = keysF F := by
  have hp := List.mergeSort_perm xs (fun x y => decide (x ≤ y))
  refine strict_eq _ _ ?_ (keysF_rises hF) fun x => by rw [keysF_mem, ← hm, hp.mem_iff]
  have h1 := List.pairwise_mergeSort (le := fun x y : Int => decide (x ≤ y)) (fun a b c h1 h2 => by simp at *; omega) (fun a b => by simp; omega) xs
  have h2 : (xs.mergeSort (fun x y => decide (x ≤ y))).Nodup := hp.nodup_iff.2 hn
  refine (h1.and h2).imp fun h => ?_
  obtain ⟨a, b⟩ := h
  simp at a
  omega

theorem info_int : (Try.prog.info? 3).map (fun i => (i.zero, i.size, i.bytes)) = some (some (.int .i64 0), 1, 8) := by kernel_rfl
theorem und_ints : Try.prog.underlying 22 = some (.slice 3) := by kernel_rfl

theorem grownBy_refl0 (w : World) (r : Option Nat) : w.grownBy w r := ⟨rfl, rfl, rfl, Nat.le_refl _, fun _ _ _ => rfl⟩
/-- How far a range over the files is: what has come. -/
def Came (F : Fl) (left : Lit → Bool) (xs : List Int) : Prop := (∀ x : Int, left (.int .i64 x) = (fhas x F && !xs.contains x)) ∧ xs.Nodup ∧ ∀ x ∈ xs, fhas x F = true
theorem came_start (F : Fl) : Came F (Maps.has (fD F : DataW Nat)) [] := ⟨fun x => by rw [fD_has]; simp, List.nodup_nil, by simp⟩
theorem came_more {F : Fl} {left : Lit → Bool} {xs : List Int} (h : Came F left xs) {x : Int} (hx : left (.int .i64 x) = true) : Came F (fun z => left z && !z.sameKey (.int .i64 x)) (xs ++ [x]) := by
  obtain ⟨h1, h2, h3⟩ := h
  rw [h1] at hx
  simp only [Bool.and_eq_true, Bool.not_eq_true', List.contains_eq_mem, decide_eq_false_iff_not] at hx
  refine ⟨fun y => ?_, ?_, fun y hy => ?_⟩
  · simp only [h1, sameKey_int]
    simp only [List.contains_eq_mem, List.mem_append, List.mem_singleton]
    cases fhas y F
    · rfl
    · by_cases hy : y ∈ xs <;> by_cases hyx : y = x <;> simp [hy, hyx]
  · rw [List.nodup_append]
    exact ⟨h2, by simp, fun a ha b hb => by simp at hb; subst hb; intro e; subst e; exact hx.2 ha⟩
  · rcases List.mem_append.1 hy with hy | hy
    · exact h3 y hy
    · simp at hy; subst hy; exact hx.1
theorem came_end {F : Fl} {left : Lit → Bool} {xs : List Int} (h : Came F left xs) (hl : ∀ kl, left kl = false) : ∀ x, x ∈ xs ↔ fhas x F = true := by
  obtain ⟨h1, h2, h3⟩ := h
  refine fun x => ⟨h3 x, fun hx => ?_⟩
  have := h1 x
  rw [hl, hx] at this
  simpa using this
theorem came_len {F : Fl} {left : Lit → Bool} {xs : List Int} (h : Came F left xs) : xs.length ≤ F.length := by
  obtain ⟨_, h2, h3⟩ := h
  have e : (keysF F).length = F.length := by simp [keysF]
  rw [← e]
  have : ∀ (l m : List Int), l.Nodup → (∀ x ∈ l, x ∈ m) → l.length ≤ m.length := by
    intro l
    induction l with
    | nil => intro m _ _; simp
    | cons a l ih =>
      intro m hl hm
      obtain ⟨a1, a2⟩ := List.nodup_cons.1 hl
      have := ih (m.erase a) a2 (fun x hx => (List.mem_erase_of_ne (fun e => a1 (by rw [← e]; exact hx))).2 (hm x (by simp [hx])))
      rw [List.length_erase_of_mem (hm a (by simp))] at this
      have h0 : 0 < m.length := List.length_pos_of_mem (hm a (by simp))
      simp; omega
  exact this xs (keysF F) h2 fun x hx => (keysF_mem F x).2 (h3 x hx)

theorem sort_own {w : World} {B n : Nat} {v : Value} {xs : List Int} (h : w.ownsRow B 3 1 v n (kcells .i64 xs)) (hn : n = xs.length) (hl : xs.length < 4611686018427387904) :
    Calls Try.prog 89 #[v] w fun e w' => e = .returned (.tuple #[]) ∧ w'.ownsRow B 3 1 v n (kcells .i64 (xs.mergeSort fun x y => decide (x ≤ y))) ∧ w.grownBy w' v.ownBlock := by
  subst hn
  have hle : (xs.mergeSort fun x y => decide (x ≤ y)).length = xs.length := (List.mergeSort_perm xs _).length_eq
  obtain ⟨hlen, h⟩ := h
  rcases h with ⟨rfl, hx⟩ | ⟨g, cap, cur, rfl, hb, hg, hnc, hm, hs, ht⟩
  · obtain rfl : xs = [] := by cases xs <;> simp_all [kcells]
    refine (Try.slices_Sort_int_none none 0 w).mono ?_
    rintro e w' ⟨rfl, rfl⟩
    exact ⟨rfl, by simpa [kcells] using World.ownsRow_nil w' B 3 1, grownBy_refl0 _ _⟩
  · rw [Nat.mul_one] at ht
    refine (Try.slices_Sort_int g 0 cap xs w (holds_of_blockI hg ht) (Array.getElem?_eq_some_iff.1 hg).1 hl).mono ?_
    rintro e w' ⟨rfl, n, os, rfl⟩
    exact ⟨rfl, ownsRow_sortedI hle hb hg hnc hm hs, grownBy_sortedI _⟩

section
variable {p m : Nat} {log : ByteArray} {good : Nat} {F : Fl} {man : ByteArray}
set_option maxHeartbeats 1000000 in
theorem sh_nums (hF : F.length ≤ 4611686018427) (w : World) (h : ShelfAt w p m log good F man) :
    Calls Try.prog 69 #[.pointer (some ⟨p, 0, none⟩)] w fun e w' => ∃ v, (e = .returned v ∧ IntsIn w' v .i64 (keysF F)) ∧ Ext w w' := by
  have c2 := h.c2
  have hm := h.files.lt
  go_enter Try.func69, Try.ntmps69
  go_wp2_with (at_range; go_must (refine wpList_range_own _ rfl _ 99 rfl 3 9 keyed0 und_mapis _ m F.length _ rfl h.files.1 ?_); intro w0 hrg0 hg0 hs0)
  go_frame
  go_loopw [3, 4] (fun v _ wr => ∃ (xs : List Int) (left : Lit → Bool) (cnt : Nat), wr.ranges Try.prog 3 (plainElem (H := Nat) Try.prog 9) m w.heap.size F.length (fD F) left cnt ∧ wr.ownsRow (w.heap.size + 1) 3 1 v xs.length (kcells .i64 xs) ∧ Hid (Came F left xs) ∧ w.heap.size + 1 ≤ wr.heap.size ∧ Ext w wr)
    (fun _ _ wr => wr.rangeLeft m w.heap.size)
  case atStart => exact ⟨[], _, _, hrg0, World.ownsRow_nil _ _ _ _, Lib.hid (came_start F), by omega, (Ext.refl w).grown hg0 (by simp)⟩
  case round =>
    obtain ⟨xs, left, cnt, hrg, hown, HC, hsz, hE⟩ := hrel
    go_wp2_with (at_next; go_must (refine wpList_next_ranges_is _ rfl _ rfl 3 9 .i64 keyed0 und_int0 und_str0 m w.heap.size F.length _ _ _ rfl hrg ?_ ?_))
    · intro _ hl0
      have HS := Lib.hid (sorted_keys h.files.2 HC.out.2.1 (came_end HC.out hl0))
      have HL := Lib.hid (came_len HC.out)
      clear hl0
      go_wp2_with (go_at_call 89; go_must (refine (sort_own hown rfl (by have := HL.out; omega)).mono ?_); rintro e w1 ⟨rfl, hown1, hg1⟩)
      go_ret
      rw [HS.out] at hown1
      refine ⟨_, ⟨rfl, ?_⟩, hE.grown hg1 fun k hk => by have := (hown.lt k hk).1; omega⟩
      have e : xs.length = (keysF F).length := by rw [← HS.out]; exact (List.mergeSort_perm xs _).length_eq.symm
      rw [e] at hown1
      exact SliceIn.of_owns hown1
    · intro x c w1 cnt1 hwx hcs hlx hat hrg1 hlt hg1 hs1 hen
      have HC1 := Lib.hid (came_more HC.out hlx)
      have HL := came_len HC1.out
      simp at HL
      have hr : ∀ k, some k = u3.ownBlock → w.heap.size + 1 ≤ k := fun k hk => (hown.lt k hk.symm).1
      have hown1 := hown.kept hg1 (.inr fun e => by have := hr _ e.symm; omega)
      have hE1 := hE.grown hg1 (fun k hk => by cases hk; omega)
      have HS := Lib.hid hs1
      have HR := Lib.hid hr
      clear hlx hat hs1 hr hg1
      go_wp2_with (at_builtin; go_must (refine appR info_int und_ints rfl (by decide) w1 rfl (.tmp 14) (.tmp 16) rfl (w.heap.size + 1) (by rw [HS.out]; omega) _ xs.length (kcells .i64 xs) hown1 (by rfl) 1 _ (by rfl) (by rfl) (by simp [Value.oneCell']) (by unfold maxLen; omega) (by omega) ?_); intro v2 w2 hown2 hg2)
      have hrg2 := (hrg1.alloc (.cells #[.int .i64 x] 3)).kept hg2 (fun e => by have := HR.out _ e; omega) (fun e => by have := HR.out _ e; omega)
      have hE2 := (hE1.alloc (.cells #[.int .i64 x] 3)).grown hg2 (fun k hk => by have := HR.out k hk.symm; omega)
      have hz2 := hg2.size
      go_roundw
      case rel => exact ⟨xs ++ [x], _, cnt1, hrg2, by simpa [kcells] using hown2, HC1, by have := HS.out; simp at hz2; omega, hE2⟩
      case measure => rw [hrg2.left_eq, hrg.left_eq]; exact hlt
end
end Go.Proofs.Ytmjhdfifbjdgpaa

/- Package shelf: Copy. -/
namespace Go.Proofs.Ytmjhdfifbjdgpaa
open Go Go.RowKit
attribute [local go_sem] yields yUpon

theorem fD_inj {G F : Fl} (h : (fD G : DataW Nat) = fD F) : G = F := by
  simp only [fD, DataW.map.injEq] at h
  have : ∀ (G F : Fl), (G.map fun p => (Lit.int .i64 p.1, (DataW.lit (.string p.2) : DataW Nat))) = (F.map fun p => (Lit.int .i64 p.1, DataW.lit (.string p.2))) → G = F := by
    intro G
    induction G with
    | nil => intro F h; cases F <;> simp_all
    | cons a G ih =>
      intro F h
      cases F with
      | nil => simp at h
      | cons b F =>
        simp only [List.map_cons, List.cons.injEq, Prod.mk.injEq, Lit.int.injEq, DataW.lit.injEq, Lit.string.injEq, true_and] at h
        obtain ⟨⟨h1, h2⟩, h3⟩ := h
        rw [ih F h3, Prod.ext h1 h2]
  exact this G F h

theorem Touch.grown {w w' : World} {r : Nat} (h : Touch w w' [r]) : w.grownBy w' (some r) := ⟨h.os, h.tape, h.output, h.size, fun k hk hne => h.block k hk (by simp; intro e; exact hne (by rw [e]))⟩
section
variable {p m : Nat} {log : ByteArray} {good : Nat} {F : Fl} {man : ByteArray}
set_option maxHeartbeats 2000000 in
theorem sh_copy (hF : F.length ≤ 40) (w : World) (h : ShelfAt w p m log good F man) :
    Calls Try.prog 27 #[.pointer (some ⟨p, 0, none⟩)] w fun e w' => (e = .returned (.pointer (some ⟨w.heap.size + 1, 0, none⟩)) ∧ Ext w w') ∧ ShelfAt w' (w.heap.size + 1) w.heap.size log good F man := by
  have hp := h.box.lt
  have hm := h.files.lt
  have E1 : Ext w ((w.alloc (.map #[] 0)).alloc (.cells #[.string ⟨#[]⟩, .int .i64 0, .map (some w.heap.size), .string ⟨#[]⟩] 111)) := ((Ext.refl w).alloc _).alloc _
  have hs1 := sh_made w
  have h1 := h.ext E1
  have c2 := h1.c2
  go_enter Try.func27, Try.ntmps27
  go_wp2_with (first | (go_at_call 21; go_must (refine (sh_new _).mono ?_); rintro e w1 ⟨rfl, rfl⟩) | (at_range; go_must (refine wpList_range_own _ rfl _ 99 rfl 3 9 keyed0 und_mapis _ m F.length _ rfl h1.files.1 ?_); intro w0 hrg0 hg0 hs0))
  go_frame
  have hr0 : ((w.alloc (.map #[] 0)).alloc (.cells #[.string ⟨#[]⟩, .int .i64 0, .map (some w.heap.size), .string ⟨#[]⟩] 111)).heap.size = w.heap.size + 1 + 1 := by simp
  rw [hr0] at hrg0 hs0
  rw [hr0]
  have E0 := E1.grown hg0 (by simp)
  have hs0' := hs1.touch (Touch.of_ext ((Ext.refl _).grown hg0 (by simp)) []) (by simp) (by simp)
  clear hs1 hg0 hr0 E1 h1 c2
  go_loopw [4, 5] (fun _ _ wr => ∃ (G : Fl) (left : Lit → Bool) (cnt : Nat), wr.ranges Try.prog 3 (plainElem (H := Nat) Try.prog 9) m (w.heap.size + 1 + 1) F.length (fD F) left cnt ∧ ShelfAt wr (w.heap.size + 1) w.heap.size ⟨#[]⟩ 0 G ⟨#[]⟩ ∧ Hid (Maps.Agree (fD G : DataW Nat) (fD F) left ∧ G.length + cnt ≤ 40) ∧ Ext w wr)
    (fun _ _ wr => wr.rangeLeft m (w.heap.size + 1 + 1))
  case atStart => exact ⟨[], _, _, hrg0, hs0', Lib.hid ⟨Maps.agree_start _, by rw [fD_size]; simpa using hF⟩, E0⟩
  case round =>
    obtain ⟨G, left, cnt, hrg, hs, HA, hE⟩ := hrel
    go_wp2_with (at_next; go_must (refine wpList_next_ranges_is _ rfl _ rfl 3 9 .i64 keyed0 und_int0 und_str0 m (w.heap.size + 1 + 1) F.length _ _ _ rfl hrg ?_ ?_))
    · intro _ hl0
      have hD : (fD G : DataW Nat) = fD F := Maps.agree_end HA.out.1 hl0 (hs.files.1.canon keyed0) (hrg.owns.canon keyed0)
      obtain rfl := fD_inj hD
      clear hl0 hD hrg
      have hw := h.ext hE
      have a0 := hw.c0
      have a1 := hw.c1
      have a3 := hw.c3
      have b0 := hs.c0
      have b1 := hs.c1
      have b3 := hs.c3
      have f0 := hs.box.free 0
      have f1 := hs.box.free 1
      have f3 := hs.box.free 3
      go_wp2
      go_region
      have T : Touch wr ((((wr.setCell ⟨w.heap.size + 1, 0, none⟩ (.string log)).setCell ⟨w.heap.size + 1, 1, none⟩ (.int .i64 (good : Int))).setCell ⟨w.heap.size + 1, 3, none⟩ (.string man)).drew) [w.heap.size + 1] :=
        (((Touch.set (L := [w.heap.size + 1]) (by simp)).trans ((Touch.set (L := [w.heap.size + 1]) (by simp)).trans (Touch.set (L := [w.heap.size + 1]) (by simp)))).mono (by simp)).drew
      have hsn := hs.turn (log' := log) (good' := good) (man' := man) T (((hs.box.set 0 _).set 1 _).set 3 _) h.good_le h.log_le
      have hEn := T.ext hE (by simp)
      clear a0 a1 a3 b0 b1 b3 f0 f1 f3 hw hs T
      go_wp2
      go_ret
      exact ⟨⟨rfl, hEn⟩, hsn⟩
    · intro x c w1 cnt1 hwx hcs hlx hat hrg1 hlt hg1 hz1 hen
      have hA1 := Maps.agree_step HA.out.1 ⟨_, rfl⟩ (kl := .int .i64 x) trivial hat
      have hs1 := hs.touch (Touch.of_grown hg1 (L := [w.heap.size + 1 + 1]) (by simp)) (by simp) (by simp; omega)
      have c2 := hs1.c2
      have hb := wf_i64 hwx
      have hGl := HA.out.2
      obtain ⟨w2, hput, hf2, ht2⟩ := files_put hs1.files hb.1 hb.2 hcs (by unfold maxLen; omega)
      rw [fD_put x _ G hs.files.2] at hA1
      have hl := fput_length (n := x) (b := c.data.toList) hs.files.2
      have HA1 := Lib.hid hA1
      have HL : Hid ((fput x c.data.toList G).length + cnt1 ≤ 40) := Lib.hid (by rw [hl]; split <;> omega)
      have hs2 : ShelfAt w2 (w.heap.size + 1) w.heap.size ⟨#[]⟩ 0 (fput x c.data.toList G) ⟨#[]⟩ := ⟨ht2.box hs1.box (by simp), hf2, by omega, hs1.good_le, hs1.log_le⟩
      have hE2 := ht2.ext (hE.grown hg1 (fun k hk => by cases hk; omega)) (by simp)
      have hrg2 := hrg1.kept ht2.grown (by simp; omega) (by simp; omega)
      clear hlx hat hs hs1 hf2 ht2 hE hg1 hrg1 hA1 HA hl
      go_wp2
      go_roundw
      case rel => exact ⟨_, _, cnt1, hrg2, hs2, Lib.hid ⟨HA1.out, HL.out⟩, hE2⟩
      case measure => rw [hrg2.left_eq, hrg.left_eq]; exact hlt
end
end Go.Proofs.Ytmjhdfifbjdgpaa

/- Plain laws on numbers and their bytes; no program. -/
namespace Go.Proofs.Ytmjhdfifbjdgpaa

theorem tmod_pos {v n : Int} (h : 1 ≤ n) : 0 ≤ v.tmod n → v.tmod n = v % n := by
  intro h0
  rw [Int.tmod_eq_emod] at *
  split at h0 <;> split <;> try omega
  have := Int.emod_nonneg v (show n ≠ 0 by omega)
  have := Int.emod_lt_of_pos v (show 0 < n by omega)
  omega
theorem tmod_neg {v n : Int} (h : 1 ≤ n) : v.tmod n < 0 → v.tmod n + n = v % n := by
  intro h0
  rw [Int.tmod_eq_emod] at *
  split at h0 <;> split <;> try omega
  have := Int.emod_nonneg v (show n ≠ 0 by omega)
  omega
theorem tmod_lo {v n : Int} (h : 1 ≤ n) : -n < v.tmod n ∧ v.tmod n < n := by
  rw [Int.tmod_eq_emod]
  have := Int.emod_nonneg v (show n ≠ 0 by omega)
  have := Int.emod_lt_of_pos v (show 0 < n by omega)
  split <;> omega

/-- So many bytes of a number, the greatest first. -/
def beB : Nat → Nat → List UInt8
  | 0, _ => []
  | k + 1, x => UInt8.ofNat (x / 256 ^ k) :: beB k x

theorem beB_length (k x : Nat) : (beB k x).length = k := by
  induction k with
  | zero => rfl
  | succ k ih => simp [beB, ih]

theorem beB_get {k x j : Nat} (h : j < k) : (beB k x)[j]? = some (UInt8.ofNat (x / 256 ^ (k - 1 - j))) := by
  induction k generalizing j with
  | zero => omega
  | succ k ih =>
    cases j with
    | zero => simp [beB]
    | succ j =>
      simp only [beB, List.getElem?_cons_succ]
      rw [ih (by omega)]
      congr 4
      omega

theorem byte_shift (x k : Nat) : UInt8.ofNat (((x : Int) / 2 ^ (8 * k) % 256).toNat) = UInt8.ofNat (x / 256 ^ k) := by
  have e : ((x : Int) / 2 ^ (8 * k) % 256).toNat = x / 256 ^ k % 256 := by
    rw [show (2 : Int) ^ (8 * k) = ((256 ^ k : Nat) : Int) by rw [Int.pow_mul]; simp]
    omega
  rw [e]
  apply UInt8.toNat.inj
  simp

/-- How many bits, how many bytes a number takes. -/
def bitsOf (x : Nat) : Nat := if x = 0 then 0 else Nat.log2 x + 1
def nlen (x : Nat) : Nat := (bitsOf x + 7) / 8

theorem bitsOf_lt (x : Nat) : x < 2 ^ bitsOf x := by
  unfold bitsOf
  split
  · omega
  · exact Nat.lt_log2_self
theorem bitsOf_le (x : Nat) (h : x ≠ 0) : 2 ^ (bitsOf x - 1) ≤ x := by
  unfold bitsOf
  rw [if_neg h]
  exact Nat.log2_self_le h
theorem bitsOf_unique {x n : Nat} (h1 : x < 2 ^ n) (h2 : n = 0 ∨ 2 ^ (n - 1) ≤ x) : bitsOf x = n := by
  by_cases hx : x = 0
  · subst hx
    rcases h2 with rfl | h2
    · rfl
    · have : 0 < 2 ^ (n - 1) := Nat.two_pow_pos _
      omega
  · have a := bitsOf_lt x
    have b := bitsOf_le x hx
    have hn : n ≠ 0 := by rintro rfl; simp at h1; exact hx h1
    have h2 : 2 ^ (n - 1) ≤ x := h2.resolve_left hn
    have hb : bitsOf x ≠ 0 := by unfold bitsOf; rw [if_neg hx]; omega
    have c : bitsOf x - 1 < n := (Nat.pow_lt_pow_iff_right (a := 2) (by omega)).1 (Nat.lt_of_le_of_lt b h1)
    have d : n - 1 < bitsOf x := (Nat.pow_lt_pow_iff_right (a := 2) (by omega)).1 (Nat.lt_of_le_of_lt h2 a)
    omega

theorem bitsOf_le64 {x : Nat} (h : x < 18446744073709551616) : bitsOf x ≤ 64 := by
  by_cases hx : x = 0
  · subst hx; simp [bitsOf]
  · have b := bitsOf_le x hx
    have : 2 ^ (bitsOf x - 1) < 2 ^ 64 := Nat.lt_of_le_of_lt b (by simpa using h)
    have := (Nat.pow_lt_pow_iff_right (a := 2) (by omega)).1 this
    omega

/-- A number's bytes: how many they are, and they. -/
def num (x : Nat) : List UInt8 := UInt8.ofNat (nlen x) :: beB (nlen x) x

/-- A text's bytes. -/
def esc : List UInt8 → List UInt8
  | [] => []
  | b :: l => if b = 0 then 0 :: 255 :: esc l else b :: esc l
theorem esc_append (l m : List UInt8) : esc (l ++ m) = esc l ++ esc m := by
  induction l with
  | nil => rfl
  | cons b l ih =>
    simp only [List.cons_append, esc, ih]
    split <;> simp
theorem esc_snoc (l : List UInt8) (b : UInt8) : esc (l ++ [b]) = esc l ++ if b = 0 then [0, 255] else [b] := by
  rw [esc_append]
  congr 1
theorem esc_length_le (l : List UInt8) : (esc l).length ≤ 2 * l.length := by
  induction l with
  | nil => simp [esc]
  | cons b l ih =>
    simp only [esc]
    split <;> simp <;> omega
def txt (l : List UInt8) : List UInt8 := esc l ++ [0, 1]
theorem txt_length_le (l : List UInt8) : (txt l).length ≤ 2 * l.length + 2 := by
  have := esc_length_le l
  simp [txt]
  omega
/-- A whole number's eight bytes (v, as the 64 bits that it is, and 2^63). -/
def int8 (v : Int) : List UInt8 := beB 8 ((v + 9223372036854775808) % 18446744073709551616).toNat
end Go.Proofs.Ytmjhdfifbjdgpaa
