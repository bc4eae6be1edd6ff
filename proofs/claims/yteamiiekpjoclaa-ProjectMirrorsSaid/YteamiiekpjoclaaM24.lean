/- part.Join. -/
import Derived.Test.YteamiiekpjoclaaM13
import Derived.Test.YteamiiekpjoclaaM23
import Derived.Test.YteamiiekpjoclaaM21
namespace Go.Proofs.Yteamiiekpjoclaa
open Go Go.RowKit
attribute [local go_sem] yields yUpon ro8 pa3

theorem mem_mergeG {α : Type} {cmp : α → α → Int} {join : α → α → α} {l m : List α} {x : α} (h : x ∈ mergeG cmp join l m) : x ∈ l ∨ x ∈ m ∨ ∃ a ∈ l, ∃ b ∈ m, cmp a b = 0 ∧ x = join a b := by
  fun_induction mergeG cmp join l m with
  | case1 m => exact .inr (.inl h)
  | case2 a l => exact .inl h
  | case3 a l b m hc ih =>
    rcases List.mem_cons.1 h with rfl | h
    · exact .inl (List.mem_cons_self ..)
    · rcases ih h with h | h | ⟨y, hy, z, hz, hyz, e⟩
      · exact .inl (List.mem_cons_of_mem _ h)
      · exact .inr (.inl h)
      · exact .inr (.inr ⟨y, List.mem_cons_of_mem _ hy, z, hz, hyz, e⟩)
  | case4 a l b m hc hc' ih =>
    rcases List.mem_cons.1 h with rfl | h
    · exact .inr (.inl (List.mem_cons_self ..))
    · rcases ih h with h | h | ⟨y, hy, z, hz, hyz, e⟩
      · exact .inl h
      · exact .inr (.inl (List.mem_cons_of_mem _ h))
      · exact .inr (.inr ⟨y, hy, z, List.mem_cons_of_mem _ hz, hyz, e⟩)
  | case5 a l b m hc hc' ih =>
    rcases List.mem_cons.1 h with rfl | h
    · exact .inr (.inr ⟨a, List.mem_cons_self .., b, List.mem_cons_self .., by omega, rfl⟩)
    · rcases ih h with h | h | ⟨y, hy, z, hz, hyz, e⟩
      · exact .inl (List.mem_cons_of_mem _ h)
      · exact .inr (.inl (List.mem_cons_of_mem _ h))
      · exact .inr (.inr ⟨y, List.mem_cons_of_mem _ hy, z, List.mem_cons_of_mem _ hz, hyz, e⟩)
/-- Rows with few columns each. -/
def FewCols (l : List Ro) : Prop := ∀ r ∈ l, r.cols.length ≤ 500000
theorem few_merge {l m : List Ro} (hl : FewCols l) (hm : FewCols m) : ∀ r ∈ mergeRo l m, r.cols.length ≤ 1000000 := by
  intro r hr
  rcases mem_mergeG hr with h | h | ⟨a, ha, b, hb, _, rfl⟩
  · exact Nat.le_trans (hl r h) (by omega)
  · exact Nat.le_trans (hm r h) (by omega)
  · have h1 := mergeCo_len a.cols b.cols
    have h2 := hl a ha
    have h3 := hm b hb
    show (mergeCo a.cols b.cols).length ≤ _
    omega

/-- What part.Join hands back. -/
def JoinPost (w : World) (k : ByteArray) (g : Int) (J : List Ro) (e : Ending) (w' : World) : Prop :=
  Ext w w' ∧ ((J.length ≤ 100 ∧ ∃ v', e = .returned (.tuple #[.agg #[.string k, .int .i64 g, v'], .bool true]) ∧ ∃ qs, RowsT w' v' qs ∧ qs.map (·.1) = J) ∨
    (100 < J.length ∧ e = .returned (.tuple #[.agg #[.string ⟨#[]⟩, .int .i64 0, .slice none 0 0], .bool false])))

set_option maxRecDepth 100000 in
set_option maxHeartbeats 4000000 in
theorem pjoin_walk (ka kb : ByteArray) (ga gb : Int) (ua ub : Value) (la lb : List (Ro × Value)) (w : World) (ha : RowsIn w ua la) (hb : RowsIn w ub lb) (hlen : la.length + lb.length ≤ 1000000) (fa : FewCols (la.map (·.1))) (fb : FewCols (lb.map (·.1))) :
    Calls Try.prog 22 #[.agg #[.string ka, .int .i64 ga, ua], .agg #[.string kb, .int .i64 gb, ub]] w fun e w' => JoinPost w ka (max ga gb) (mergeRo (la.map (·.1)) (lb.map (·.1))) e w' := by
  obtain ⟨a0, a1, a2, hE⟩ := boxes3 w (pa3 ka ga ua) (pa3 kb gb ub) (pa3 ⟨#[]⟩ 0 (.slice none 0 0)) 39 39 39
  obtain ⟨J, hJ⟩ : ∃ J, J = mergeRo (la.map (·.1)) (lb.map (·.1)) := ⟨_, rfl⟩
  rw [← hJ]
  have HJ := Lib.hid hJ
  clear hJ
  obtain ⟨mg, hmg⟩ : ∃ mg, mg = max ga gb := ⟨_, rfl⟩
  rw [← hmg]
  have HG := Lib.hid hmg
  clear hmg
  go_enter Try.func22, Try.ntmps22
  go_wp2_with fail
  refine (mergeRo_any ua ub la lb _ (ha.ext hE) (hb.ext hE) hlen (fun p hp q hq => by have := fa p.1 (List.mem_map_of_mem hp); have := fb q.1 (List.mem_map_of_mem hq); omega)).mono ?_
  rintro e w1 ⟨v', rfl, ps, hown, hsafe, hmap, hE1⟩
  rw [← HJ.out] at hmap
  have hrows := rows_own hown hE1 hsafe
  have hpl : J.length = ps.length := by rw [← hmap]; simp
  obtain ⟨ca, cc, rfl⟩ := own_shape hown
  have hJl : J.length ≤ 1000000 := by
    rw [HJ.out]
    have := mergeG_len keyR joinRo (la.map (·.1)) (lb.map (·.1))
    unfold mergeRo
    simp at this
    omega
  clear hown hsafe
  replace a0 := a0.ext hE1
  replace a1 := a1.ext hE1
  replace a2 := a2.ext hE1
  replace hE := hE.trans hE1
  have c0 := a0.pa
  have c1 := a1.pa
  clear hE1
  rw [← hpl]
  by_cases hfit : 100 < J.length
  · go_wp2_with ((guard_target =~ wpList _ _ _ (Oper.mk none (Op.store _ (Operand.tmp 4) (Operand.tmp 15)) _ _ _ _ :: _) _ _); go_must (refine storeBox rfl 39 (.tmp 4) (.tmp 15) rfl (w.heap.size + 1 + 1) _ _ _ (by rfl) (by rfl) (a2) (by kernel_rfl) (by rfl) (by simp [Value.oneCell']) ?_); intro w9 c9 g9)
    obtain ⟨z0, z1, z2⟩ := c9.pa (k := ⟨#[]⟩) (g := 0) (u := .slice none 0 0)
    refine bodyPost_ret (v := .tuple #[.agg #[.string ⟨#[]⟩, .int .i64 0, .slice none 0 0], .bool false]) ?_ rfl ⟨hE.grown g9 (fun q hq => by cases hq; omega), .inr ⟨by omega, rfl⟩⟩
    simp [results, Try.results22, go_sem, z0, z1, z2]
  · go_wp2_with fail
    refine (pcopy_any ka (max ga gb) _ ps w1 hrows (by omega) (fun p hp => few_merge fa fb p.1 (by rw [← HJ.out, ← hmap]; exact List.mem_map_of_mem hp))).mono ?_
    rintro e w2 ⟨v', rfl, qs, hqs, hqm, hE2⟩
    obtain ⟨aq, cq, rfl⟩ := hqs.shape
    obtain ⟨nq, hnq⟩ : ∃ nq, nq = qs.length := ⟨_, rfl⟩
    rw [← hnq] at hqs ⊢
    clear hnq
    replace a2 := a2.ext hE2
    go_wp2_with ((guard_target =~ wpList _ _ _ (Oper.mk none (Op.store _ (Operand.tmp 4) (Operand.tmp 25)) _ _ _ _ :: _) _ _); go_must (refine storeBox rfl 39 (.tmp 4) (.tmp 25) rfl (w.heap.size + 1 + 1) _ _ _ (by rfl) (by rfl) (a2) (by kernel_rfl) (by rfl) (by simp [Value.oneCell']) ?_); intro w9 c9 g9)
    have hrow9 := hqs.keep g9 a2 (by decide) (by decide)
    obtain ⟨z0, z1, z2⟩ := c9.pa (k := ka) (g := max ga gb) (u := .slice aq nq cq)
    refine bodyPost_ret (v := .tuple #[.agg #[.string ka, .int .i64 (max ga gb), .slice aq nq cq], .bool true]) ?_ rfl ⟨(hE.trans hE2).grown g9 (fun q hq => by cases hq; omega), .inl ⟨by omega, _, by rw [HG.out], qs, hrow9, hqm.trans hmap⟩⟩
    simp [results, Try.results22, go_sem, z0, z1, z2]
end Go.Proofs.Yteamiiekpjoclaa

/- Partitions by numbers: keys rise; what joins make of them is such a partition. -/
namespace Go.Proofs.Yteamiiekpjoclaa
open Go Go.RowKit

theorem ik_lt {i j : Nat} (h : i < j) (hj : j < 1000) : cmpB (ik i).data.toList (ik j).data.toList < 0 := by
  show cmpB (int8 i) (int8 j) < 0
  rw [cmpB_less, less_int8 _ _ (by omega) (by omega) (by omega) (by omega), if_pos (by simp; omega)]
  decide
theorem GenRows.key {k : Nat} {l : List Ro} (h : GenRows k l) : ∀ r ∈ l, ∃ i, i < k ∧ r.key = ik i := by
  induction h with
  | nil => nofun
  | skip _ ih => exact fun r hr => let ⟨i, hi, e⟩ := ih r hr; ⟨i, by omega, e⟩
  | put _ _ e ih =>
    intro r hr
    rcases List.mem_append.1 hr with hr | hr
    · obtain ⟨i, hi, e⟩ := ih r hr
      exact ⟨i, by omega, e⟩
    · rw [List.mem_singleton.1 hr]
      exact ⟨_, by omega, e⟩
theorem GenRows.row {k : Nat} {l : List Ro} (h : GenRows k l) : ∀ r ∈ l, GenRow r := by
  induction h with
  | nil => nofun
  | skip _ ih => exact ih
  | put _ hr _ ih =>
    intro r h
    rcases List.mem_append.1 h with h | h
    · exact ih r h
    · rw [List.mem_singleton.1 h]; exact hr
theorem GenRows.up {k : Nat} {l : List Ro} (h : GenRows k l) (hk : k ≤ 1000) : Up kRo l := by
  induction h with
  | nil => exact List.Pairwise.nil
  | skip _ ih => exact ih (by omega)
  | put hl _ e ih =>
    refine List.pairwise_append.2 ⟨ih (by omega), List.pairwise_singleton .., fun a ha b hb => ?_⟩
    obtain ⟨i, hi, e'⟩ := hl.key a ha
    rw [List.mem_singleton.1 hb]
    unfold kRo
    rw [e, e']
    exact ik_lt hi (by omega)
/-- A partition's rows by numbers, or of joins of such. -/
structure NumRs (l : List Ro) : Prop where
  up : Up kRo l
  row : ∀ r ∈ l, NumRow r
  key : ∀ r ∈ l, ∃ i, i < 4 ∧ r.key = ik i
theorem GenRows.num {l : List Ro} (h : GenRows 4 l) : NumRs l := ⟨h.up (by decide), fun r hr => (h.row r hr).num, h.key⟩
theorem NumRs.good {l : List Ro} (h : NumRs l) : GoodRs l := ⟨h.up, fun r hr => (h.row r hr).up⟩
theorem NumRs.merge {l m : List Ro} (hl : NumRs l) (hm : NumRs m) : NumRs (mergeRo l m) := by
  refine ⟨hl.up.merge kRo_join hm.up, fun r hr => ?_, fun r hr => ?_⟩
  · rcases mem_mergeRs hr with (h | h) | ⟨a, ha, b, hb, _, rfl⟩
    · exact hl.row r h
    · exact hm.row r h
    · exact (hl.row a ha).join (hm.row b hb)
  · rcases mem_mergeRs hr with (h | h) | ⟨a, ha, b, hb, _, rfl⟩
    · exact hl.key r h
    · exact hm.key r h
    · exact hl.key a ha
theorem NumRs.len {l : List Ro} (h : NumRs l) : l.length ≤ 4 :=
  h.up.len (K := [(ik 0).data.toList, (ik 1).data.toList, (ik 2).data.toList, (ik 3).data.toList]) fun c hc => by
    obtain ⟨j, hj, e⟩ := h.key c hc
    unfold kRo
    rw [e]
    obtain rfl | rfl | rfl | rfl : j = 0 ∨ j = 1 ∨ j = 2 ∨ j = 3 := by omega
    all_goals simp
theorem NumRs.few {l : List Ro} (h : NumRs l) : FewCols l := fun r hr => by have := (h.row r hr).len; omega
theorem NumRs.nil : NumRs [] := ⟨List.Pairwise.nil, nofun, nofun⟩
end Go.Proofs.Yteamiiekpjoclaa

/- Plain laws of a row's cells under joins. -/
namespace Go.Proofs.Yteamiiekpjoclaa
open Go Go.RowKit

theorem cellOf_get (l : List Co) (n : ByteArray) : cellOf l n = ((getK kCo l n.data.toList).map (·.cell)).getD zeroCl := by
  induction l with
  | nil => rfl
  | cons c l ih =>
    unfold cellOf getK
    by_cases h : kCo c = n.data.toList
    · rw [if_pos h, if_pos (by unfold kCo at h; rw [ByteArray.toList_eq, ByteArray.toList_eq]; simpa using h)]
      rfl
    · rw [if_neg h, if_neg (by unfold kCo at h; rw [ByteArray.toList_eq, ByteArray.toList_eq]; simpa using h)]
      exact ih
theorem le_at {x y : Cl} (h : cmpCl x y ≤ 0) : x.at_ ≤ y.at_ := by
  unfold cmpCl cmpC at h
  rw [or4_le] at h
  unfold cmpI at h
  split at h
  · omega
  · split at h
    · omega
    · omega
theorem joinCl_at (x y : Cl) : x.at_ ≤ (joinCl x y).at_ ∧ y.at_ ≤ (joinCl x y).at_ :=
  ⟨le_at (ge_le (le_joinCl_left x y)), le_at (ge_le (le_joinCl_right x y))⟩
/-- What a join's cell of a name is: one of the two's, and older than neither. -/
theorem cell_joined {a b : List Co} (ha : Up kCo a) (hb : Up kCo b) (pa : ∀ c ∈ a, 0 ≤ c.cell.at_) (pb : ∀ c ∈ b, 0 ≤ c.cell.at_) (n : ByteArray) :
    (cellOf a n).at_ ≤ (cellOf (mergeCo a b) n).at_ ∧ (cellOf b n).at_ ≤ (cellOf (mergeCo a b) n).at_ ∧ (cellOf (mergeCo a b) n = cellOf a n ∨ cellOf (mergeCo a b) n = cellOf b n) := by
  rw [cellOf_get a, cellOf_get b, cellOf_get (mergeCo a b), mergeCo_K, getK_merge kCo_join ha hb]
  cases h1 : getK kCo a n.data.toList with
  | none =>
    cases h2 : getK kCo b n.data.toList with
    | none => exact ⟨Int.le_refl _, Int.le_refl _, .inl rfl⟩
    | some y => exact ⟨pb y (getK_mem h2).1, Int.le_refl _, .inr rfl⟩
  | some x =>
    cases h2 : getK kCo b n.data.toList with
    | none => exact ⟨Int.le_refl _, pa x (getK_mem h1).1, .inl rfl⟩
    | some y => exact ⟨(joinCl_at _ _).1, (joinCl_at _ _).2, joinCl_or _ _⟩
theorem best_law (c : Cl) (g : Int) (hg : 0 ≤ g) : bestB c g = decide (0 < (bestC c g).at_) ∧ (bestB c g = true → g < (bestC c g).at_ ∧ (bestC c g).dead = false) := by
  unfold bestC
  cases h : bestB c g with
  | false => exact ⟨by rfl, nofun⟩
  | true =>
    rw [if_pos rfl]
    unfold bestB at h
    simp only [Bool.not_eq_true', Bool.or_eq_false_iff, decide_eq_false_iff_not] at h
    obtain ⟨⟨h1, h2⟩, h3⟩ := h
    refine ⟨?_, fun _ => ⟨by omega, h1⟩⟩
    rw [eq_comm, decide_eq_true_iff]
    omega
theorem is_law (r : Ro) (g t : Int) : (isB r g t false || !isB r g t true) = true ∧ (isB r g t false = true ∨ (seenCos r.cols g t).length = 0) := by
  unfold isB
  constructor
  · cases liveB r g t <;> simp
  · by_cases h : (seenCos r.cols g t).length = 0
    · exact .inr h
    · left
      rw [show decide (0 < (seenCos r.cols g t).length) = true by simp; omega]
      simp
end Go.Proofs.Yteamiiekpjoclaa
