/- part.Join. -/
import Derived.Test.YtkiodandnjbhoaaDoorMergeRo
import Derived.Test.YtkiodandnjbhoaaDoorPartCopy
namespace Go.Proofs.YtkiodandnjbhoaaDoor
open Go Go.RowKit
attribute [local go_sem] yields yUpon ro8 pa3

theorem mem_mergeG {α : Type} {cmp : α → α → Int} {join : α → α → α} {l m : List α} {x : α} (h : x ∈ mergeG cmp join l m) : x ∈ l ∨ x ∈ m ∨ ∃ a ∈ l, ∃ b ∈ m, cmp a b = 0 ∧ x = join a b := by
  fun_induction mergeG cmp join l m with
  | case1 m => exact .inr (.inl h)
  | case2 a l => exact .inl h
  | case3 a l b m hc ih =>
    rcases List.mem_cons.1 h with rfl | h
    · exact .inl (List.mem_cons_self ..)
    · rcases ih h with h | h | ⟨y, hy, z, hz, hyz, e⟩
      · exact .inl (List.mem_cons_of_mem _ h)
      · exact .inr (.inl h)
      · exact .inr (.inr ⟨y, List.mem_cons_of_mem _ hy, z, hz, hyz, e⟩)
  | case4 a l b m hc hc' ih =>
    rcases List.mem_cons.1 h with rfl | h
    · exact .inr (.inl (List.mem_cons_self ..))
    · rcases ih h with h | h | ⟨y, hy, z, hz, hyz, e⟩
      · exact .inl h
      · exact .inr (.inl (List.mem_cons_of_mem _ h))
      · exact .inr (.inr ⟨y, hy, z, List.mem_cons_of_mem _ hz, hyz, e⟩)
  | case5 a l b m hc hc' ih =>
    rcases List.mem_cons.1 h with rfl | h
    · exact .inr (.inr ⟨a, List.mem_cons_self .., b, List.mem_cons_self .., by omega, rfl⟩)
    · rcases ih h with h | h | ⟨y, hy, z, hz, hyz, e⟩
      · exact .inl (List.mem_cons_of_mem _ h)
      · exact .inr (.inl (List.mem_cons_of_mem _ h))
      · exact .inr (.inr ⟨y, List.mem_cons_of_mem _ hy, z, List.mem_cons_of_mem _ hz, hyz, e⟩)
/-- Rows with few columns each. -/
def FewCols (l : List Ro) : Prop := ∀ r ∈ l, r.cols.length ≤ 500000
theorem few_merge {l m : List Ro} (hl : FewCols l) (hm : FewCols m) : ∀ r ∈ mergeRo l m, r.cols.length ≤ 1000000 := by
  intro r hr
  rcases mem_mergeG hr with h | h | ⟨a, ha, b, hb, _, rfl⟩
  · exact Nat.le_trans (hl r h) (by omega)
  · exact Nat.le_trans (hm r h) (by omega)
  · have h1 := mergeCo_len a.cols b.cols
    have h2 := hl a ha
    have h3 := hm b hb
    show (mergeCo a.cols b.cols).length ≤ _
    omega

/-- What part.Join hands back. -/
def JoinPost (w : World) (k : ByteArray) (g : Int) (J : List Ro) (e : Ending) (w' : World) : Prop :=
  Ext w w' ∧ ((J.length ≤ 100 ∧ ∃ v', e = .returned (.tuple #[.agg #[.string k, .int .i64 g, v'], .bool true]) ∧ ∃ qs, RowsT w' v' qs ∧ qs.map (·.1) = J) ∨
    (100 < J.length ∧ e = .returned (.tuple #[.agg #[.string ⟨#[]⟩, .int .i64 0, .slice none 0 0], .bool false])))

set_option maxRecDepth 100000 in
set_option maxHeartbeats 4000000 in
theorem pjoin_walk (ka kb : ByteArray) (ga gb : Int) (ua ub : Value) (la lb : List (Ro × Value)) (w : World) (ha : RowsIn w ua la) (hb : RowsIn w ub lb) (hlen : la.length + lb.length ≤ 1000000) (fa : FewCols (la.map (·.1))) (fb : FewCols (lb.map (·.1))) :
    Calls Tryd.prog 37 #[.agg #[.string ka, .int .i64 ga, ua], .agg #[.string kb, .int .i64 gb, ub]] w fun e w' => JoinPost w ka (max ga gb) (mergeRo (la.map (·.1)) (lb.map (·.1))) e w' := by
  obtain ⟨a0, a1, a2, hE⟩ := boxes3 w (pa3 ka ga ua) (pa3 kb gb ub) (pa3 ⟨#[]⟩ 0 (.slice none 0 0)) 35 35 35
  obtain ⟨J, hJ⟩ : ∃ J, J = mergeRo (la.map (·.1)) (lb.map (·.1)) := ⟨_, rfl⟩
  rw [← hJ]
  have HJ := Lib.hid hJ
  clear hJ
  obtain ⟨mg, hmg⟩ : ∃ mg, mg = max ga gb := ⟨_, rfl⟩
  rw [← hmg]
  have HG := Lib.hid hmg
  clear hmg
  go_enter Tryd.func37, Tryd.ntmps37
  go_wp2_with fail
  refine (mergeRo_any ua ub la lb _ (ha.ext hE) (hb.ext hE) hlen (fun p hp q hq => by have := fa p.1 (List.mem_map_of_mem hp); have := fb q.1 (List.mem_map_of_mem hq); omega)).mono ?_
  rintro e w1 ⟨v', rfl, ps, hown, hsafe, hmap, hE1⟩
  rw [← HJ.out] at hmap
  have hrows := rows_own hown hE1 hsafe
  have hpl : J.length = ps.length := by rw [← hmap]; simp
  obtain ⟨ca, cc, rfl⟩ := own_shape hown
  have hJl : J.length ≤ 1000000 := by
    rw [HJ.out]
    have := mergeG_len keyR joinRo (la.map (·.1)) (lb.map (·.1))
    unfold mergeRo
    simp at this
    omega
  clear hown hsafe
  replace a0 := a0.ext hE1
  replace a1 := a1.ext hE1
  replace a2 := a2.ext hE1
  replace hE := hE.trans hE1
  have c0 := a0.pa
  have c1 := a1.pa
  clear hE1
  rw [← hpl]
  by_cases hfit : 100 < J.length
  · go_wp2_with ((guard_target =~ wpList _ _ _ (Oper.mk none (Op.store _ (Operand.tmp 4) (Operand.tmp 15)) _ _ _ _ :: _) _ _); go_must (refine storeBox rfl 35 (.tmp 4) (.tmp 15) rfl (w.heap.size + 1 + 1) _ _ _ (by rfl) (by rfl) (a2) (by kernel_rfl) (by rfl) (by simp [Value.oneCell']) ?_); intro w9 c9 g9)
    obtain ⟨z0, z1, z2⟩ := c9.pa (k := ⟨#[]⟩) (g := 0) (u := .slice none 0 0)
    refine bodyPost_ret (v := .tuple #[.agg #[.string ⟨#[]⟩, .int .i64 0, .slice none 0 0], .bool false]) ?_ rfl ⟨hE.grown g9 (fun q hq => by cases hq; omega), .inr ⟨by omega, rfl⟩⟩
    simp [results, Tryd.results37, go_sem, z0, z1, z2]
  · go_wp2_with fail
    refine (pcopy_any ka (max ga gb) _ ps w1 hrows (by omega) (fun p hp => few_merge fa fb p.1 (by rw [← HJ.out, ← hmap]; exact List.mem_map_of_mem hp))).mono ?_
    rintro e w2 ⟨v', rfl, qs, hqs, hqm, hE2⟩
    obtain ⟨aq, cq, rfl⟩ := hqs.shape
    obtain ⟨nq, hnq⟩ : ∃ nq, nq = qs.length := ⟨_, rfl⟩
    rw [← hnq] at hqs ⊢
    clear hnq
    replace a2 := a2.ext hE2
    go_wp2_with ((guard_target =~ wpList _ _ _ (Oper.mk none (Op.store _ (Operand.tmp 4) (Operand.tmp 25)) _ _ _ _ :: _) _ _); go_must (refine storeBox rfl 35 (.tmp 4) (.tmp 25) rfl (w.heap.size + 1 + 1) _ _ _ (by rfl) (by rfl) (a2) (by kernel_rfl) (by rfl) (by simp [Value.oneCell']) ?_); intro w9 c9 g9)
    have hrow9 := hqs.keep g9 a2 (by decide) (by decide)
    obtain ⟨z0, z1, z2⟩ := c9.pa (k := ka) (g := max ga gb) (u := .slice aq nq cq)
    refine bodyPost_ret (v := .tuple #[.agg #[.string ka, .int .i64 (max ga gb), .slice aq nq cq], .bool true]) ?_ rfl ⟨(hE.trans hE2).grown g9 (fun q hq => by cases hq; omega), .inl ⟨by omega, _, by rw [HG.out], qs, hrow9, hqm.trans hmap⟩⟩
    simp [results, Tryd.results37, go_sem, z0, z1, z2]
end Go.Proofs.YtkiodandnjbhoaaDoor
