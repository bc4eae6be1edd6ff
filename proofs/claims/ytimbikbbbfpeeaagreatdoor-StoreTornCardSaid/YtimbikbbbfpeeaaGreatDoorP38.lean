/- store: (*Store).Fits: is there room for a batch? -/
import Derived.Test.YtimbikbbbfpeeaaGreatDoorP19
import Derived.Test.YtimbikbbbfpeeaaGreatDoorP36
import Derived.Test.YtimbikbbbfpeeaaGreatDoorP37
import Derived.Test.YtimbikbbbfpeeaaGreatDoorP35
import Derived.Test.YtimbikbbbfpeeaaGreatDoorP20
set_option linter.unusedSimpArgs false
set_option linter.unusedVariables false
namespace Go.Proofs.YtimbikbbbfpeeaaGreatDoor
open Go Go.RowKit
attribute [local go_sem] yields yUpon

theorem rsB_mem : ∀ {l : List Ro} {p : Option ByteArray}, rsB p l = true → ∀ r ∈ l, rwB r = true
  | [], _, _, _, h => by cases h
  | x :: l, p, h, r, hr => by
    simp only [rsB, Bool.and_eq_true] at h
    rcases List.mem_cons.1 hr with e | hr
    · rw [e]; exact h.1.1
    · exact rsB_mem h.2 r hr
theorem okMq_few {x : Mq} (h : okMq x = true) : x.table.size ≤ 100 ∧ x.pt.key.size ≤ 100 ∧ x.pt.rows.length ≤ 100 ∧ ∀ r ∈ x.pt.rows, r.cols.length ≤ 8 := by
  unfold okMq at h
  simp only [Bool.and_eq_true] at h
  obtain ⟨h1, h2⟩ := h
  unfold nameB at h1
  simp only [Bool.and_eq_true, decide_eq_true_eq] at h1
  unfold ptB at h2
  simp only [Bool.and_eq_true, Bool.not_eq_true', decide_eq_false_iff_not] at h2
  obtain ⟨⟨⟨⟨a, _⟩, _⟩, b⟩, c⟩ := h2
  refine ⟨h1.2.2, by omega, by omega, fun r hr => ?_⟩
  have := rsB_mem c r hr
  unfold rwB hdB at this
  simp only [Bool.and_eq_true, Bool.not_eq_true', decide_eq_false_iff_not] at this
  obtain ⟨⟨_, d⟩, _⟩ := this
  omega
theorem cbQ_muts {b : Bt} (h : cbQ b = true) : b.muts.length ≤ 64 ∧ ∀ x ∈ b.muts, okMq x = true := by
  unfold cbQ at h
  simp only [Bool.and_eq_true, decide_eq_true_eq, List.all_eq_true] at h
  exact ⟨h.1.1.1.1.1, h.1.1.2⟩
theorem cbQ_notes {b : Bt} (h : cbQ b = true) : (∀ x ∈ b.add, 1 ≤ x.id ∧ x.id ≤ 1099511627776 ∧ x.body.size ≤ 4096) ∧ ∀ x ∈ b.drop, 1 ≤ x ∧ x ≤ 1099511627776 := by
  unfold cbQ at h
  simp only [Bool.and_eq_true, decide_eq_true_eq, List.all_eq_true] at h
  refine ⟨fun x hx => ?_, fun x hx => ?_⟩
  · have := h.1.2 x hx
    unfold okNt idB at this
    simp only [Bool.and_eq_true, decide_eq_true_eq] at this
    exact ⟨this.1.1, this.1.2, this.2⟩
  · have := h.2 x hx
    unfold idB at this
    simpa using this
theorem cbQ_lens {b : Bt} (h : cbQ b = true) : b.add.length ≤ 300 ∧ b.drop.length ≤ 300 := by
  unfold cbQ at h
  simp only [Bool.and_eq_true, decide_eq_true_eq] at h
  exact ⟨h.1.1.1.1.2, h.1.1.1.2⟩
theorem notesF_in {w : World} {v : Value} {A : List Nt} (h : NtsIn w v A) : NotesIn w v (notesF A) := by
  unfold NotesIn NtsIn at *
  have e : ncells (notesF A) = A.flatMap Nt.cells := by
    unfold ncells notesF
    rw [List.flatMap_map]
    congr 1
  rw [e]
  unfold notesF
  rw [List.length_map]
  exact h
theorem mq_map (ms : List Mt) : ms.map Mt.table = (ms.map Mt.q).map Mq.table := by
  rw [List.map_map]; rfl
/-- Tables that are alike but for what came since. -/
def Tq.p (t : Tq) : ByteArray × List Pt := (t.name, t.parts)
theorem tqp_find (k : ByteArray) (ts : List Tq) : (kfind Tq.name k ts).map Tq.p = kfind Prod.fst k (ts.map Tq.p) := (kfind_map (key := Tq.name) (key' := Prod.fst) (f := Tq.p) (fun _ => rfl) k ts).symm
theorem joinB_p {t u : Tq} (h : t.p = u.p) (p : Pt) : joinB t p = joinB u p := by
  have : t.parts = u.parts := congrArg Prod.snd h
  unfold joinB
  rw [this]
theorem joinT_p {t u : Tq} (h : t.p = u.p) (p : Pt) : (joinT t p).p = (joinT u p).p := by
  have h1 : t.parts = u.parts := congrArg Prod.snd h
  have h2 : t.name = u.name := congrArg Prod.fst h
  have h3 : ∀ x : Tq, (joinT x p).p = if joinB x p then (x.name, kput Pt.key (joinP (kfind Pt.key p.key x.parts) p) x.parts) else (x.name, x.parts) := fun x => by
    unfold joinT
    split <;> rfl
  rw [h3, h3, joinB_p h, h1, h2]
theorem mutQ1_p {ts us : List Tq} (h : ts.map Tq.p = us.map Tq.p) (m : Mq) : (mutQ1 ts m).1 = (mutQ1 us m).1 ∧ (mutQ1 ts m).2.map Tq.p = (mutQ1 us m).2.map Tq.p := by
  have hl : ts.length = us.length := by have := congrArg List.length h; simpa using this
  have hf : (kfind Tq.name m.table ts).map Tq.p = (kfind Tq.name m.table us).map Tq.p := by rw [tqp_find, tqp_find, h]
  have hi : (kfind Tq.name m.table ts).isNone = (kfind Tq.name m.table us).isNone := by
    have := congrArg Option.isNone hf
    simpa using this
  have ht : (tabQ ts m.table).p = (tabQ us m.table).p := by
    unfold tabQ
    cases h1 : kfind Tq.name m.table ts <;> cases h2 : kfind Tq.name m.table us <;> rw [h1, h2] at hf <;> simp at hf <;> first | rfl | exact hf
  unfold mutQ1
  rw [hi, hl]
  split
  · exact ⟨rfl, h⟩
  · refine ⟨joinB_p ht _, ?_⟩
    rw [kput_map (key := Tq.name) (key' := Prod.fst) (f := Tq.p) (fun _ => rfl), kput_map (key := Tq.name) (key' := Prod.fst) (f := Tq.p) (fun _ => rfl), h, joinT_p ht]
theorem mutsQ_p : ∀ (M : List Mq) {ts us : List Tq}, ts.map Tq.p = us.map Tq.p → (mutsQ ts M).1 = (mutsQ us M).1
  | [], _, _, _ => rfl
  | m :: M, ts, us, h => by
    obtain ⟨h1, h2⟩ := mutQ1_p h m
    rw [mutsQ_cons, mutsQ_cons, h1]
    split
    · exact mutsQ_p M h2
    · exact h1


def SomeF (W1 : World) (C : Nat) (ts : List Tb) (nm : List ByteArray) (v : Value) (y : World) : Prop := ∃ (z : World) (tsc : List Tb), v = .pointer (some ⟨z.heap.size + 1, 0, none⟩) ∧ Ext W1 z ∧ SomeI z y C z.heap.size (z.heap.size + 1) ts tsc nm
theorem SomeF.ext {W1 x y : World} {C : Nat} {ts : List Tb} {nm : List ByteArray} {v : Value} (hE : Ext x y) (h : SomeF W1 C ts nm v x) : SomeF W1 C ts nm v y := let ⟨z, t, e, h1, h2⟩ := h; ⟨z, t, e, h1, h2.ext_ hE⟩

set_option maxRecDepth 100000 in
set_option maxHeartbeats 8000000 in
theorem stfits_any (W0 w : World) (C : Nat) (s : Sto) (h : StoAt W0 w C s) (vm va vd : Value) (ms : List Mt) (A : List Nt) (D : List Int) (hg : Got w vm va vd ms A D) (hC : C + 512 ≤ 400000) (hMb : ∀ x ∈ ms, x.table.size ≤ 1000000 ∧ ∀ p ∈ x.pa.ps, ∀ c ∈ p.1.cols, c.name.size ≤ 1000000) (hAb : ∀ x ∈ A, x.body.size ≤ 1000000) :
    Calls Tryz.prog 38 #[.pointer (some ⟨s.ps, 0, none⟩), .agg #[vm, va, vd]] w fun e w' => e = .returned (.bool (stFits s.q ⟨ms.map Mt.q, A, D⟩)) ∧ Ext w w' := by
  obtain ⟨W, hW⟩ : ∃ W, W = w.alloc (.cells #[vm, va, vd] 37) := ⟨_, rfl⟩
  have hE : Ext w W := by rw [hW]; exact (Ext.refl w).alloc _
  have hbx : BoxAt W w.heap.size #[vm, va, vd] 37 := by rw [hW]; exact BoxAt.made w _ _
  obtain ⟨am, cm, rfl⟩ := hg.mt.shape
  obtain ⟨aa, ca, rfl⟩ := hg.nt.shape
  obtain ⟨ad, cd, rfl⟩ := hg.it.shape
  have K1 : ∀ w', Ext w w' → Calls Tryz.prog 36 #[.agg #[.slice am ms.length cm, .slice aa A.length ca, .slice ad D.length cd]] w' fun e w'' => e = .returned (.bool (cbQ ⟨ms.map Mt.q, A, D⟩)) ∧ Ext w' w'' := fun w' hx => by
    rw [← cbG_q]
    exact cb_gen _ _ _ ms A D w' ((h.ext hx).tabU) ⟨(hg.ext hx).mt.slice, fun m hm => ((hg.ext hx).rows m hm).rows⟩ (nts_of (hg.ext hx).nt) (ints_of (hg.ext hx).it) hMb hAb
  have HK1 := Lib.hid K1
  have HR : Hid (stFits s.q ⟨ms.map Mt.q, A, D⟩ = (cbQ ⟨ms.map Mt.q, A, D⟩ && (mutsQ (s.ts.map Tb.q) (ms.map Mt.q)).1 && fitsB s.N (notesF A) D)) := Lib.hid rfl
  obtain ⟨R, hR⟩ : ∃ R, R = stFits s.q ⟨ms.map Mt.q, A, D⟩ := ⟨_, rfl⟩
  rw [← hR] at HR ⊢
  clear hR K1
  obtain ⟨cb, hcb⟩ : ∃ b, b = cbQ ⟨ms.map Mt.q, A, D⟩ := ⟨_, rfl⟩
  rw [← hcb] at HK1 HR
  cases cb
  case false =>
    clear hcb
    obtain ⟨nm, hnm⟩ : ∃ n, n = ms.length := ⟨_, rfl⟩
    obtain ⟨na, hna⟩ : ∃ n, n = A.length := ⟨_, rfl⟩
    obtain ⟨nd, hnd⟩ : ∃ n, n = D.length := ⟨_, rfl⟩
    rw [← hnm, ← hna, ← hnd] at HK1 hbx hW
    rw [← hnm, ← hna, ← hnd]
    clear hnm hna hnd hg
    go_enter Tryz.func38, Tryz.ntmps38
    go_wp2_with fail
    rw [← hW]
    clear hW
    refine wp_region_tab 23 [(1, fun v _ => v = .bool false)] (by kernel_rfl) (by kernel_rfl) (by kernel_rfl) ⟨stays_eq _, trivial⟩ ?_
    have b0 := held (show W.cell? ⟨w.heap.size, 0, none⟩ = some (.slice am nm cm) by rw [hbx.cell]; rfl)
    have b1 := held (show W.cell? ⟨w.heap.size, 1, none⟩ = some (.slice aa na ca) by rw [hbx.cell]; rfl)
    have b2 := held (show W.cell? ⟨w.heap.size, 2, none⟩ = some (.slice ad nd cd) by rw [hbx.cell]; rfl)
    refine rg_quiet rfl rfl rfl rfl ?_; intro K hK; go_big_quiet_op; go_big_quiet_on
    refine rg_val [] rfl rfl rfl (by kernel_rfl) (fun w1 hE1 hf => ?_) ?_
    · go_simp
      exact (HK1.out w1 (hE.trans hE1)).mono fun e w' ⟨he, hx⟩ => ⟨_, he, rg_done hE1 hx rfl⟩
    simp only [Act.put, List.setIfInBounds_toArray, List.set_cons_zero, List.set_cons_succ]
    refine rg_quiet rfl rfl rfl rfl ?_; intro K hK; go_big_quiet_op; go_big_quiet_on
    refine rel_skip rfl rfl ?_
    simp only [Act.put, List.setIfInBounds_toArray, List.set_cons_zero, List.set_cons_succ]
    refine rel_skip rfl rfl ?_
    simp only [Act.put, List.setIfInBounds_toArray, List.set_cons_zero, List.set_cons_succ]
    refine rel_skip rfl rfl ?_
    simp only [Act.put, List.setIfInBounds_toArray, List.set_cons_zero, List.set_cons_succ]
    refine rel_skip rfl rfl ?_
    simp only [Act.put, List.setIfInBounds_toArray, List.set_cons_zero, List.set_cons_succ]
    refine rel_skip rfl rfl ?_
    simp only [Act.put, List.setIfInBounds_toArray, List.set_cons_zero, List.set_cons_succ]
    refine rel_skip rfl rfl ?_
    simp only [Act.put, List.setIfInBounds_toArray, List.set_cons_zero, List.set_cons_succ]
    refine rel_skip rfl rfl ?_
    simp only [Act.put, List.setIfInBounds_toArray, List.set_cons_zero, List.set_cons_succ]
    refine rg_quiet rfl rfl rfl rfl ?_; intro K hK; go_big_quiet_op; go_big_quiet_on
    refine rg_quiet rfl rfl rfl rfl ?_; intro K hK; go_big_quiet_op; go_big_quiet_on
    refine rel_skip rfl rfl ?_
    simp only [Act.put, List.setIfInBounds_toArray, List.set_cons_zero, List.set_cons_succ]
    refine rel_skip rfl rfl ?_
    simp only [Act.put, List.setIfInBounds_toArray, List.set_cons_zero, List.set_cons_succ]
    refine rel_skip rfl rfl ?_
    simp only [Act.put, List.setIfInBounds_toArray, List.set_cons_zero, List.set_cons_succ]
    refine rel_skip rfl rfl ?_
    simp only [Act.put, List.setIfInBounds_toArray, List.set_cons_zero, List.set_cons_succ]
    refine rel_skip rfl rfl ?_
    simp only [Act.put, List.setIfInBounds_toArray, List.set_cons_zero, List.set_cons_succ]
    refine rel_skip rfl rfl ?_
    simp only [Act.put, List.setIfInBounds_toArray, List.set_cons_zero, List.set_cons_succ]
    refine rel_skip rfl rfl ?_
    simp only [Act.put, List.setIfInBounds_toArray, List.set_cons_zero, List.set_cons_succ]
    refine rel_skip rfl rfl ?_
    simp only [Act.put, List.setIfInBounds_toArray, List.set_cons_zero, List.set_cons_succ]
    refine rel_skip rfl rfl ?_
    simp only [Act.put, List.setIfInBounds_toArray, List.set_cons_zero, List.set_cons_succ]
    refine rg_quiet rfl rfl rfl rfl ?_; intro K hK; go_big_quiet_op; go_big_quiet_on
    refine rg_quiet rfl rfl rfl rfl ?_; intro K hK; go_big_quiet_op; go_big_quiet_on
    refine rel_nil fun w2 hE2 _ => ?_
    go_wp2_with fail
    go_ret
    exact ⟨by rw [HR.out]; rfl, hE.trans hE2⟩
  case true =>
    obtain ⟨hml, hmo⟩ := cbQ_muts hcb.symm
    obtain ⟨hno, hnd⟩ := cbQ_notes hcb.symm
    simp only at hml hmo hno hnd
    rw [List.length_map] at hml
    have hMO : ∀ x ∈ ms, x.table.size ≤ 1000000 ∧ x.pa.key.size ≤ 1000000 ∧ x.pa.ps.length ≤ 100 ∧ ∀ r ∈ x.pa.ps, r.1.cols.length ≤ 8 := fun x hx => by
      obtain ⟨a, b, c, d⟩ := okMq_few (hmo x.q (List.mem_map_of_mem hx))
      refine ⟨by have : x.table.size ≤ 100 := a; omega, by have : x.pa.key.size ≤ 100 := b; omega, ?_, fun r hr => d r.1 (List.mem_map_of_mem hr)⟩
      have : (x.pa.ps.map (·.1)).length ≤ 100 := c
      simpa using this
    have hp0 : w.cell? ⟨s.ps, 1, none⟩ = some (.map (some s.mt)) := by rw [h.box.cell]; rfl
    have hp2 : w.cell? ⟨s.ps, 2, none⟩ = some (.pointer (some ⟨s.pn, 0, none⟩)) := by rw [h.box.cell]; rfl
    have K2 : ∀ w', Ext w w' → Calls Tryz.prog 77 #[.pointer (some ⟨s.ps, 0, none⟩), .slice am ms.length cm] w' fun e w'' => e = .returned (.pointer (some ⟨w'.heap.size + 1, 0, none⟩)) ∧ ∃ tsc, SomeI w' w'' C w'.heap.size (w'.heap.size + 1) s.ts tsc (ms.map Mt.table) := fun w' hx =>
      some_any s.ps _ ms s.ts C s.mt w' (hx.cell hp0) (h.tabs.ext hx) h.len8 ⟨(hg.ext hx).mt.slice, fun m hm => ((hg.ext hx).rows m hm).rows⟩ (fun x hx => (hMO x hx).1) h.full
    have K3 : ∀ z y tsc, Ext w z → SomeI z y C z.heap.size (z.heap.size + 1) s.ts tsc (ms.map Mt.table) → Calls Tryz.prog 78 #[.pointer (some ⟨z.heap.size + 1, 0, none⟩), .slice am ms.length cm] y fun e w' => e = .returned (.bool (mutsQ (s.ts.map Tb.q) (ms.map Mt.q)).1) ∧ Ext z w' := fun z y tsc hz hS => by
      have hlen : tsc.length = s.ts.length := by have := congrArg List.length hS.p; simpa using this
      have hy := hz.trans hS.ext
      refine (muts_any (z.heap.size + 1) _ ms tsc C 8 z.heap.size y (by rw [hS.box.cell]; rfl) (fun hb => hS.at_.noBox (by decide) _ hb _ hS.box) hS.at_ (by rw [hlen]; exact h.len8) ⟨(hg.ext hy).mt, fun m hm => (hg.ext hy).rows m hm⟩ hMO (by omega)).mono ?_
      rintro e w' ⟨ts', rfl, hA, _⟩
      refine ⟨?_, hA.touch.ext hS.ext fun k hk => ?_⟩
      · rw [mutsQ_p (ms.map Mt.q) (ts := tsc.map Tb.q) (us := s.ts.map Tb.q)]
        have := congrArg (List.map fun q : ByteArray × List Pa => (q.1, q.2.map Pa.q)) hS.p
        rw [List.map_map, List.map_map] at this ⊢
        exact this
      · rcases List.mem_cons.1 hk with rfl | hk
        · exact Nat.le_refl _
        · obtain ⟨t, ht, hb⟩ := mem_blocksT.1 hk
          obtain ⟨h1, h2⟩ := mem_namedT.1 ht
          exact hS.done_ t h1 h2 k hb
    have K4 : ∀ w', Ext w w' → Calls Tryz.prog 79 #[.pointer (some ⟨s.pn, 0, none⟩), .slice aa A.length ca, .slice ad D.length cd] w' fun e w'' => e = .returned (.bool (fitsB s.N (notesF A) D)) ∧ Ext w' w'' := fun w' hx =>
      nt_fits _ (notesF A) _ D w' (h.notes.ext hx) h.gn (notesF_in (nts_of (hg.ext hx).nt)) (fun q hq => by
        unfold notesF at hq
        obtain ⟨x, hx, rfl⟩ := List.mem_map.1 hq
        obtain ⟨a, b, c⟩ := hno x hx
        refine ⟨⟨by simp; omega, by simp; omega⟩, ?_⟩
        show x.body.data.toList.length ≤ maxLen
        rw [ba_len']
        unfold maxLen; omega) (ints_of (hg.ext hx).it) (fun n hn => by obtain ⟨a, b⟩ := hnd n hn; omega)
    have HK2 := Lib.hid K2
    have HK3 := Lib.hid K3
    have HK4 := Lib.hid K4
    obtain ⟨nm, hnm⟩ : ∃ n, n = ms.length := ⟨_, rfl⟩
    obtain ⟨na, hna⟩ : ∃ n, n = A.length := ⟨_, rfl⟩
    obtain ⟨ndl, hndl⟩ : ∃ n, n = D.length := ⟨_, rfl⟩
    obtain ⟨b3, hb3⟩ : ∃ b, b = (mutsQ (s.ts.map Tb.q) (ms.map Mt.q)).1 := ⟨_, rfl⟩
    obtain ⟨b4, hb4⟩ : ∃ b, b = fitsB s.N (notesF A) D := ⟨_, rfl⟩
    rw [← hnm] at HK1 HK2 HK3 hbx hW
    rw [← hna] at HK1 HK4 hbx hW
    rw [← hndl] at HK1 HK4 hbx hW
    rw [← hb3] at HK3 HR
    rw [← hb4] at HK4 HR
    rw [← hnm, ← hna, ← hndl]
    have HP2 := Lib.hid hp2
    clear hnm hna hndl hg K2 K3 K4 hb3 hb4 hp0 hp2 hMO hml hmo hno hnd hcb h hMb hAb
    go_enter Tryz.func38, Tryz.ntmps38
    go_wp2_with fail
    rw [← hW]
    clear hW
    refine wp_region_go (by kernel_rfl) (by kernel_rfl) ?_
    have hE' : Ext w W.drew := hE.drew
    change GoAny _ _ _ _ _ W.drew
    replace hbx : BoxAt W.drew w.heap.size #[.slice am nm cm, .slice aa na ca, .slice ad ndl cd] 37 := hbx
    generalize W.drew = W1 at hE' hbx ⊢
    clear hE
    refine goAny_gate 9 [(1, fun v _ => v = .bool true), (6, fun v y => SomeF W1 C s.ts (ms.map Mt.table) v y)] (by omega) (by simp) (by kernel_rfl) (by kernel_rfl) (by kernel_rfl) ⟨stays_eq _, (fun _ _ _ hx h => SomeF.ext hx h), trivial⟩ ?_
    simp only [List.take_succ_cons, List.take_zero, List.drop_zero]
    have b0 := held (show W1.cell? ⟨w.heap.size, 0, none⟩ = some (.slice am nm cm) by rw [hbx.cell]; rfl)
    have b1 := held (show W1.cell? ⟨w.heap.size, 1, none⟩ = some (.slice aa na ca) by rw [hbx.cell]; rfl)
    have b2 := held (show W1.cell? ⟨w.heap.size, 2, none⟩ = some (.slice ad ndl cd) by rw [hbx.cell]; rfl)
    refine rg_quiet rfl rfl rfl rfl ?_; intro K hK; go_big_quiet_op; go_big_quiet_on
    refine rg_val [] rfl rfl rfl (by kernel_rfl) (fun w1 hE1 hf => ?_) ?_
    · go_simp
      exact (HK1.out w1 (hE'.trans hE1)).mono fun e w' ⟨he, hx⟩ => ⟨_, he, rg_done hE1 hx rfl⟩
    simp only [Act.put, List.setIfInBounds_toArray, List.set_cons_zero, List.set_cons_succ]
    refine rg_quiet rfl rfl rfl rfl ?_; intro K hK; go_big_quiet_op; go_big_quiet_on
    refine rg_quiet rfl rfl rfl rfl ?_; intro K hK; go_big_quiet_op; go_big_quiet_on
    refine rg_quiet rfl rfl rfl rfl ?_; intro K hK; go_big_quiet_op; go_big_quiet_on
    refine rg_quiet rfl rfl rfl rfl ?_; intro K hK; go_big_quiet_op; go_big_quiet_on
    refine rg_fact [] rfl rfl rfl (by kernel_rfl) (fun y hY hf => ?_) (fun v6 y6 hE6 hG6 h6 => ?_)
    · go_simp
      exact (HK2.out y (hE'.trans hY)).mono fun e w' ⟨he, tsc, hS⟩ => ⟨_, he, rg_doneR hY hS.ext ⟨y, tsc, rfl, hY, hS⟩⟩
    obtain ⟨z6, rfl⟩ : ∃ q, v6 = .pointer (some ⟨q, 0, none⟩) := let ⟨_, _, e, _⟩ := h6; ⟨_, e⟩
    clear hE6 hG6 h6
    simp only [Act.put, List.setIfInBounds_toArray, List.set_cons_zero, List.set_cons_succ]
    refine rg_quiet rfl rfl rfl rfl ?_; intro K hK; go_big_quiet_op; go_big_quiet_on
    refine rg_quiet rfl rfl rfl rfl ?_; intro K hK; go_big_quiet_op; go_big_quiet_on
    refine rel_nil fun w2 hE2 hG => ?_
    obtain ⟨z, tsc, e6, hz, hS⟩ := (hG 6).2 rfl
    cases e6
    clear hG b0 b1 b2
    refine goAny_one rfl (by kernel_rfl) (by kernel_rfl) ?_
    go_wp2_with (go_at_call 78; go_must (refine (HK3.out z w2 tsc (hE'.trans hz) hS).mono ?_); rintro e w3 ⟨rfl, hx3⟩)
    change GoAny _ _ _ _ _ _
    have hE3 := (hE'.trans hz).trans hx3
    have hb3 := hbx.ext (hz.trans hx3)
    have p2 := hE3.cell HP2.out
    cases b3
    case false =>
      refine goAny_gate 23 [] (by omega) (by simp) (by kernel_rfl) (by kernel_rfl) (by kernel_rfl) trivial ?_
      simp only [List.take_succ_cons, List.take_nil, List.take_zero, List.drop_succ_cons, List.drop_zero]
      refine rg_quiet rfl rfl rfl rfl ?_; intro K hK; go_big_quiet_op; go_big_quiet_on
      refine rg_quiet rfl rfl rfl rfl ?_; intro K hK; go_big_quiet_op; go_big_quiet_on
      refine rel_skip rfl rfl ?_
      simp only [Act.put, List.setIfInBounds_toArray, List.set_cons_zero, List.set_cons_succ]
      refine rel_skip rfl rfl ?_
      simp only [Act.put, List.setIfInBounds_toArray, List.set_cons_zero, List.set_cons_succ]
      refine rel_skip rfl rfl ?_
      simp only [Act.put, List.setIfInBounds_toArray, List.set_cons_zero, List.set_cons_succ]
      refine rel_skip rfl rfl ?_
      simp only [Act.put, List.setIfInBounds_toArray, List.set_cons_zero, List.set_cons_succ]
      refine rel_skip rfl rfl ?_
      simp only [Act.put, List.setIfInBounds_toArray, List.set_cons_zero, List.set_cons_succ]
      refine rel_skip rfl rfl ?_
      simp only [Act.put, List.setIfInBounds_toArray, List.set_cons_zero, List.set_cons_succ]
      refine rel_skip rfl rfl ?_
      simp only [Act.put, List.setIfInBounds_toArray, List.set_cons_zero, List.set_cons_succ]
      refine rel_skip rfl rfl ?_
      simp only [Act.put, List.setIfInBounds_toArray, List.set_cons_zero, List.set_cons_succ]
      refine rel_skip rfl rfl ?_
      simp only [Act.put, List.setIfInBounds_toArray, List.set_cons_zero, List.set_cons_succ]
      refine rg_quiet rfl rfl rfl rfl ?_; intro K hK; go_big_quiet_op; go_big_quiet_on
      refine rg_quiet rfl rfl rfl rfl ?_; intro K hK; go_big_quiet_op; go_big_quiet_on
      refine rel_nil fun w4 hE4 _ => goAny_end ?_ rfl
      go_wp2_with fail
      go_ret
      exact ⟨by rw [HR.out]; rfl, hE3.trans hE4⟩
    case true =>
      refine goAny_gate 23 [(13, fun v _ => v = .pointer (some ⟨s.ps, 0, none⟩)), (20, fun v _ => v = .bool b4)] (by omega) (by simp) (by kernel_rfl) (by kernel_rfl) (by kernel_rfl) ⟨stays_eq _, stays_eq _, trivial⟩ ?_
      simp only [List.take_succ_cons, List.take_nil, List.take_zero, List.drop_succ_cons, List.drop_zero]
      have b1 := held (show w3.cell? ⟨w.heap.size, 1, none⟩ = some (.slice aa na ca) by rw [hb3.cell]; rfl)
      have b2 := held (show w3.cell? ⟨w.heap.size, 2, none⟩ = some (.slice ad ndl cd) by rw [hb3.cell]; rfl)
      have p2' := held p2
      clear p2
      refine rg_quiet rfl rfl rfl rfl ?_; intro K hK; go_big_quiet_op; go_big_quiet_on
      refine rg_quiet rfl rfl rfl rfl ?_; intro K hK; go_big_quiet_op; go_big_quiet_on
      refine rg_quiet rfl rfl rfl rfl ?_; intro K hK; go_big_quiet_op; go_big_quiet_on
      refine rg_val [] rfl rfl rfl (by kernel_rfl) (fun w1 hE hf => ?_) ?_
      · go_simp
        exact rg_done hE (Ext.refl w1) rfl
      simp only [Act.put, List.setIfInBounds_toArray, List.set_cons_zero, List.set_cons_succ]
      refine rg_quiet rfl rfl rfl rfl ?_; intro K hK; go_big_quiet_op; go_big_quiet_on
      refine rg_quiet rfl rfl rfl rfl ?_; intro K hK; go_big_quiet_op; go_big_quiet_on
      refine rg_quiet rfl rfl rfl rfl ?_; intro K hK; go_big_quiet_op; go_big_quiet_on
      refine rg_quiet rfl rfl rfl rfl ?_; intro K hK; go_big_quiet_op; go_big_quiet_on
      refine rg_quiet rfl rfl rfl rfl ?_; intro K hK; go_big_quiet_op; go_big_quiet_on
      refine rg_quiet rfl rfl rfl rfl ?_; intro K hK; go_big_quiet_op; go_big_quiet_on
      refine rg_val [] rfl rfl rfl (by kernel_rfl) (fun w1 hE1 hf => ?_) ?_
      · go_simp
        exact (HK4.out w1 (hE3.trans hE1)).mono fun e w' ⟨he, hx⟩ => ⟨_, he, rg_done hE1 hx rfl⟩
      simp only [Act.put, List.setIfInBounds_toArray, List.set_cons_zero, List.set_cons_succ]
      refine rg_quiet rfl rfl rfl rfl ?_; intro K hK; go_big_quiet_op; go_big_quiet_on
      refine rg_quiet rfl rfl rfl rfl ?_; intro K hK; go_big_quiet_op; go_big_quiet_on
      refine rel_nil fun w4 hE4 _ => goAny_end ?_ rfl
      go_wp2_with fail
      go_ret
      refine ⟨by rw [HR.out]; cases b4 <;> rfl, hE3.trans hE4⟩
end Go.Proofs.YtimbikbbbfpeeaaGreatDoor

/- store: (*Store).put: a batch that fits. -/
namespace Go.Proofs.YtimbikbbbfpeeaaGreatDoor
open Go Go.RowKit
attribute [local go_sem] yields yUpon

/-! ### Plain -/
theorem kput_ne {α : Type} (key : α → ByteArray) (x : α) (L : List α) : kput key x L ≠ [] := fun h => by
  have := mem_kput (key := key) x L
  rw [h] at this
  cases this
theorem joinT_full {t : Tq} {p : Pt} (h : joinB t p = true) : (joinT t p).parts ≠ [] := by
  unfold joinT
  rw [h, if_pos rfl]
  exact kput_ne _ _ _
theorem mutQ1_full' {ts : List Tq} {m : Mq} (h : (mutQ1 ts m).1 = true) (hf : ∀ t ∈ ts, t.parts ≠ []) : ∀ t ∈ (mutQ1 ts m).2, t.parts ≠ [] := by
  unfold mutQ1 at h ⊢
  split
  · exact hf
  · rename_i hc
    rw [if_neg hc] at h
    intro t ht
    rcases kput_mem ht with rfl | ht
    · exact joinT_full h
    · exact hf t ht
theorem mutsQ_full : ∀ (M : List Mq) {ts : List Tq}, (mutsQ ts M).1 = true → (∀ t ∈ ts, t.parts ≠ []) → ∀ t ∈ (mutsQ ts M).2, t.parts ≠ []
  | [], _, _, hf => hf
  | m :: M, ts, h, hf => by
    rw [mutsQ_cons] at h ⊢
    cases hc : (mutQ1 ts m).1
    · rw [hc] at h
      simp only [Bool.false_eq_true, if_false] at h
      rw [hc] at h
      cases h
    · rw [hc] at h
      simp only [if_true] at h ⊢
      exact mutsQ_full M h (mutQ1_full' hc hf)
theorem stAdds_snoc (F A : Fl) (a : Int × List UInt8) : stAdds F (A ++ [a]) = fput a.1 a.2 (stAdds F A) := by simp [stAdds]
theorem good_adds : ∀ {A : Fl} {F : Fl}, Good F → fadds F A = true → Good (stAdds F A)
  | [], _, h, _ => h
  | a :: A, F, h, hA => by
    simp only [fadds, Bool.and_eq_true] at hA
    unfold stAdds
    rw [List.foldl_cons]
    exact good_adds (h.put hA.1) hA.2
theorem fadds_drop : ∀ {A : Fl} {F : Fl} {k : Nat} (_ : fadds F A = true) (hk : k < A.length), addB A[k].1 A[k].2.length (stAdds F (A.take k)) = true
  | [], _, _, _, hk => by simp at hk
  | a :: A, F, 0, h, _ => by
    simp only [fadds, Bool.and_eq_true] at h
    exact h.1
  | a :: A, F, k + 1, h, hk => by
    simp only [fadds, Bool.and_eq_true] at h
    have := fadds_drop (k := k) h.2 (by simpa using hk)
    simpa [stAdds] using this
theorem good_take {A F : Fl} (h : Good F) (hA : fadds F A = true) (k : Nat) : Good (stAdds F (A.take k)) := by
  refine good_adds h ?_
  have : ∀ (A : Fl) (F : Fl) (k : Nat), fadds F A = true → fadds F (A.take k) = true := by
    intro A
    induction A with
    | nil => intro F k _; simp [fadds]
    | cons a A ih =>
      intro F k h
      cases k with
      | zero => rfl
      | succ k =>
        simp only [fadds, Bool.and_eq_true, List.take_succ_cons] at h ⊢
        exact ⟨h.1, ih _ k h.2⟩
  exact this A F k hA

theorem notesF_at (A : List Nt) (k : Nat) (h : k < A.length) (h' : k < (notesF A).length) : (notesF A)[k]'h' = ((A[k]).id, (A[k]).body.data.toList) := List.getElem_map (fun n : Nt => (n.id, n.body.data.toList))

/-! ### In memory -/
section
variable {W0 w w' : World} {C D : Nat} {s : Sto}
theorem StoAt.tbl_sub {b : Nat} (hb : b ∈ s.tbl) : b ∈ s.blocks := by unfold Sto.blocks; exact List.mem_append_right _ hb
theorem StoAt.muts (h : StoAt W0 w C s) {ts : List Tb} {nm : List ByteArray} (A : MutsA w w' D s.mt s.ts ts nm) (hfull : ∀ t ∈ ts, t.parts ≠ []) : StoAt W0 w' D { s with ts := ts } := by
  have hsub : ∀ b ∈ s.mt :: blocksT (namedT nm s.ts), b ∈ s.tbl := fun b hb => by
    unfold Sto.tbl
    rcases List.mem_cons.1 hb with rfl | hb
    · simp
    · obtain ⟨t, ht, hb⟩ := mem_blocksT.1 hb
      exact List.mem_cons_of_mem _ (mem_blocksT.2 ⟨t, (mem_namedT.1 ht).1, hb⟩)
  have ha := h.apart
  have hnew : ∀ b ∈ s.mt :: blocksT ts, b ∈ s.tbl ∨ w.heap.size ≤ b := fun b hb => by
    rcases List.mem_cons.1 hb with rfl | hb
    · exact .inl (by simp [Sto.tbl])
    · exact (A.old b hb).imp (fun h => by unfold Sto.tbl; exact List.mem_cons_of_mem _ h) id
  refine ⟨h.tab, h.ext_touch A.touch fun b hb => .inl (StoAt.tbl_sub (hsub b hb)), fun b hb => ?_, A.touch.box h.box fun hb => ha.2.2.2.2.2.2.2.1 (hsub _ hb), h.shelf.touch A.touch (fun hb => ha.2.2.2.2.2.2.2.2.1 (hsub _ hb)) (fun hb => h.mft (hsub _ hb)),
    h.notes.touch A.touch (fun hb => ha.2.2.2.2.2.2.2.2.2 (hsub _ hb)) (fun hb => h.mnt (hsub _ hb)), A.at_, A.touch.tin ((h.tabs.noBox (by decide)).sub hsub) h.fl, h.gn, hfull, A.len, h.mfn, fun hb => ?_, fun hb => ?_⟩
  · have hb' : b ∈ [s.ps, s.pd, s.mf, s.pn, s.mn] ++ (s.mt :: blocksT ts) := hb
    rcases List.mem_append.1 hb' with hb' | hb'
    · exact h.low b (by unfold Sto.blocks; exact List.mem_append_left _ hb')
    · rcases hnew b hb' with h1 | h1
      · exact h.low b (StoAt.tbl_sub h1)
      · exact Nat.le_trans h.base.size h1
  · have hb' : s.mf ∈ s.mt :: blocksT ts := hb
    rcases hnew _ hb' with h1 | h1
    · exact h.mft h1
    · have := h.shelf.files.lt; omega
  · have hb' : s.mn ∈ s.mt :: blocksT ts := hb
    rcases hnew _ hb' with h1 | h1
    · exact h.mnt h1
    · have := h.notes.files.lt; omega
theorem StoAt.note (h : StoAt W0 w C s) {N : Fl} (hT : Touch w w' [s.mn]) (hn : NoteAt w' s.pn s.mn N) (hg : Good N) : StoAt W0 w' C { s with N := N } := by
  have ha := h.apart
  have hno : ∀ e, NoBox w [s.mn] e := fun e => NoBox.files h.notes.files e
  refine ⟨h.tab, h.ext_touch hT fun b hb => .inl (by rw [List.mem_singleton.1 hb]; simp [Sto.blocks]), h.low, hT.box h.box (by simpa using ha.2.2.2.1), h.shelf.touch hT (by simpa using ha.2.2.2.2.2.1) (by simpa using h.mfn), hn,
    h.tabs.touch hT (fun b hb hb' => by rw [List.mem_singleton.1 hb'] at hb; exact h.mnt hb) (hno _) (hno _), hT.tin (hno _) h.fl, hg, h.full, h.len8, h.mfn, h.mft, h.mnt⟩
end
/-- A store turned: some blocks that it had have turned; it has those and new ones. -/
structure Turned (w w' : World) (s s' : Sto) : Prop where
  touch : Touch w w' s.blocks
  old : ∀ b ∈ s'.blocks, b ∈ s.blocks ∨ w.heap.size ≤ b
theorem Turned.refl (w : World) (s : Sto) : Turned w w s s := ⟨Touch.refl _ _, fun _ h => .inl h⟩
theorem Turned.trans {a b c : World} {s t u : Sto} (h : Turned a b s t) (k : Turned b c t u) : Turned a c s u :=
  ⟨(h.touch.trans k.touch).mono fun x hx hlt => by
    rcases List.mem_append.1 hx with hx | hx
    · exact hx
    · rcases h.old x hx with h1 | h1
      · exact h1
      · omega, fun x hx => by
    rcases k.old x hx with h1 | h1
    · exact h.old x h1
    · exact .inr (Nat.le_trans h.touch.size h1)⟩
theorem Turned.ext {a b : World} (h : Ext a b) (s : Sto) : Turned a b s s := ⟨Touch.of_ext h _, fun _ h => .inl h⟩
theorem Turned.of {a b : World} {s s' : Sto} {K : List Nat} (h : Touch a b K) (hK : ∀ k ∈ K, k ∈ s.blocks) (hb : s'.blocks = s.blocks) : Turned a b s s' := ⟨h.mono fun k hk _ => hK k hk, fun x hx => .inl (hb ▸ hx)⟩

set_option maxRecDepth 100000 in
set_option maxHeartbeats 8000000 in
theorem stput_any (W0 w : World) (C : Nat) (s : Sto) (h : StoAt W0 w C s) (vm va vd : Value) (ms : List Mt) (A : List Nt) (D : List Int) (hg : Got w vm va vd ms A D) (hC : C + 512 ≤ 400000) (hfit : stFits s.q ⟨ms.map Mt.q, A, D⟩ = true) :
    Calls Tryz.prog 40 #[.pointer (some ⟨s.ps, 0, none⟩), .agg #[vm, va, vd]] w fun e w' => e = .returned (.tuple #[]) ∧ ∃ ts N, StoAt W0 w' (C + 512) { s with ts := ts, N := N } ∧ ({ s with ts := ts, N := N } : Sto).q = stPut s.q ⟨ms.map Mt.q, A, D⟩ ∧ Turned w w' s { s with ts := ts, N := N } ∧ Touch w w' (s.tbl ++ [s.mn]) := by
  have hfit' := hfit
  unfold stFits at hfit'
  simp only [Bool.and_eq_true] at hfit'
  obtain ⟨⟨hcb, hmu⟩, hno⟩ := hfit'
  have hmu' : (mutsQ (s.ts.map Tb.q) (ms.map Mt.q)).1 = true := hmu
  have hno' : fadds (fdels s.N D) (notesF A) = true := hno
  obtain ⟨hml, hmo⟩ := cbQ_muts hcb
  obtain ⟨hnn, hnd⟩ := cbQ_notes hcb
  obtain ⟨hal, hdl⟩ := cbQ_lens hcb
  simp only at hml hmo hnn hnd hal hdl
  rw [List.length_map] at hml
  have hMO : ∀ x ∈ ms, x.table.size ≤ 1000000 ∧ x.pa.key.size ≤ 1000000 ∧ x.pa.ps.length ≤ 100 ∧ ∀ r ∈ x.pa.ps, r.1.cols.length ≤ 8 := fun x hx => by
    obtain ⟨a, b, c, d⟩ := okMq_few (hmo x.q (List.mem_map_of_mem hx))
    refine ⟨by have : x.table.size ≤ 100 := a; omega, by have : x.pa.key.size ≤ 100 := b; omega, ?_, fun r hr => d r.1 (List.mem_map_of_mem hr)⟩
    have : (x.pa.ps.map (·.1)).length ≤ 100 := c
    simpa using this
  obtain ⟨am, cm, rfl⟩ := hg.mt.shape
  obtain ⟨aa, ca, rfl⟩ := hg.nt.shape
  obtain ⟨ad, cd, rfl⟩ := hg.it.shape
  obtain ⟨W, hW⟩ : ∃ W, W = w.alloc (.cells #[.slice am ms.length cm, .slice aa A.length ca, .slice ad D.length cd] 37) := ⟨_, rfl⟩
  have hE : Ext w W := by rw [hW]; exact (Ext.refl w).alloc _
  have hbx : BoxAt W w.heap.size #[.slice am ms.length cm, .slice aa A.length ca, .slice ad D.length cd] 37 := by rw [hW]; exact BoxAt.made w _ _
  have hW1 := h.ext hE
  have hg1 := hg.ext hE
  have hp0 : W.cell? ⟨s.ps, 1, none⟩ = some (.map (some s.mt)) := by rw [hW1.box.cell]; rfl
  have K1 : Calls Tryz.prog 78 #[.pointer (some ⟨s.ps, 0, none⟩), .slice am ms.length cm] W fun e w' => e = .returned (.bool true) ∧ ∃ ts, StoAt W0 w' (C + 512) { s with ts := ts } ∧ ts.map Tb.q = (mutsQ (s.ts.map Tb.q) (ms.map Mt.q)).2 ∧ Turned W w' s { s with ts := ts } ∧ Touch W w' s.tbl := by
    refine (muts_any s.ps _ ms s.ts C 8 s.mt W hp0 hW1.apart.2.2.2.2.2.2.2.1 hW1.tabs h.len8 ⟨hg1.mt, hg1.rows⟩ hMO (by omega)).mono ?_
    rintro e w' ⟨ts, rfl, hA, hq⟩
    have hfull : ∀ t ∈ ts, t.parts ≠ [] := fun t ht e => by
      have hf := mutsQ_full (ms.map Mt.q) hmu' (fun u hu => by
        obtain ⟨x, hx, rfl⟩ := List.mem_map.1 hu
        have := h.full x hx
        simpa [Tb.q] using this) t.q (by rw [← hq]; exact List.mem_map_of_mem ht)
      apply hf
      show t.parts.map Pa.q = []
      rw [e]; rfl
    have hsub : ∀ b ∈ s.mt :: blocksT (namedT (ms.map Mt.table) s.ts), b ∈ s.tbl := fun b hb => by
      unfold Sto.tbl
      rcases List.mem_cons.1 hb with rfl | hb
      · simp
      · obtain ⟨t, ht, hb⟩ := mem_blocksT.1 hb
        exact List.mem_cons_of_mem _ (mem_blocksT.2 ⟨t, (mem_namedT.1 ht).1, hb⟩)
    refine ⟨by rw [hmu'], ts, (hW1.muts (hA.mono (by omega)) hfull), hq, ⟨hA.touch.mono fun k hk _ => StoAt.tbl_sub (hsub k hk), fun b hb => ?_⟩, hA.touch.mono fun k hk _ => hsub k hk⟩
    have hb' : b ∈ [s.ps, s.pd, s.mf, s.pn, s.mn] ++ (s.mt :: blocksT ts) := hb
    rcases List.mem_append.1 hb' with hb' | hb'
    · exact .inl (by unfold Sto.blocks; exact List.mem_append_left _ hb')
    · rcases List.mem_cons.1 hb' with rfl | hb'
      · exact .inl (StoAt.tbl_sub (by simp [Sto.tbl]))
      · exact (hA.old b hb').imp (fun h => StoAt.tbl_sub (by unfold Sto.tbl; exact List.mem_cons_of_mem _ h)) id
  have HG1 := Lib.hid hg1
  have HH := Lib.hid hW1
  have HQ : Hid (stPut s.q ⟨ms.map Mt.q, A, D⟩ = ⟨(mutsQ (s.ts.map Tb.q) (ms.map Mt.q)).2, stAdds (fdels s.N D) (notesF A)⟩) := Lib.hid rfl
  have HNO := Lib.hid hno'
  have HNN := Lib.hid hnn
  have HND := Lib.hid hnd
  obtain ⟨nm, hnm⟩ : ∃ n, n = ms.length := ⟨_, rfl⟩
  obtain ⟨na, hna⟩ : ∃ n, n = A.length := ⟨_, rfl⟩
  obtain ⟨ndl, hndl⟩ : ∃ n, n = D.length := ⟨_, rfl⟩
  rw [← hnm] at K1 hbx hW HG1 ⊢
  rw [← hna] at hbx hW HG1 hal ⊢
  rw [← hndl] at hbx hW HG1 hdl ⊢
  have HNA := Lib.hid hna
  have HND' := Lib.hid hndl
  clear hnm hna hndl hg hp0 hMO hml hmo hnn hnd hcb h hfit hmu hno hmu' hno' hW1 hg1
  go_enter Tryz.func40, Tryz.ntmps40
  go_wp2_with fail
  rw [hW] at K1
  refine K1.mono ?_
  rintro e w1 ⟨rfl, ts, hS1, hq1, hT1, ht1⟩
  rw [← hW] at ht1 hT1
  have hno0 : ∀ e, 77 ≠ e → 72 ≠ e → 116 ≠ e → 99 ≠ e → NoBox W (s.tbl ++ [s.mn]) e := fun e e1 e2 e3 e4 => (HH.out.noBox e1 e2 e3 e4).sub fun b hb => by
    rcases List.mem_append.1 hb with hb | hb
    · exact StoAt.tbl_sub hb
    · rw [List.mem_singleton.1 hb]; simp [Sto.blocks]
  have hbk : w.heap.size ∉ s.tbl ++ [s.mn] := fun hb => hno0 37 (by decide) (by decide) (by decide) (by decide) _ hb _ hbx
  have hK0 : ∀ b ∈ s.tbl ++ [s.mn], b ∈ s.blocks := fun b hb => by
    rcases List.mem_append.1 hb with hb | hb
    · exact StoAt.tbl_sub hb
    · rw [List.mem_singleton.1 hb]; simp [Sto.blocks]
  have HK0 := Lib.hid hK0
  have HBK := Lib.hid hbk
  have HBX := Lib.hid hbx
  have HE := Lib.hid hE
  have HQ1 := Lib.hid hq1
  have HT1 := Lib.hid hT1
  have ht1' : Touch W w1 (s.tbl ++ [s.mn]) := ht1.mono fun k hk _ => List.mem_append_left _ hk
  have hb1 := ht1'.box hbx hbk
  have z1 : w1.cell? ⟨w.heap.size, 2, none⟩ = some (.slice ad ndl cd) := by rw [hb1.cell]; rfl
  clear K1 hno0 hK0 hbk hbx hE hq1 hT1 ht1 hW hb1
  go_wp2_with fail
  obtain ⟨w2, rfl⟩ : ∃ w', w' = w1 := ⟨_, rfl⟩
  go_loopw [15] (fun i wr => ∃ k : Nat, k ≤ ndl ∧ i = .int .i64 (k : Int) ∧ StoAt W0 wr (C + 512) { s with ts := ts, N := fdels s.N (D.take k) } ∧ Touch W wr (s.tbl ++ [s.mn])) (fun i _ => ndl - (intOf i).toNat)
  case atStart => exact ⟨0, Nat.zero_le _, rfl, hS1, ht1'⟩
  case round =>
    obtain ⟨k, hk, rfl, hS, hT⟩ := hrel
    clear hS1 ht1' z1
    have hbw := hT.box HBX.out HBK.out
    by_cases hlt : k < ndl
    · have hkF : k < D.length := by rw [← HND'.out]; exact hlt
      have hGr := HH.out.got HG1.out hT fun b hb => .inl (HK0.out b hb)
      obtain ⟨a1, c1, ee, _, _, _, hget⟩ := ints_of hGr.it
      injection ee with ea en ec
      subst ea
      clear en ec
      obtain ⟨b, o, e1, g0⟩ := hget k (.int .i64 (D[k])) (by rw [kcells_get, List.getElem?_eq_getElem hkF]; rfl)
      subst e1
      obtain ⟨n1, n2⟩ := HND.out _ (List.getElem_mem hkF)
      have htake : fdels s.N (D.take (k + 1)) = fdel D[k] (fdels s.N (D.take k)) := by rw [List.take_succ_eq_append_getElem hkF, fdels_snoc]
      obtain ⟨d, hd⟩ : ∃ d, d = D[k] := ⟨_, rfl⟩
      rw [← hd] at g0 n1 n2 htake
      have HTK := Lib.hid htake
      clear hd htake hget hGr
      have p2 : wr.cell? ⟨s.ps, 2, none⟩ = some (.pointer (some ⟨s.pn, 0, none⟩)) := by rw [hS.box.cell]; rfl
      have t1 : decide ((k : Int) < (ndl : Int)) = true := by simp; omega
      have HS := Lib.hid hS
      have HT := Lib.hid hT
      clear hS hT
      go_wp2_with (go_at_call 80; go_must (refine (nt_drop d (by omega) (by omega) wr HS.out.notes).mono ?_); rintro e w3 ⟨⟨rfl, ht3⟩, hn3⟩)
      have hS3 := HS.out.note ht3 hn3 (HS.out.gn.del d)
      go_roundw
      case rel => exact ⟨k + 1, by omega, by go_num, by rw [HTK.out]; exact hS3, (HT.out.trans ht3).mono fun x hx _ => by
        rcases List.mem_append.1 hx with hx | hx
        · exact hx
        · exact List.mem_append_right _ hx⟩
      case measure => simp [intOf]; omega
    · obtain rfl : k = ndl := by omega
      have hD : D.take k = D := List.take_of_length_le (by rw [HND'.out]; exact Nat.le_refl _)
      rw [hD] at hS
      have z1 : wr.cell? ⟨w.heap.size, 1, none⟩ = some (.slice aa na ca) := by rw [hbw.cell]; rfl
      clear hD
      go_wp2_with fail
      clear z1
      obtain ⟨w3, rfl⟩ : ∃ w', w' = wr := ⟨_, rfl⟩
      go_loopw [29] (fun i wr => ∃ k : Nat, k ≤ na ∧ i = .int .i64 (k : Int) ∧ StoAt W0 wr (C + 512) { s with ts := ts, N := stAdds (fdels s.N D) ((notesF A).take k) } ∧ Touch W wr (s.tbl ++ [s.mn])) (fun i _ => na - (intOf i).toNat)
      case atStart => exact ⟨0, Nat.zero_le _, rfl, hS, hT⟩
      case round =>
        obtain ⟨k, hk, rfl, hS, hT⟩ := hrel
        have hbw := hT.box HBX.out HBK.out
        by_cases hlt : k < na
        · have hkF : k < A.length := by rw [← HNA.out]; exact hlt
          have hkN : k < (notesF A).length := by unfold notesF; rw [List.length_map]; exact hkF
          have hGr := HH.out.got HG1.out hT fun b hb => .inl (HK0.out b hb)
          obtain ⟨a1, c1, ee, _, _, hget⟩ := (nts_of hGr.nt).get
          injection ee with ea en ec
          subst ea
          clear en ec
          obtain ⟨b, o, e1, g0, g1⟩ := hget k hkF
          subst e1
          obtain ⟨n1, n2, n3⟩ := HNN.out _ (List.getElem_mem hkF)
          have hnk : (notesF A)[k] = ((A[k]).id, (A[k]).body.data.toList) := notesF_at A k hkF hkN
          have hadd := fadds_drop HNO.out hkN
          have htake : stAdds (fdels s.N D) ((notesF A).take (k + 1)) = fput (A[k]).id (A[k]).body.data.toList (stAdds (fdels s.N D) ((notesF A).take k)) := by rw [List.take_succ_eq_append_getElem hkN, stAdds_snoc, hnk]
          rw [hnk] at hadd
          obtain ⟨d, hd⟩ : ∃ d, d = (A[k]).id := ⟨_, rfl⟩
          obtain ⟨bd, hbd⟩ : ∃ d, d = (A[k]).body := ⟨_, rfl⟩
          rw [← hd] at g0 n1 n2 htake hadd
          rw [← hbd] at g1 n3 htake hadd
          simp only [ba_len'] at hadd
          have HTK := Lib.hid htake
          have HAD := Lib.hid hadd
          clear hd hbd htake hget hGr hnk hadd
          have p2 : wr.cell? ⟨s.ps, 2, none⟩ = some (.pointer (some ⟨s.pn, 0, none⟩)) := by rw [hS.box.cell]; rfl
          have t1 : decide ((k : Int) < (na : Int)) = true := by simp; omega
          have HS := Lib.hid hS
          have HT := Lib.hid hT
          have hNl : (stAdds (fdels s.N D) ((notesF A).take k)).length ≤ 1000000 := by have := hS.gn.len; simp only at this; omega
          obtain ⟨Wn, hWn⟩ : ∃ W, W = wr.alloc (.cells #[.int .i64 d, .string bd] 32) := ⟨_, rfl⟩
          have hEW : Ext wr Wn := by rw [hWn]; exact (Ext.refl wr).alloc _
          have hbm : BoxAt Wn wr.heap.size #[.int .i64 d, .string bd] 32 := by rw [hWn]; exact BoxAt.made wr _ _
          have p2' := hEW.cell p2
          have HNL := Lib.hid hNl
          clear hS hT p2 hNl
          go_wp2_with fail
          rw [← hWn]
          clear hWn
          refine wp_region_tab 5 [(1, fun v _ => v = .pointer (some ⟨s.ps, 0, none⟩))] (by kernel_rfl) (by kernel_rfl) (by kernel_rfl) ⟨stays_eq _, trivial⟩ ?_
          have z0 := held p2'
          have m0 := held (show Wn.cell? ⟨wr.heap.size, 0, none⟩ = some (.int .i64 d) by rw [hbm.cell]; rfl)
          have m1 := held (show Wn.cell? ⟨wr.heap.size, 1, none⟩ = some (.string bd) by rw [hbm.cell]; rfl)
          refine rg_quiet rfl rfl rfl rfl ?_; intro K hK; go_big_quiet_op; go_big_quiet_on
          refine rg_val [] rfl rfl rfl (by kernel_rfl) (fun w1 hE hf => ?_) ?_
          · go_simp
            exact rg_done hE (Ext.refl w1) rfl
          simp only [Act.put, List.setIfInBounds_toArray, List.set_cons_zero, List.set_cons_succ]
          refine rg_quiet rfl rfl rfl rfl ?_; intro K hK; go_big_quiet_op; go_big_quiet_on
          refine rg_quiet rfl rfl rfl rfl ?_; intro K hK; go_big_quiet_op; go_big_quiet_on
          refine rg_quiet rfl rfl rfl rfl ?_; intro K hK; go_big_quiet_op; go_big_quiet_on
          refine rel_tail rfl rfl fun w4 hE4 hG => ?_
          clear hG z0 m0 m1 p2'
          have hE14 := hEW.trans hE4
          have hS4 := HS.out.ext hE14
          go_wp2_with (go_at_call 61; go_must (refine (nt_add d (by omega) (by omega) bd (by unfold maxLen; omega) HNL.out w4 hS4.notes).mono ?_); rintro e w5 ⟨⟨rfl, ht5⟩, hn5⟩)
          rw [HAD.out, if_pos rfl] at hn5
          have hS5 := hS4.note ht5 hn5 (hS4.gn.put HAD.out)
          go_roundw
          case rel => exact ⟨k + 1, by omega, by go_num, by rw [HTK.out]; exact hS5, ((HT.out.trans (Touch.of_ext hE14 [])).trans ht5).mono fun x hx _ => by
            rcases List.mem_append.1 hx with hx | hx
            · rcases List.mem_append.1 hx with hx | hx
              · exact hx
              · cases hx
            · exact List.mem_append_right _ hx⟩
          case measure => simp [intOf]; omega
        · obtain rfl : k = na := by omega
          have hA : (notesF A).take k = notesF A := List.take_of_length_le (by unfold notesF; rw [List.length_map, HNA.out]; exact Nat.le_refl _)
          rw [hA] at hS
          go_wp2_with fail
          go_end0
          refine ⟨rfl, ts, _, hS, ?_, (Turned.ext HE.out s).trans ⟨hT.mono fun x hx _ => HK0.out x hx, HT1.out.old⟩, ((Touch.of_ext HE.out []).trans hT).mono fun x hx _ => by simpa using hx⟩
          rw [HQ.out]
          show (⟨ts.map Tb.q, _⟩ : Sq) = _
          rw [HQ1.out]
end Go.Proofs.YtimbikbbbfpeeaaGreatDoor

/- b[:hi], b[lo:] of a slice of bytes, as opaque values. -/
namespace Go.Proofs.YtimbikbbbfpeeaaGreatDoor
open Go Go.RowKit

section
variable {ops : Array Oper} {Q : Exit → Act → World → Prop} {a : Act} {w : World} {rest : List Oper} {o : Oper}
theorem run_subTo {ad : Option Addr} {n c hi : Nat} (h2 : hi ≤ n) (h3 : n ≤ c) (w : World) :
    ∃ v, (Instr.sliceAt 61 (.slice ad n c) none (some (.int .i64 (hi : Int))) none).run Tryz.prog w = .ok v w ∧ v = subV ad c 0 hi := by
  obtain ⟨i, hi', hs⟩ := Option.map_eq_some_iff.1 size_u8
  have e2 : (0 : Int) ≤ (hi : Int) ∧ (hi : Int) ≤ (c : Int) := ⟨by omega, by omega⟩
  have e4 : hi ≤ c := by omega
  refine ⟨_, ?_, rfl⟩
  simp [Instr.sliceAt, Instr.slice, Instr.sliceBounds, Instr.sliceBound, run_underlying und_bytes, sizeOf, typeInfo, hi', hs, go_sem, e2, e4, subV]
theorem run_subFrom {ad : Option Addr} {n c lo : Nat} (h1 : lo ≤ n) (h3 : n ≤ c) (w : World) :
    ∃ v, (Instr.sliceAt 61 (.slice ad n c) (some (.int .i64 (lo : Int))) none none).run Tryz.prog w = .ok v w ∧ v = subV ad c lo n := by
  obtain ⟨i, hi', hs⟩ := Option.map_eq_some_iff.1 size_u8
  have e1 : (0 : Int) ≤ (lo : Int) ∧ (lo : Int) ≤ (n : Int) := ⟨by omega, by omega⟩
  have e2 : (0 : Int) ≤ (n : Int) ∧ (n : Int) ≤ (c : Int) := ⟨by omega, by omega⟩
  refine ⟨_, ?_, rfl⟩
  simp [Instr.sliceAt, Instr.slice, Instr.sliceBounds, Instr.sliceBound, run_underlying und_bytes, sizeOf, typeInfo, hi', hs, go_sem, e1, e2, h1, h3, subV]
theorem wpList_subTo (hw : Region.wanted o (yielded ops a.tmps) = true) (s y : Operand) (hop : o.op = Op.slice 61 s none (some y) none) {ad : Option Addr} {c hi : Nat} {l : List UInt8} (hs : a.eval s = .slice ad l.length c) (hy : a.eval y = .int .i64 (hi : Int))
    (h : BytesIn w (.slice ad l.length c) l) (h2 : hi ≤ l.length) (hK : ∀ u, BytesIn w u (l.take hi) → wpList Tryz.prog ops Q rest (a.put o.dst u) w) : wpList Tryz.prog ops Q (o :: rest) a w := by
  have hlc : l.length ≤ c := by obtain ⟨a', c', e, hc, _⟩ := h; cases e; exact hc
  obtain ⟨v, hr, rfl⟩ := run_subTo (ad := ad) h2 hlc w
  unfold wpList
  rw [if_pos hw]
  refine .inl (yields_wp (R := fun v w' => v = subV ad c 0 hi ∧ w' = w) ?_ fun v w' ⟨e1, e2⟩ => by rw [e1, e2]; exact hK _ (by have := sub_bytes (lo := 0) h (by omega) h2; simpa using this))
  unfold yields execOp
  simp only [hop, Option.map_some, Option.map_none, hs, hy, Sem.run_bind, hr, Result.andThen_ok, Sem.run_pure]
  exact ⟨rfl, rfl⟩
theorem wpList_subFrom (hw : Region.wanted o (yielded ops a.tmps) = true) (s x : Operand) (hop : o.op = Op.slice 61 s (some x) none none) {ad : Option Addr} {c lo : Nat} {l : List UInt8} (hs : a.eval s = .slice ad l.length c) (hx : a.eval x = .int .i64 (lo : Int))
    (h : BytesIn w (.slice ad l.length c) l) (h1 : lo ≤ l.length) (hK : ∀ u, BytesIn w u (l.drop lo) → wpList Tryz.prog ops Q rest (a.put o.dst u) w) : wpList Tryz.prog ops Q (o :: rest) a w := by
  have hlc : l.length ≤ c := by obtain ⟨a', c', e, hc, _⟩ := h; cases e; exact hc
  obtain ⟨v, hr, rfl⟩ := run_subFrom (ad := ad) h1 hlc w
  unfold wpList
  rw [if_pos hw]
  refine .inl (yields_wp (R := fun v w' => v = subV ad c lo l.length ∧ w' = w) ?_ fun v w' ⟨e1, e2⟩ => by rw [e1, e2]; exact hK _ (by have := sub_bytes (hi := l.length) h h1 (Nat.le_refl _); rwa [List.take_of_length_le (by simp)] at this))
  unfold yields execOp
  simp only [hop, Option.map_some, Option.map_none, hs, hx, Sem.run_bind, hr, Result.andThen_ok, Sem.run_pure]
  exact ⟨rfl, rfl⟩
end
end Go.Proofs.YtimbikbbbfpeeaaGreatDoor
