/- What is seen of a view that all deltas were put into is what the base has there (plain law). -/
import Derived.Test.YteamiiekpjoclaaM24
import Derived.Test.YteamiiekpjoclaaM15
import Derived.Test.YteamiiekpjoclaaM18
import Derived.Test.YteamiiekpjoclaaM2
namespace Go.Proofs.Yteamiiekpjoclaa
open Go Go.RowKit

def fOff (x : Vw) (k : List UInt8) : Bool := !(k == x.on.data.toList)
/-- A row without the column that says where. -/
def offR (x : Vw) (r : Ro) : Ro := ⟨r.key, r.live, r.gone, r.shade, flt (fOff x) r.cols⟩
/-- What is seen of a view. -/
def seenV (x : Vw) (V : Vi) (t : Int) : List (ByteArray × Ro) := V.flatMap fun q => (seenRs q.2 0 t true).map fun r => (q.1, offR x r)
section
variable {x : Vw} {ns : List ByteArray} {pk : ByteArray}
theorem ro_parts {a b : Ro} (h : joinRo a b = a) : joinCl a.live b.live = a.live ∧ max a.gone b.gone = a.gone ∧ max a.shade b.shade = a.shade ∧ mergeCo a.cols b.cols = a.cols :=
  ⟨congrArg Ro.live h, congrArg Ro.gone h, congrArg Ro.shade h, congrArg Ro.cols h⟩
theorem end_mirror {p : Dp} {D : List (ByteArray × Ro)} {k a : ByteArray} {R y : Ro} (ho : OkD p) (h : KInv x ns pk p D k) (hm : mOf x ns pk p k = some (a, R))
    (hy : Jd (fun s => (a, s) ∈ D ∧ s.key = vkey pk k) y) (hR : joinRo y R = y) : y.live = R.live ∧ y.gone = R.gone ∧ y.shade < R.live.at_ ∧ flt (fOff x) y.cols = flt (fOff x) R.cols := by
  have uR : Up kCo R.cols := (Dl.mirror ho hm).up
  obtain ⟨hb, ha, e⟩ := mir_some hm
  obtain ⟨b1, b2, b3⟩ := bestB_at hb
  have ur := ho.up k
  have each : ∀ s, ((a, s) ∈ D ∧ s.key = vkey pk k) → Up kCo s.cols := fun s hs => (h.each a s hs.1 hs.2).up
  have uy := hy.up each
  have hU := hy.under (U := ⟨vkey pk k, R.live, R.gone, R.live.at_ - 1, flt (fOn x ns) (rowOf p.2 k).cols⟩) (flt_up ur) each (fun s hs => by
    have d := h.each a s hs.1 hs.2
    have hl : cmpCl s.live R.live ≤ 0 ∧ s.shade ≤ R.live.at_ - 1 := by
      rw [e]
      rcases d.kind with ⟨k1, k2, k3, k4⟩ | ⟨k1, k2⟩
      · refine ⟨?_, by show s.shade ≤ (cOf x p k).at_ - 1; omega⟩
        rw [k3]
        have ec : cOf x p k = ⟨a, false, (cOf x p k).at_, (cOf x p k).fin⟩ := by rw [ha, ← b1]
        rw [ec] at k4
        exact le_noval k4
      · refine ⟨by rw [k1]; exact zLe (by show 0 < (cOf x p k).at_; omega), ?_⟩
        have := k2 (cOf x p k) b1 ha.symm (by rw [cmpCl_self]; exact Int.le_refl _) b3
        show s.shade ≤ (cOf x p k).at_ - 1
        omega
    have hg : s.gone ≤ R.gone := by rw [e]; exact d.gone
    unfold joinRo
    simp only [Ro.mk.injEq, true_and]
    exact ⟨join_of_le hl.1, by omega, by omega, d.cols⟩)
  obtain ⟨j1, j2, j3, j4⟩ := ro_parts hR
  obtain ⟨u1, u2, u3, u4⟩ := ro_parts hU
  simp only at u1 u2 u3 u4
  refine ⟨?_, by omega, by omega, ?_⟩
  · exact le_antisymm (le_of_join u1) (le_of_join j1)
  · refine leC_anti (flt_up uy) (flt_up uR) ?_ (leC_flt uR uy (fun _ h => h) j4)
    have h1 : LeC (flt (fOff x) y.cols) (flt (fOff x) (flt (fOn x ns) (rowOf p.2 k).cols)) := leC_flt uy (flt_up ur) (fun _ h => h) u4
    have e2 : flt (fOff x) (flt (fOn x ns) (rowOf p.2 k).cols) = flt (fOff x) R.cols := by
      rw [e, flt_flt, flt_flt]
      congr 1
      funext j
      unfold fOff fOn
      cases fK ns j <;> cases (j == x.on.data.toList) <;> rfl
    rw [← e2]
    exact h1
theorem end_other {p : Dp} {D : List (ByteArray × Ro)} {k a : ByteArray} {y : Ro} (h : KInv x ns pk p D k) (hm : ∀ R, mOf x ns pk p k ≠ some (a, R))
    (hy : Jd (fun s => (a, s) ∈ D ∧ s.key = vkey pk k) y) (hc : ∀ s, (a, s) ∈ D → s.key = vkey pk k → joinRo y s = y) : y.live.at_ ≤ 0 ∨ y.live.at_ ≤ y.shade := by
  obtain ⟨s, ⟨hs, hk⟩, hle⟩ := hy.at_le
  rcases h.live a s hs hk with h1 | ⟨P, e, _⟩ | ⟨s', hs', hk', h1⟩
  · exact .inl (by omega)
  · exact absurd e (hm P)
  · obtain ⟨_, _, j3, _⟩ := ro_parts (hc s' hs' hk')
    exact .inr (by omega)
theorem seenCos_flt (f : List UInt8 → Bool) (l : List Co) (g t : Int) : seenCos (flt f l) g t = flt f (seenCos l g t) := by
  unfold seenCos flt
  rw [List.filter_filter, List.filter_filter]
  congr 1
  funext c
  exact Bool.and_comm ..
theorem seen_same {a : ByteArray} {R y : Ro} (t : Int) (h0 : y.key = R.key) (h1 : y.live = R.live) (h2 : y.gone = R.gone) (h3 : y.shade < R.live.at_) (h4 : flt (fOff x) y.cols = flt (fOff x) R.cols) (h5 : flt (fOff x) R.cols = R.cols) (h6 : R.shade < R.live.at_) :
    (if isB y (max y.gone 0) t true then some (a, offR x (seenRo y 0 t)) else none) = selP t (a, R) := by
  unfold selP
  have e : isB y (max y.gone 0) t true = isB R (max R.gone 0) t true := by
    unfold isB liveB
    rw [h1, h2, show decide (y.shade < R.live.at_) = true by simpa using h3, show decide (R.shade < R.live.at_) = true by simpa using h6]
    rfl
  rw [e]
  show (if isB R (max R.gone 0) t true = true then some (a, offR x (seenRo y 0 t)) else none) = if isB R (max R.gone 0) t true = true then some (a, seenRo R 0 t) else none
  congr 2
  unfold offR seenRo
  simp only
  rw [← seenCos_flt, h4, h5, h0, h1, h2]
theorem off_mir {p : Dp} {k a : ByteArray} {R : Ro} (hon : fK ns x.on.data.toList = false) (hm : mOf x ns pk p k = some (a, R)) : flt (fOff x) R.cols = R.cols ∧ R.shade < R.live.at_ := by
  obtain ⟨hb, _, e⟩ := mir_some hm
  obtain ⟨b1, b2, b3⟩ := bestB_at hb
  constructor
  · rw [e]
    show flt (fOff x) (flt (fK ns) _) = flt (fK ns) _
    rw [flt_flt]
    congr 1
    funext j
    unfold fOff
    by_cases hj : j = x.on.data.toList
    · rw [hj, hon]; simp
    · rw [show (j == x.on.data.toList) = false by simpa using hj]; simp
  · rw [e]
    show 0 < (cOf x p k).at_
    omega
theorem nodup_key {V : Vi} (h : (V.map (·.1)).Nodup) {q q' : ByteArray × List Ro} (hq : q ∈ V) (hq' : q' ∈ V) (e : q.1 = q'.1) : q = q' := by
  induction V with
  | nil => cases hq
  | cons v V ih =>
    have hn := List.nodup_cons.1 h
    rcases List.mem_cons.1 hq with h1 | h1 <;> rcases List.mem_cons.1 hq' with h2 | h2
    · rw [h1, h2]
    · exact absurd (List.mem_map.2 ⟨q', h2, e.symm.trans (congrArg Prod.fst h1)⟩) hn.1
    · exact absurd (List.mem_map.2 ⟨q, h1, e.trans (congrArg Prod.fst h2)⟩) hn.1
    · exact ih hn.2 h1 h2
theorem VInv.one {D P : List (ByteArray × Ro)} {V : Vi} (h : VInv D P V) {q : ByteArray × List Ro} {y : Ro} {d : ByteArray × Ro} (hq : q ∈ V) (hy : y ∈ q.2) (hd : d ∈ P) (h1 : d.1 = q.1) (h2 : d.2.key = y.key) : joinRo y d.2 = y := by
  obtain ⟨q', hq', hk, y', hy', hyk, hj⟩ := h.has d hd
  have e := nodup_key h.keys hq' hq (by rw [hk, h1])
  subst e
  have e1 := getK_of_mem (h.good q' hq').1 hy
  have e2 := getK_of_mem (h.good q' hq').1 hy'
  have e3 : kRo y' = kRo y := by unfold kRo; rw [hyk, h2]
  rw [e3, e1] at e2
  rw [Option.some.inj e2]
  exact hj
/-- The whole law of members. -/
theorem mem_seen {p : Dp} {D P : List (ByteArray × Ro)} {V : Vi} (ho : OkD p) (hon : fK ns x.on.data.toList = false) (hk : ∀ k, KInv x ns pk p D k) (hkeys : ∀ d ∈ D, ∃ r ∈ p.2, d.2.key = vkey pk r.key) (hv : VInv D P V) (hP : ∀ d ∈ D, d ∈ P) (t : Int) (e : ByteArray × Ro) :
    e ∈ seenV x V t ↔ e ∈ viewRs x ns pk p.1 t p.2 := by
  have same : ∀ {q : ByteArray × List Ro} {y R : Ro} {k : ByteArray}, q ∈ V → y ∈ q.2 → y.key = vkey pk k → mOf x ns pk p k = some (q.1, R) → (if isB y (max y.gone 0) t true then some (q.1, offR x (seenRo y 0 t)) else none) = selP t (q.1, R) := by
    intro q y R k hq hy hyk hm
    have hJ : Jd (fun s => (q.1, s) ∈ D ∧ s.key = vkey pk k) y := (hv.rows q hq y hy).mono fun s hs => ⟨hs.1, by rw [hs.2, hyk]⟩
    obtain ⟨_, _, eR⟩ := mir_some hm
    have hRk : R.key = vkey pk k := by rw [eR]
    have hjR := hv.one hq hy (hP _ ((hk k).mir _ _ hm)) rfl (by rw [hyk]; exact hRk)
    obtain ⟨e1, e2, e3, e4⟩ := end_mirror ho (hk k) hm hJ hjR
    obtain ⟨e5, e6⟩ := off_mir hon hm
    exact seen_same t (by rw [hRk, hyk]) e1 e2 e3 e4 e5 e6
  rw [← view_full]
  constructor
  · intro he
    obtain ⟨q, hq, he⟩ := List.mem_flatMap.1 he
    obtain ⟨r, hr, rfl⟩ := List.mem_map.1 he
    obtain ⟨y, hy, rfl⟩ := List.mem_map.1 hr
    obtain ⟨hy, hb⟩ := List.mem_filter.1 hy
    obtain ⟨s, ⟨hs, hsk⟩, _⟩ := (hv.rows q hq y hy).at_le
    obtain ⟨r, hr, hrk⟩ := hkeys _ hs
    have hyk : y.key = vkey pk r.key := by rw [← hsk]; exact hrk
    by_cases hm : ∃ R, mOf x ns pk p r.key = some (q.1, R)
    · obtain ⟨R, hm⟩ := hm
      have h1 := same hq hy hyk hm
      rw [if_pos hb] at h1
      refine List.mem_filterMap.2 ⟨(q.1, R), List.mem_filterMap.2 ⟨r, hr, ?_⟩, h1.symm⟩
      unfold mOf at hm
      rw [rowOf_in ho.good.1 hr] at hm
      exact hm
    · exfalso
      have hJ : Jd (fun s => (q.1, s) ∈ D ∧ s.key = vkey pk r.key) y := (hv.rows q hq y hy).mono fun s hs => ⟨hs.1, by rw [hs.2, hyk]⟩
      have h1 := end_other (hk r.key) (fun R hR => hm ⟨R, hR⟩) hJ fun s hs hsk => hv.one hq hy (hP _ hs) rfl (by rw [hyk]; exact hsk)
      unfold isB liveB at hb
      simp only [Bool.not_true, Bool.false_and, Bool.or_false, Bool.and_eq_true, decide_eq_true_eq] at hb
      omega
  · intro he
    obtain ⟨⟨a, R⟩, hm, he⟩ := List.mem_filterMap.1 he
    obtain ⟨r, hr, hm⟩ := List.mem_filterMap.1 hm
    have hm' : mOf x ns pk p r.key = some (a, R) := by unfold mOf; rw [rowOf_in ho.good.1 hr]; exact hm
    obtain ⟨q, hq, hqk, y, hy, hyk, _⟩ := hv.has _ (hP _ ((hk r.key).mir _ _ hm'))
    obtain ⟨_, _, eR⟩ := mir_some hm'
    simp only at hqk hyk
    subst hqk
    have h1 := same hq hy (by rw [hyk, eR]) hm'
    rw [he] at h1
    by_cases hb : isB y (max y.gone 0) t true = true
    · rw [if_pos hb] at h1
      have e1 := Option.some.inj h1
      rw [← e1]
      exact List.mem_flatMap.2 ⟨q, hq, List.mem_map.2 ⟨_, List.mem_map.2 ⟨y, List.mem_filter.2 ⟨hy, hb⟩, rfl⟩, rfl⟩⟩
    · rw [if_neg hb] at h1; cases h1
theorem nodup_len {α : Type} : ∀ {l m : List α}, l.Nodup → (∀ a ∈ l, a ∈ m) → l.length ≤ m.length
  | [], _, _, _ => Nat.zero_le _
  | a :: l, m, hn, h => by
    obtain ⟨m1, m2, rfl⟩ := List.append_of_mem (h a (List.mem_cons_self ..))
    have hn := List.nodup_cons.1 hn
    have := nodup_len (l := l) (m := m1 ++ m2) hn.2 fun b hb => by
      have := h b (List.mem_cons_of_mem _ hb)
      rcases List.mem_append.1 this with h1 | h1
      · exact List.mem_append_left _ h1
      · rcases List.mem_cons.1 h1 with rfl | h1
        · exact absurd hb hn.1
        · exact List.mem_append_right _ h1
    simp only [List.length_append, List.length_cons] at *
    omega
theorem seenV_nodup {V : Vi} (t : Int) (h : (V.map (·.1)).Nodup) (hg : ∀ q ∈ V, GoodRs q.2) : (seenV x V t).Nodup := by
  induction V with
  | nil => exact List.nodup_nil
  | cons q V ih =>
    have hn := List.nodup_cons.1 h
    unfold seenV
    rw [List.flatMap_cons]
    refine List.nodup_append.2 ⟨?_, ih hn.2 fun q hq => hg q (List.mem_cons_of_mem _ hq), ?_⟩
    · unfold seenRs
      rw [List.map_map]
      refine List.pairwise_map.2 (List.Pairwise.imp ?_ (List.Pairwise.filter _ (hg q (List.mem_cons_self ..)).1))
      intro a b hab e
      exact ne_of_lt hab (congrArg (fun z : ByteArray × Ro => kRo z.2) e)
    · intro a ha b hb e
      obtain ⟨r, _, rfl⟩ := List.mem_map.1 ha
      obtain ⟨q', hq', hb⟩ := List.mem_flatMap.1 hb
      obtain ⟨r', _, rfl⟩ := List.mem_map.1 hb
      exact hn.1 (List.mem_map.2 ⟨q', hq', (congrArg Prod.fst e).symm⟩)
theorem ofSeen_key {g t : Int} {r : Ro} {e : ByteArray × Ro} (h : ofSeen x ns pk g t r = some e) : e.2.key = vkey pk r.key := by
  unfold ofSeen at h
  split at h
  · split at h
    · cases h; rfl
    · cases h
  · cases h
theorem viewRs_nodup {l : List Ro} (g t : Int) (h : Up kRo l) : (viewRs x ns pk g t l).Nodup := by
  unfold viewRs
  refine List.pairwise_filterMap.2 (List.Pairwise.imp ?_ h)
  intro a b hab e he e' he' h
  have h1 := ofSeen_key he
  have h2 := ofSeen_key he'
  rw [h, h2] at h1
  exact ne_of_lt hab (by unfold kRo; rw [vkey_same h1])
theorem len_seen {p : Dp} {V : Vi} (ho : OkD p) (hn : (V.map (·.1)).Nodup) (hg : ∀ q ∈ V, GoodRs q.2) (t : Int) (hm : ∀ e, e ∈ seenV x V t ↔ e ∈ viewRs x ns pk p.1 t p.2) : (seenV x V t).length = (viewRs x ns pk p.1 t p.2).length :=
  Nat.le_antisymm (nodup_len (seenV_nodup t hn hg) fun e he => (hm e).1 he) (nodup_len (viewRs_nodup _ t ho.good.1) fun e he => (hm e).2 he)
end
end Go.Proofs.Yteamiiekpjoclaa

/- clerestoryref08.CopyRow, Copy. -/
namespace Go.Proofs.Yteamiiekpjoclaa
open Go Go.RowKit
attribute [local go_sem] yields yUpon ro8

set_option maxRecDepth 100000 in
set_option maxHeartbeats 4000000 in
theorem copyRow_any (r : Ro) (v : Value) (w : World) (h : ColsIn w v r.cols) (hlen : r.cols.length ≤ 1000000) :
    Calls Try.prog 77 #[(.agg #[.string r.key, .string r.live.val, .bool r.live.dead, .int .i64 r.live.at_, .int .i64 r.live.fin, .int .i64 r.gone, .int .i64 r.shade, v])] w fun e w' => ∃ v', e = .returned (.agg #[.string r.key, .string r.live.val, .bool r.live.dead, .int .i64 r.live.at_, .int .i64 r.live.fin, .int .i64 r.gone, .int .i64 r.shade, v']) ∧ ColsT w' v' r.cols ∧ Ext w w' := by
  obtain ⟨a0, a1, hE⟩ := boxes2 w (ro8 r v) (ro8 ⟨⟨#[]⟩, zeroCl, 0, 0, []⟩ (.slice none 0 0)) 55 55
  have h0 := h.ext hE
  obtain ⟨av, cv, rfl⟩ := h.shape
  obtain ⟨n, hn⟩ : ∃ n, n = r.cols.length := ⟨_, rfl⟩
  rw [← hn] at a0 a1 hE h0 hlen ⊢
  have HN := Lib.hid hn
  clear hn h
  go_enter Try.func77, Try.ntmps77
  go_wp2_with (first
    | (((guard_target =~ wpList _ _ _ (Oper.mk none (Op.store _ (Operand.tmp 3) (Operand.tmp 4)) _ _ _ _ :: _) _ _); go_must (refine storeBox rfl 55 (.tmp 3) (.tmp 4) rfl (w.heap.size + 1 + 1) _ _ _ (by rfl) (by rfl) ((BoxAt.madeN (ro8 ⟨⟨#[]⟩, zeroCl, 0, 0, []⟩ (.slice none 0 0)) 55 (by simp))) (by kernel_rfl) (by rfl) (by simp [Value.oneCell']) ?_); intro w4 c4 g4); have hX4 : Ext w w4 := (hE.alloc (.cells (ro8 ⟨⟨#[]⟩, zeroCl, 0, 0, []⟩ (.slice none 0 0)) 55)).grown g4 (fun q hq => by cases hq; omega); have b0 : BoxAt w4 w.heap.size (ro8 r (.slice av n cv)) 55 := (a0.ext ((Ext.refl _).alloc _)).grown g4 (fun e => by have := Option.some.inj e; omega); have b1 : BoxAt w4 (w.heap.size + 1) (ro8 ⟨⟨#[]⟩, zeroCl, 0, 0, []⟩ (.slice none 0 0)) 55 := (a1.ext ((Ext.refl _).alloc _)).grown g4 (fun e => by have := Option.some.inj e; omega); have h4 : ColsIn w4 (.slice av n cv) r.cols := h0.ext (((Ext.refl _).alloc (.cells (ro8 ⟨⟨#[]⟩, zeroCl, 0, 0, []⟩ (.slice none 0 0)) 55)).grown g4 (fun q hq => by cases hq; simp)); have y7 : w4.cell? ⟨w.heap.size, 7, none⟩ = some (.slice av n cv) := b0.cell 7)
    | ((guard_target =~ wpList _ _ _ (Oper.mk (some 7) _ _ _ _ _ :: _) _ _); go_must (refine wpList_cloneS rfl info_Col und_Cols rfl (by decide) (.const (.slice none 0 0)) (.tmp 6) rfl (by rfl) h4 (by rfl) (coCells_length _) (coCells_one _) (by unfold maxLen; have := HN.out; omega) (by have := HN.out; omega) ?_); intro v5 w5 hown5 hE5; obtain ⟨a5, c5, rfl⟩ := own_shape hown5; have d3 : BoxAt w5 (w.heap.size + 1 + 1) (ro8 r (.slice av n cv)) 55 := BoxAt.ext hE5 c4; have d1 := b1.ext hE5; obtain ⟨z0, z1, z2, z3, z4, z5, z6, z7⟩ := d3.ro; have zf := d3.free 7)
    | (((guard_target =~ wpList _ _ _ (Oper.mk none (Op.store _ (Operand.tmp 2) (Operand.tmp 9)) _ _ _ _ :: _) _ _); go_must (refine storeBox rfl 55 (.tmp 2) (.tmp 9) rfl (w.heap.size + 1) _ _ _ (by rfl) (by rfl) ((d1.other (by omega) 7 _)) (by kernel_rfl) (by rfl) (by simp [Value.oneCell']) ?_); intro w6 c6 g6); have hX6 : Ext w w6 := ((hX4.trans hE5).setCell (p := ⟨w.heap.size + 1 + 1, 7, none⟩) (by show w.heap.size ≤ w.heap.size + 1 + 1; omega) _).grown g6 (fun q hq => by cases hq; omega); have h6 : ColsT w6 (.slice a5 r.cols.length c5) r.cols := ColsT.keep g6 (d1.other (by omega) 7 _) (by decide) (TIn.set 7 _ d3 (by decide) (TIn.own hown5))))
  obtain ⟨z0, z1, z2, z3, z4, z5, z6, z7⟩ := BoxAt.ro (r := r) (v := .slice a5 r.cols.length c5) c6
  refine bodyPost_ret (v := (.agg #[.string r.key, .string r.live.val, .bool r.live.dead, .int .i64 r.live.at_, .int .i64 r.live.fin, .int .i64 r.gone, .int .i64 r.shade, (.slice a5 r.cols.length c5)])) ?_ rfl ⟨_, rfl, h6, hX6⟩
  simp [results, Try.results77, go_sem, Act.put, z0, z1, z2, z3, z4, z5, z6, z7]
end Go.Proofs.Yteamiiekpjoclaa

/- clerestoryref08.Copy. -/
namespace Go.Proofs.Yteamiiekpjoclaa
open Go Go.RowKit
attribute [local go_sem] yields yUpon ro8 pa3

/-- Operation n appends to rows of one's own; the others let memory grow. -/
def RoE (vo : Value) (B n j : Nat) (x y : World) : Prop := if j = n then (∃ m xs, x.ownsRow B 55 8 vo m xs) ∧ x.grownBy y vo.ownBlock else Ext x y
section
variable {vo : Value} {B n j : Nat} {x y : World}
theorem RoE_ext (hj : j ≠ n) (h : Ext x y) : RoE vo B n j x y := by unfold RoE; rw [if_neg hj]; exact h
theorem RoE_off (hj : j ≠ n) (h : RoE vo B n j x y) : Ext x y := by unfold RoE at h; rwa [if_neg hj] at h
theorem RoE_cols (h : RoE vo B n j x y) {v : Value} {l : List Co} (hc : ColsT x v l) : ColsT y v l := by
  unfold RoE at h
  split at h
  · obtain ⟨⟨m, xs, hown⟩, hg⟩ := h
    exact TIn.keepOwn hown hg (by decide) hc
  · exact hc.ext h
theorem RoE_far {S B' : Nat} (hlt : ∀ q, vo.ownBlock = some q → B' ≤ q ∧ q < S) (h : RoE vo B n j x y) {b : Nat} (hb : S ≤ b) {cs : Array Value} {e : TypeId} (hx : BoxAt x b cs e) : BoxAt y b cs e := by
  unfold RoE at h
  split at h
  · exact hx.grown h.2 (fun e => by have := (hlt _ e.symm).2; omega)
  · exact hx.ext h
end
/-- The copy under way. -/
structure CpC (w : World) (k : ByteArray) (g : Int) (u : Value) (q : Nat) (vo : Value) (qs : List (Ro × Value)) (S : Nat) (x : World) : Prop where
  extw : Ext w x
  b1 : BoxAt x w.heap.size (pa3 k g u) 39
  b2 : BoxAt x (w.heap.size + 1) (pa3 ⟨#[]⟩ 0 (.slice none 0 0)) 39
  b3 : BoxAt x q (pa3 k g vo) 39
  own : x.ownsRow (w.heap.size + 3) 55 8 vo qs.length (roCells qs)
  typed : ∀ p ∈ qs, ColsT x p.2 p.1.cols
  size : S ≤ x.heap.size
theorem CpC.ext {w x y : World} {k : ByteArray} {g : Int} {u : Value} {q : Nat} {vo : Value} {qs : List (Ro × Value)} {S : Nat} (hE : Ext x y) (h : CpC w k g u q vo qs S x) : CpC w k g u q vo qs S y :=
  ⟨h.extw.trans hE, h.b1.ext hE, h.b2.ext hE, h.b3.ext hE, ownsRow_ext h.own hE, fun p hp => (h.typed p hp).ext hE, Nat.le_trans h.size hE.le⟩
theorem CpC.app {w x y : World} {k : ByteArray} {g : Int} {u : Value} {q : Nat} {vo : Value} {qs : List (Ro × Value)} {S : Nat} (hq : q < w.heap.size + 3) (h : CpC w k g u q vo qs S x) (hg : x.grownBy y vo.ownBlock) (hown : y.ownsRow (w.heap.size + 3) 55 8 vo qs.length (roCells qs)) : CpC w k g u q vo qs S y := by
  have hne : ∀ q, some q = vo.ownBlock → w.heap.size + 3 ≤ q := fun q hq => (h.own.lt q hq.symm).1
  exact ⟨h.extw.grown hg (fun q hq => by have := hne q hq.symm; omega), h.b1.grown hg (fun e => by have := hne _ e; omega), h.b2.grown hg (fun e => by have := hne _ e; omega), h.b3.grown hg (fun e => by have := hne _ e; omega), hown, fun p hp => TIn.keepOwn h.own hg (by decide) (h.typed p hp), Nat.le_trans h.size hg.size⟩

set_option maxRecDepth 100000 in
set_option maxHeartbeats 8000000 in
theorem copy8_any (k : ByteArray) (g : Int) (u : Value) (ps : List (Ro × Value)) (w : World) (h : RowsIn w u ps) (hlen : ps.length ≤ 10000) (hcl : ∀ p ∈ ps, p.1.cols.length ≤ 1000000) :
    Calls Try.prog 44 #[.agg #[.string k, .int .i64 g, u]] w fun e w' => ∃ v', e = .returned (.agg #[.string k, .int .i64 g, v']) ∧ ∃ qs, RowsT w' v' qs ∧ qs.map (·.1) = ps.map (·.1) ∧ Ext w w' := by
  obtain ⟨a0, a1, hE⟩ := boxes2 w (pa3 k g u) (pa3 ⟨#[]⟩ 0 (.slice none 0 0)) 39 39
  obtain ⟨a, c, rfl, hc, hcm, hget⟩ := h.get
  obtain ⟨n, hn⟩ : ∃ n, n = ps.length := ⟨_, rfl⟩
  rw [← hn] at a0 a1 hE h hlen hc ⊢
  have HN := Lib.hid hn
  have HGET := Lib.hid hget
  have HCL := Lib.hid hcl
  clear hn hget hcl
  go_enter Try.func44, Try.ntmps44
  go_wp2_with (((guard_target =~ wpList _ _ _ (Oper.mk none (Op.store _ (Operand.tmp 3) (Operand.tmp 9)) _ _ _ _ :: _) _ _); go_must (refine storeBox rfl 39 (.tmp 3) (.tmp 9) rfl (w.heap.size + 1 + 1) _ _ _ (by rfl) (by rfl) ((BoxAt.madeN (pa3 ⟨#[]⟩ 0 (.slice none 0 0)) 39 (by simp))) (by kernel_rfl) (by rfl) (by simp [Value.oneCell']) ?_); intro w4 c4 g4); have hX4 : Ext w w4 := (hE.alloc (.cells (pa3 ⟨#[]⟩ 0 (.slice none 0 0)) 39)).grown g4 (fun q hq => by cases hq; omega); have b1 : BoxAt w4 w.heap.size (pa3 k g (.slice a n c)) 39 := (a0.ext ((Ext.refl _).alloc _)).grown g4 (fun e => by have := Option.some.inj e; omega); have b2 : BoxAt w4 (w.heap.size + 1) (pa3 ⟨#[]⟩ 0 (.slice none 0 0)) 39 := (a1.ext ((Ext.refl _).alloc _)).grown g4 (fun e => by have := Option.some.inj e; omega))
  obtain ⟨q, hq⟩ : ∃ q, q = w.heap.size + 1 + 1 := ⟨_, rfl⟩
  rw [← hq] at c4 ⊢
  have hq3 : w.heap.size + 1 < q ∧ q < w.heap.size + 3 := by omega
  have A0 : CpC w k g (.slice a n c) q (.slice none 0 0) [] 0 w4 := ⟨hX4, b1, b2, c4, World.ownsRow_nil _ _ _ _, nofun, Nat.zero_le _⟩
  clear hE a0 a1 g4 hX4 b1 b2 c4 hq
  go_loopw [4] (fun i wr => ∃ (j : Nat) (vo : Value) (qs : List (Ro × Value)), j ≤ n ∧ i = .int .i64 j ∧ CpC w k g (.slice a n c) q vo qs 0 wr ∧ Hid (qs.map (·.1) = (ps.map (·.1)).take j)) (fun i _ => n - (intOf i).toNat)
  case atStart => exact ⟨0, _, [], Nat.zero_le _, rfl, A0, rfl⟩
  case round =>
    obtain ⟨j, vo, qs, hj, rfl, hcp, HQ⟩ := hrel
    clear A0
    have hql : qs.length ≤ j := by
      have := congrArg List.length HQ.out
      rw [List.length_map, List.length_take, List.length_map] at this
      omega
    have e2 : wr.cell? ⟨w.heap.size, 2, none⟩ = some (.slice a n c) := hcp.b1.cell 2
    by_cases hlt : j < n
    · have t1 : decide ((j : Int) < (n : Int)) = true := by simp; omega
      have hjp : j < ps.length := by rw [← HN.out]; exact hlt
      obtain ⟨b, o, rfl, hat⟩ := HGET.out j hjp
      obtain ⟨r, hr⟩ : ∃ r, r = ps[j].1 := ⟨_, rfl⟩
      obtain ⟨vr, hvr⟩ : ∃ v, v = ps[j].2 := ⟨_, rfl⟩
      have hct : ColsIn w vr r.cols := by rw [hr, hvr]; exact h.cols _ (List.getElem_mem hjp)
      have hrl : r.cols.length ≤ 1000000 := by rw [hr]; exact HCL.out _ (List.getElem_mem hjp)
      have hrow : (ps.map (·.1)).take (j + 1) = (ps.map (·.1)).take j ++ [r] := by
        rw [List.take_succ_eq_append_getElem (by rw [List.length_map]; exact hjp), List.getElem_map, hr]
      rw [← hr, ← hvr] at hat
      have HROW := Lib.hid hrow
      have HAT := Lib.hid hat
      clear hr hvr hrow hat
      obtain ⟨ar, cr, rfl⟩ := hct.shape
      obtain ⟨ao, co, rfl⟩ := own_shape hcp.own
      go_wp2_with fail
      refine wp_region_relE (CpC w k g (.slice (some ⟨b, o, none⟩) n c) q (.slice ao qs.length co) qs wr.heap.size) (RoE (.slice ao qs.length co) (w.heap.size + 3) 9) (Tab.atE [(1, fun v _ => v = .slice ao qs.length co), (3, fun v _ => v = .slice (some ⟨b, o, none⟩) n c), (6, fun v _ => v = (.agg #[.string r.key, .string r.live.val, .bool r.live.dead, .int .i64 r.live.at_, .int .i64 r.live.fin, .int .i64 r.gone, .int .i64 r.shade, (.slice ar r.cols.length cr)])), (7, fun v x => ∃ v', v = (.agg #[.string r.key, .string r.live.val, .bool r.live.dead, .int .i64 r.live.at_, .int .i64 r.live.fin, .int .i64 r.gone, .int .i64 r.shade, v']) ∧ ColsT x v' r.cols), (8, fun v x => ∃ v' b, v = .slice (some ⟨b, 0, none⟩) 1 1 ∧ wr.heap.size ≤ b ∧ BoxAt x b (ro8 r v') 55 ∧ ColsT x v' r.cols), (9, fun v x => ∃ v', ColsT x v' r.cols ∧ x.ownsRow (w.heap.size + 3) 55 8 v (qs.length + 1) (roCells (qs ++ [(r, v')])))])
        (Tab.staysE ⟨fun _ _ _ _ _ _ h => h, fun _ _ _ _ _ _ h => h, fun _ _ _ _ _ _ h => h, fun _ _ _ _ _ hR ⟨v', e, h1⟩ => ⟨v', e, RoE_cols hR h1⟩, fun _ _ _ _ _ hR ⟨v', b, e, hb, hx, h1⟩ => ⟨v', b, e, hb, RoE_far hcp.own.lt hR hb hx, RoE_cols hR h1⟩, fun _ hj _ _ _ hR ⟨v', h1, h2⟩ => ⟨v', RoE_cols hR h1, ownsRow_ext h2 (RoE_off hj hR)⟩, trivial⟩)
        11 (by kernel_rfl) (by kernel_rfl) (by kernel_rfl) (CpC.ext (Ext.refl wr).drew ⟨hcp.extw, hcp.b1, hcp.b2, hcp.b3, hcp.own, hcp.typed, Nat.le_refl _⟩) ?_
      refine relE_quiet rfl rfl rfl rfl ?_; intro K hK; go_big_quiet_op; (first | refine ⟨_, fun _ _ => rfl, hK _ ?_⟩ | refine hK _ ?_); clear hK K
      refine relE_val [] rfl rfl rfl (by kernel_rfl) (fun y hy hf => ?_) ?_
      · obtain ⟨z0, z1, z2⟩ := hy.b3.pa
        go_simp
        exact ⟨hy, RoE_ext (by decide) (Ext.refl y), rfl⟩
      simp only [Act.put, List.setIfInBounds_toArray, List.set_cons_zero, List.set_cons_succ]
      refine relE_quiet rfl rfl rfl rfl ?_; intro K hK; go_big_quiet_op; (first | refine ⟨_, fun _ _ => rfl, hK _ ?_⟩ | refine hK _ ?_); clear hK K
      refine relE_val [] rfl rfl rfl (by kernel_rfl) (fun y hy hf => ?_) ?_
      · obtain ⟨z0, z1, z2⟩ := hy.b1.pa
        go_simp
        exact ⟨hy, RoE_ext (by decide) (Ext.refl y), rfl⟩
      simp only [Act.put, List.setIfInBounds_toArray, List.set_cons_zero, List.set_cons_succ]
      refine relE_quiet rfl rfl rfl rfl ?_; intro K hK; go_big_quiet_op; (first | refine ⟨_, fun _ _ => rfl, hK _ ?_⟩ | refine hK _ ?_); clear hK K
      refine relE_quiet rfl rfl rfl rfl ?_; intro K hK; go_big_quiet_op; (first | refine ⟨_, fun _ _ => rfl, hK _ ?_⟩ | refine hK _ ?_); clear hK K
      refine relE_val [] rfl rfl rfl (by kernel_rfl) (fun y hy hf => ?_) ?_
      · obtain ⟨z0, z1, z2, z3, z4, z5, z6, z7⟩ := HAT.out.ext hy.extw
        go_simp
        exact ⟨hy, RoE_ext (by decide) (Ext.refl y), rfl⟩
      simp only [Act.put, List.setIfInBounds_toArray, List.set_cons_zero, List.set_cons_succ]
      refine relE_fact [] rfl rfl rfl (by kernel_rfl) (fun y hy hf => ?_) (fun v7 y7 hC7 hG7 h7 => ?_)
      · go_simp
        refine (copyRow_any r _ y (hct.ext hy.extw) hrl).mono ?_
        rintro e y' ⟨v', rfl, h1, h2⟩
        exact ⟨_, rfl, hy.ext h2, RoE_ext (by decide) h2, v', rfl, h1⟩
      obtain ⟨v7, rfl, h7⟩ := h7
      obtain ⟨a7, c7, rfl⟩ := TIn.shape h7
      clear hC7 hG7 h7
      simp only [Act.put, List.setIfInBounds_toArray, List.set_cons_zero, List.set_cons_succ]
      refine relE_fact [7] rfl rfl rfl (by kernel_rfl) (fun y hy hf => ?_) (fun v8 y8 hC8 hG8 h8 => ?_)
      · obtain ⟨v', e, h1⟩ := (hf 7 (by simp)).2 rfl
        cases e
        go_simp
        exact ⟨hy.ext ((Ext.refl y).alloc _), RoE_ext (by decide) ((Ext.refl y).alloc _), _, _, rfl, hy.size, BoxAt.made y _ _, h1.ext ((Ext.refl y).alloc _)⟩
      obtain ⟨v8, b8, rfl, _⟩ := h8
      clear hC8 hG8
      simp only [Act.put, List.setIfInBounds_toArray, List.set_cons_zero, List.set_cons_succ]
      refine relE_fact [8] rfl rfl rfl (by kernel_rfl) (fun y hy hf => ?_) (fun v9 y9 hC9 hG9 h9 => ?_)
      · obtain ⟨v', b', e, hb', hbox, h1⟩ := (hf 8 (by simp)).2 rfl
        cases e
        obtain ⟨av, cv, rfl⟩ := TIn.shape h1
        refine yields_append info_Row und_Rows rfl (by decide) (.tmp 18) (.tmp 25) rfl (w.heap.size + 3) (by have := hy.b3.lt; omega) _ qs.length (roCells qs) hy.own (by rfl) b8 1 1 (ro8 r (.slice av r.cols.length cv)).toList (by rfl) (by rfl) (fun j u hj => by rw [hbox.cell j]; simpa using hj) (by simp [ro8, Value.oneCell']) (by unfold maxLen; omega) (by omega) ?_
        intro v' y' hown' hg hkeep
        have HR : RoE (.slice ao qs.length co) (w.heap.size + 3) 9 9 y y' := by unfold RoE; rw [if_pos rfl]; exact ⟨⟨_, _, hy.own⟩, hg⟩
        refine ⟨hy.app hq3.2 hg hkeep, HR, _, RoE_cols HR h1, ?_⟩
        rw [roCells_append]
        exact hown'
      obtain ⟨vr9, _, h9⟩ := h9
      obtain ⟨a9, c9, rfl⟩ := own_shape h9
      clear hC9 hG9 h9
      simp only [Act.put, List.setIfInBounds_toArray, List.set_cons_zero, List.set_cons_succ]
      refine relE_quiet rfl rfl rfl rfl ?_; intro K hK; go_big_quiet_op; (first | refine ⟨_, fun _ _ => rfl, hK _ ?_⟩ | refine hK _ ?_); clear hK K
      refine relE_tail rfl rfl fun x hx hG => ?_
      obtain ⟨vr', h1, hown'⟩ := (hG 9).2 rfl
      clear hG e2
      obtain ⟨q0, q1, q2⟩ := hx.b3.pa
      have qf := hx.b3.free 2
      go_wp2_with fail
      go_roundw
      case rel =>
        refine ⟨j + 1, _, qs ++ [(r, vr')], by omega, by go_num, ⟨hx.extw.setCell (p := ⟨q, 2, none⟩) (by show w.heap.size ≤ q; omega) _, hx.b1.other (by omega) 2 _, hx.b2.other (by omega) 2 _, hx.b3.set 2 _, ?_, ?_, Nat.zero_le _⟩, ?_⟩
        · rw [List.length_append]
          exact ownsRow_setCell_below hown' (a := ⟨q, 2, none⟩) (by show q < w.heap.size + 3; omega) _
        · intro p hp
          rcases List.mem_append.1 hp with hp | hp
          · exact TIn.set 2 _ hx.b3 (by decide) (hx.typed p hp)
          · rw [List.mem_singleton.1 hp]
            exact TIn.set 2 _ hx.b3 (by decide) h1
        · show _ = _
          rw [List.map_append, HQ.out, HROW.out]
          rfl
      case measure => simp [intOf]; omega
    · obtain rfl : j = n := by omega
      obtain ⟨ao, co, rfl⟩ := own_shape hcp.own
      obtain ⟨z0, z1, z2⟩ := hcp.b3.pa
      have hb2 := hcp.b2
      go_wp2_with ((guard_target =~ wpList _ _ _ (Oper.mk none (Op.store _ (Operand.tmp 2) (Operand.tmp 28)) _ _ _ _ :: _) _ _); go_must (refine storeBox rfl 39 (.tmp 2) (.tmp 28) rfl (w.heap.size + 1) _ _ _ (by rfl) (by rfl) (hb2) (by kernel_rfl) (by rfl) (by simp [Value.oneCell']) ?_); intro w8 c8 g8)
      have hX8 := hcp.extw.grown g8 (fun q hq => by cases hq; omega)
      have hrows : RowsT w8 (.slice ao qs.length co) qs := ⟨TIn.keep g8 hb2 (by decide) (TIn.own hcp.own), fun p hp => ColsT.keep g8 hb2 (by decide) (hcp.typed p hp)⟩
      have hmap : qs.map (·.1) = ps.map (·.1) := by rw [HQ.out, List.take_of_length_le (by rw [List.length_map, ← HN.out]; exact Nat.le_refl _)]
      clear z0 z1 z2
      obtain ⟨z0, z1, z2⟩ := BoxAt.pa (k := k) (g := g) (u := .slice ao qs.length co) c8
      refine bodyPost_ret (v := .agg #[.string k, .int .i64 g, .slice ao qs.length co]) ?_ rfl ⟨_, rfl, qs, hrows, hmap, hX8⟩
      simp [results, Try.results44, go_sem, Act.put, z0, z1, z2]
end Go.Proofs.Yteamiiekpjoclaa
