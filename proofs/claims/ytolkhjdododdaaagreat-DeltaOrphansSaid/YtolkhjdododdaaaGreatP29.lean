/- A region that draws its order: an operation that takes a part out of a tuple, and that the store of another part need not wait for, may be taken ahead of that store: the region with that edge more. -/
import Derived.Test.YtolkhjdododdaaaGreatP2
import Derived.Test.YtolkhjdododdaaaGreatP28
import Derived.Test.YtolkhjdododdaaaGreatP22
import Derived.Test.YtolkhjdododdaaaGreatP18
import Derived.Test.YtolkhjdododdaaaGreatP19
set_option linter.unusedSimpArgs false
set_option linter.unusedVariables false
namespace Go.Proofs.YtolkhjdododdaaaGreat
open Go

/-- Operation n waits for p, too. -/
def late (n p : Nat) (l : List Oper) : List Oper := l.modify n fun o => { o with after := o.after.push ⟨p, .data⟩ }
def isExt : Op → Bool
  | .extract .. => true
  | _ => false
/-- What is asked of p and n. -/
def lateB (ops : Array Oper) (n p : Nat) : Bool :=
  match ops[p]? with
  | none => false
  | some op => p != n && decide (n < ops.size) && isExt op.op && op.guard.isNone && Region.noSelect ops &&
      (op.after.all fun e => !Region.binds .any e || ancB ops ops.size n e.on) &&
      (List.range ops.size).all fun j => j == p || ancB ops ops.size p j || match ops[j]? with
        | some oj => oj.after.any (fun e => Region.binds .any e && e.on == p) || op.apart ops oj
        | none => true

section
variable {P : Program} {l : List Oper} {n p : Nat} {Q : Exit → Act → World → Prop} {listed : Array Bool}
theorem late_ne {j : Nat} (h : j ≠ n) : (late n p l).toArray[j]? = l.toArray[j]? := by
  simp only [late, List.getElem?_toArray, List.getElem?_modify]
  cases l[j]? with
  | none => rfl
  | some o => simp; exact fun e => absurd e.symm h
theorem late_at {o : Oper} (ho : l.toArray[n]? = some o) : (late n p l).toArray[n]? = some { o with after := o.after.push ⟨p, .data⟩ } := by
  simp only [List.getElem?_toArray] at ho
  simp only [late, List.getElem?_toArray, List.getElem?_modify, ho, if_true]
  rfl
theorem late_none (ho : l.toArray[n]? = none) : (late n p l).toArray[n]? = none := by
  simp only [List.getElem?_toArray] at ho
  simp only [late, List.getElem?_toArray, List.getElem?_modify, ho]
  rfl
theorem late_dst (j : Nat) : ((late n p l).toArray[j]?).bind (·.dst) = (l.toArray[j]?).bind (·.dst) := by
  by_cases h : j = n
  · subst h
    cases ho : l.toArray[j]? with
    | none => rw [late_none ho]
    | some o => rw [late_at ho]; rfl
  · rw [late_ne h]
theorem late_yielded : yielded (late n p l).toArray = yielded l.toArray := by
  funext tmps j
  unfold yielded
  rw [late_dst]
theorem ready_ne {j : Nat} (h : j ≠ n) : j ∈ Region.ready .any (late n p l).toArray listed ↔ j ∈ Region.ready .any l.toArray listed := by
  rw [mem_ready, mem_ready, late_ne h]
theorem ready_late (hp : listed.getD p false = true) (h : n ∈ Region.ready .any l.toArray listed) : n ∈ Region.ready .any (late n p l).toArray listed := by
  rw [mem_ready] at h ⊢
  obtain ⟨h0, o, ho, hall⟩ := h
  refine ⟨h0, _, late_at ho, fun e he hb => ?_⟩
  rcases Array.mem_push.1 he with he | rfl
  · exact hall e he hb
  · exact hp
theorem wpOp_late {i : Nat} {K : Act → World → Prop} {a : Act} {w : World} (h : wpOp P (late n p l).toArray Q i K a w) : wpOp P l.toArray Q i K a w := by
  unfold wpOp at h ⊢
  rw [late_yielded] at h
  by_cases hi : i = n
  · subst hi
    cases ho : l.toArray[i]? with
    | none => rw [late_none ho] at h; exact h
    | some o => rw [late_at ho] at h; exact h
  · rw [late_ne hi] at h
    exact h
theorem ext_run {x : Operand} {k : Nat} {o : Oper} (ho : o.op = .extract x k) {a : Act} {w : World} {K : Act → World → Prop} (h : o.wp P a w K Q ∨ (o.asks P a w ∧ LetsOut Q)) : ∃ v, (∀ w', (execOp a.eval o).run P w' = .ok (.value v) w') ∧ K (a.put o.dst v) w := by
  have he : execOp a.eval o = (do pure (Next.value (← Instr.extract (a.eval x) k))) := by unfold execOp; rw [ho]
  have key : (∃ v, Instr.extract (a.eval x) k = pure v) ∨ ∃ m, Instr.extract (a.eval x) k = stuck m := by
    unfold Instr.extract
    split
    · split
      · exact .inl ⟨_, rfl⟩
      · exact .inr ⟨_, rfl⟩
    · exact .inr ⟨_, rfl⟩
  have ev : ((execOp a.eval o).runT P w #[]).2 = #[] := by
    rw [he]
    rcases key with ⟨v, e⟩ | ⟨m, e⟩ <;> rw [e] <;> rfl
  have h : o.wp P a w K Q := by
    rcases h with h | ⟨h, _⟩
    · exact h
    · have h := h.1
      rw [ev] at h
      simp at h
  rcases key with ⟨v, e⟩ | ⟨m, e⟩
  · have hr : ∀ w', (execOp a.eval o).run P w' = .ok (.value v) w' := by
      intro w'
      rw [he, e]
      rfl
    refine ⟨v, hr, ?_⟩
    unfold Oper.wp at h
    rw [hr] at h
    exact h
  · exfalso
    have hr : (execOp a.eval o).run P w = .halt (.stuck m) w := by
      rw [he, e]
      rfl
    unfold Oper.wp at h
    rw [hr] at h
    exact h

structure LateOK (ops : Array Oper) (n p : Nat) (op : Oper) : Prop where
  get : ops[p]? = some op
  ne : p ≠ n
  ext : ∃ x k, op.op = .extract x k
  plain : op.guard = none
  sel : Region.noSelect ops = true
  anc : ∀ e ∈ op.after, Region.binds .any e = true → ancB ops ops.size n e.on = true
  free : ∀ j oj, ops[j]? = some oj → j ≠ p → ancB ops ops.size p j = false → (∀ e ∈ oj.after, Region.binds .any e = true → e.on ≠ p) → op.apart ops oj = true
theorem lateOK {ops : Array Oper} (h : lateB ops n p = true) : ∃ op, LateOK ops n p op := by
  unfold lateB at h
  cases hp : ops[p]? with
  | none => rw [hp] at h; cases h
  | some op =>
    rw [hp] at h
    simp only [Bool.and_eq_true, bne_iff_ne, decide_eq_true_eq, Array.all_eq_true', Bool.or_eq_true, Bool.not_eq_true', List.all_eq_true, List.mem_range, beq_iff_eq] at h
    obtain ⟨⟨⟨⟨⟨⟨h1, h2⟩, h3⟩, h4⟩, h5⟩, h6⟩, h7⟩ := h
    refine ⟨op, hp, h1, ?_, ?_, h5, fun e he hb => ?_, fun j oj hj hne hna hno => ?_⟩
    · unfold isExt at h3
      split at h3
      · exact ⟨_, _, by assumption⟩
      · cases h3
    · simpa using h4
    · rcases h6 e he with h | h
      · rw [hb] at h; cases h
      · exact h
    · have h8 := h7 j (Array.getElem?_eq_some_iff.1 hj).1
      rw [hj] at h8
      simp only [Bool.or_eq_true] at h8
      rcases h8 with (h8 | h8) | h8 | h8
      · exact absurd h8 hne
      · rw [hna] at h8; cases h8
      · obtain ⟨e, he, hb⟩ := Array.any_eq_true'.1 h8
        simp only [Bool.and_eq_true, beq_iff_eq] at hb
        exact absurd hb.2 (hno e he hb.1)
      · exact h8
theorem getD_down {j : Nat} (h : listed.getD j false = true) : listed.getD j true = true := by
  rcases Nat.lt_or_ge j listed.size with h' | h'
  · simp [h'] at h ⊢; exact h
  · simp [Array.getElem?_eq_none h'] at h
/-- When n may come up, p may, if it has not. -/
theorem late_ready {op : Oper} (hL : LateOK l.toArray n p op) (hd : Down l.toArray listed) (hsz : listed.size = l.toArray.size) (hn : n ∈ Region.ready .any l.toArray listed) (hp : listed.getD p false = false) : p ∈ Region.ready .any l.toArray listed := by
  obtain ⟨_, o, ho, hall⟩ := mem_ready.1 hn
  refine mem_ready.2 ⟨?_, op, hL.get, fun e he hb => anc_listed hd _ n e.on o ho hall (hL.anc e he hb)⟩
  have hlt : p < listed.size := by rw [hsz]; exact (Array.getElem?_eq_some_iff.1 hL.get).1
  simp [hlt] at hp ⊢
  exact hp
theorem wpAny_late {op : Oper} (hL : LateOK l.toArray n p op) (hQ : ∀ c a d v w, Q (.panic c) (Act.put a d v) w → Q (.panic c) a w) : ∀ (fuel : Nat) (listed : Array Bool) (a : Act) (w : World), Down l.toArray listed → listed.size = l.toArray.size →
    wpAny P .any (late n p l).toArray Q fuel listed a w → wpAny P .any l.toArray Q fuel listed a w := by
  intro fuel
  have none_of : ∀ {listed : Array Bool}, Down l.toArray listed → listed.size = l.toArray.size → Region.ready .any (late n p l).toArray listed = [] → Region.ready .any l.toArray listed = [] := by
    intro listed hd hsz h0
    refine List.eq_nil_iff_forall_not_mem.2 fun j hj => ?_
    have key : ∀ j, j ∈ Region.ready .any (late n p l).toArray listed → False := fun j hj => by rw [h0] at hj; cases hj
    by_cases hjn : j = n
    · subst hjn
      cases hp : listed.getD p false with
      | true => exact key _ (ready_late hp hj)
      | false => exact key _ ((ready_ne hL.ne).2 (late_ready hL hd hsz hj hp))
    · exact key _ ((ready_ne hjn).2 hj)
  induction fuel with
  | zero => exact fun listed a w hd hsz h => ⟨none_of hd hsz h.1, h.2⟩
  | succ fuel ih =>
    intro listed a w hd hsz h
    by_cases hc : n ∈ Region.ready .any l.toArray listed ∧ listed.getD p false = false
    · obtain ⟨hn, hp⟩ := hc
      have hr := late_ready hL hd hsz hn hp
      have h1 := wpOp_late (h.2 p ((ready_ne hL.ne).2 hr))
      obtain ⟨x, k, hx⟩ := hL.ext
      have hw : Region.wanted op (yielded l.toArray a.tmps) = true := by unfold Region.wanted; rw [hL.plain]
      unfold wpOp at h1
      simp only [hL.get, hw, if_true] at h1
      obtain ⟨v, hv, hK⟩ := ext_run hx h1
      refine wpAny_first hL.get (Region.noSelect_spec hL.sel) (fun c a w h => hQ c a _ v w h) fuel listed a w (fun j oj hj hne hun hno => hL.free j oj hj hne ?_ hno) hr (.inl ⟨hw, hv⟩) (ih _ _ _ (hd.set hr) (by simpa using hsz) hK)
      cases ha : ancB l.toArray l.toArray.size p j with
      | false => rfl
      | true =>
        obtain ⟨_, o', ho', hall⟩ := mem_ready.1 hr
        rw [hL.get] at ho'
        cases ho'
        have := getD_down (anc_listed hd _ p j op hL.get hall ha)
        rw [this] at hun
        cases hun
    · refine ⟨fun h0 => h.1 ?_, fun i hi => ?_⟩
      · refine List.eq_nil_iff_forall_not_mem.2 fun j hj => ?_
        have : j ∈ Region.ready .any l.toArray listed := by
          by_cases hjn : j = n
          · subst hjn
            obtain ⟨g0, o', ho', hall⟩ := mem_ready.1 hj
            cases ho : l.toArray[j]? with
            | none => rw [late_none ho] at ho'; cases ho'
            | some o =>
              rw [late_at ho] at ho'
              cases ho'
              exact mem_ready.2 ⟨g0, o, ho, fun e he hb => hall e (Array.mem_push.2 (.inl he)) hb⟩
          · exact (ready_ne hjn).1 hj
        rw [h0] at this
        cases this
      · have hi' : i ∈ Region.ready .any (late n p l).toArray listed := by
          by_cases hin : i = n
          · subst hin
            refine ready_late ?_ hi
            cases hp : listed.getD p false with
            | true => rfl
            | false => exact absurd ⟨hi, hp⟩ hc
          · exact (ready_ne hin).2 hi
        exact wpOp_mono (fun a' w' h' => ih _ a' w' (hd.set hi) (by simpa using hsz) h') (wpOp_late (h.2 i hi'))
/-- The region with that edge more. -/
theorem wp_region_late {id : Nat} {a : Act} {w : World} (n p : Nat) (hm : P.follows .mixedOrders = true) (hB : lateB l.toArray n p = true) (hQ : ∀ c a d v w, Q (.panic c) (Act.put a d v) w → Q (.panic c) a w)
    (h : wpAny P .any (late n p l).toArray Q l.length (Array.replicate l.length false) a w.drew) : (Code.region id l.toArray true).wp P Q a w := by
  obtain ⟨op, hL⟩ := lateOK hB
  refine wp_region_any hm ?_
  refine wpAny_late hL hQ _ _ _ _ ?_ (by simp) (by simpa using h)
  intro k o _ hk
  simp only [Array.getD, Array.size_replicate] at hk
  split at hk
  · simp at hk
  · cases hk
/-- Such a region by the walk in the order of the text; memory only grows ahead of its last operations. -/
theorem wp_region_late_in {id : Nat} {a : Act} {w : World} (n p m : Nat) (L : Tab) (hm : P.follows .mixedOrders = true) (hL : lateB l.toArray n p = true) (hn : tailB (late n p l).toArray m = true) (hB : Region.lexB .any (late n p l).toArray = true)
    (hQ : ∀ c a d v w, Q (.panic c) (Act.put a d v) w → Q (.panic c) a w) (hT : TabOK L)
    (h : wpRel P (late n p l).toArray (Ext w) Ext L.at m Q (late n p l) 0 a Facts.top) : (Code.region id l.toArray true).wp P Q a w := by
  refine wp_region_late n p hm hL hQ ?_
  have hlen : l.length = (late n p l).length := by simp [late]
  rw [hlen]
  simp only [Region.lexB, Bool.and_eq_true] at hB
  have hG : ∀ (j : Nat) (w w' : World), Ext w w' → Facts.top j w → Facts.top j w' := fun _ _ _ _ h => h
  have hd : Down (late n p l).toArray (Array.replicate (late n p l).length false) := by
    intro k o _ hk
    simp only [Array.getD, Array.size_replicate] at hk
    split at hk
    · simp at hk
    · cases hk
  refine wpAny_of_R (C := Ext w) (E := Ext) (T := L.at) (n := m) (Tab.stays hT) hn _ _ _ Facts.top _ hd (by simp) hG (Ext.refl w).drew (fun _ => trivial) ?_
  have := wpAnyR_lex (C := Ext w) (Tab.stays hT) hn hB.1 (late n p l) 0 (Array.replicate (late n p l).length false) a Facts.top hd hG ⟨_, (Ext.refl w).drew, fun _ => trivial⟩ (by simp) (by simpa using hB.2) h
  simpa using this
end
end Go.Proofs.YtolkhjdododdaaaGreat

/- The reference's rows: Seen. -/
namespace Go.Proofs.YtolkhjdododdaaaGreat
open Go Go.RowKit
attribute [local go_sem] yields yUpon co5 cl4

theorem seenCo_best (M : Co) (G now : Int) : seenCo M G now = (bestB M.cell G && seenB M.cell.dead M.cell.at_ M.cell.fin now) := by
  unfold seenCo bestB
  cases hd : M.cell.dead with
  | true => rfl
  | false =>
    by_cases h1 : M.cell.at_ < 1
    · have : seenB false M.cell.at_ M.cell.fin now = false := by
        unfold seenB
        rw [show decide (0 < M.cell.at_) = false by simp; omega]
        rfl
      rw [this]
      simp
    · by_cases h2 : G < M.cell.at_
      · have h3 : ¬ M.cell.at_ ≤ G := by omega
        simp [h1, h2, h3]
      · have h3 : M.cell.at_ ≤ G := by omega
        simp [h1, h2, h3]

set_option maxRecDepth 100000 in
set_option maxHeartbeats 4000000 in
theorem seen7_any (r : Ro) (v : Value) (part now : Int) (w : World) (hin : ColsIn w v r.cols) (hlen : r.cols.length ≤ 400000) (hd : ∀ (k : Nat) (h : k < r.cols.length), cellOf r.cols r.cols[k].name = r.cols[k].cell) :
    Calls Tryz.prog 62 #[(.agg #[.string r.key, .string r.live.val, .bool r.live.dead, .int .i64 r.live.at_, .int .i64 r.live.fin, .int .i64 r.gone, .int .i64 r.shade, v]), .int .i64 part, .int .i64 now] w fun e w' => ∃ v', e = .returned v' ∧ w'.ownsRow (w.heap.size + 1) 57 5 v' (seenCos r.cols (max r.gone part) now).length (coCells (seenCos r.cols (max r.gone part) now)) ∧ Ext w w' := by
  obtain ⟨a, c, rfl, hc, hcm, hcell⟩ := hin.get
  obtain ⟨l, hl⟩ : ∃ l, l = r.cols := ⟨_, rfl⟩
  obtain ⟨G, hG⟩ : ∃ G, G = max r.gone part := ⟨_, rfl⟩
  have hbest : ∀ (k : Nat) (h : k < l.length) (y : World), Ext w y → Calls Tryz.prog 59 #[(.agg #[.string r.key, .string r.live.val, .bool r.live.dead, .int .i64 r.live.at_, .int .i64 r.live.fin, .int .i64 r.gone, .int .i64 r.shade, (.slice a l.length c)]), .int .i64 part, .string l[k].name] y fun e w' => e = .returned (.tuple #[(.agg #[.string (bestC l[k].cell G).val, .bool (bestC l[k].cell G).dead, .int .i64 (bestC l[k].cell G).at_, .int .i64 (bestC l[k].cell G).fin]), .bool (bestB l[k].cell G)]) ∧ Ext y w' := by
    intro k h y hy
    subst hl
    rw [hG]
    have := best7_any r (.slice a r.cols.length c) part r.cols[k].name y (hin.ext hy)
    rw [hd k h] at this
    exact this
  rw [← hl] at hcell hc hlen ⊢
  rw [← hG]
  have HB := Lib.hid hbest
  have HC := Lib.hid hcell
  clear hcell hin hl hG hd hbest
  go_enter Tryz.func62, Tryz.ntmps62
  go_wp2
  go_loopw [7, 8] (fun m i wr => ∃ k : Nat, k ≤ l.length ∧ i = .int .i64 k ∧ BoxAt wr w.heap.size (ro8 r (.slice a l.length c)) 54 ∧ Ext w wr ∧ wr.ownsRow (w.heap.size + 1) 57 5 m (seenCos (l.take k) G now).length (coCells (seenCos (l.take k) G now))) (fun _ i _ => l.length - (intOf i).toNat)
  case atStart => exact ⟨0, Nat.zero_le _, rfl, BoxAt.made w _ _, (Ext.refl w).alloc _, World.ownsRow_nil _ _ _ _⟩
  case round =>
    obtain ⟨k, hk, rfl, hbox, hE, hown⟩ := hrel
    by_cases hlt : k < l.length
    · obtain ⟨b, o, rfl, hco⟩ := HC.out k hlt
      have hbk := HB.out k hlt
      obtain ⟨M, hM⟩ : ∃ M, M = l[k] := ⟨_, rfl⟩
      rw [← hM] at hco hbk
      have hD : l.drop k = M :: l.drop (k + 1) := by rw [hM]; exact List.drop_eq_getElem_cons hlt
      have hT := seenCos_take (g := G) (now := now) hD
      have hle : (seenCos (l.take k) G now).length ≤ k := Nat.le_trans (List.length_filter_le _ _) (by simp; omega)
      clear hM hD
      obtain ⟨S, hS⟩ : ∃ S, S = seenCos (l.take k) G now := ⟨_, rfl⟩
      rw [← hS] at hT hle hown
      clear hS
      have HT := Lib.hid hT
      have HBK := Lib.hid hbk
      have HSB := Lib.hid (seenCo_best M G now)
      clear hT hbk
      obtain ⟨B, hB⟩ : ∃ B, B = bestB M.cell G := ⟨_, rfl⟩
      obtain ⟨C, hC⟩ : ∃ C, C = bestC M.cell G := ⟨_, rfl⟩
      rw [← hB] at HBK HSB
      rw [← hC] at HBK
      have HCB : Hid (B = true → C = M.cell) := by
        show B = true → C = M.cell
        intro h
        rw [hC]
        unfold bestC
        rw [← hB, if_pos h]
      clear hB hC
      replace hco := hco.ext hE
      have HCO := Lib.hid hco
      obtain ⟨g0, g1, g2, g3, g4⟩ := hco
      obtain ⟨y0, y1, y2, y3, y4, y5, y6, y7⟩ := hbox.ro
      go_wp2_with fail
      refine wp_region_late_in 13 11 13 [(8, fun v _ => v = .tuple #[(.agg #[.string C.val, .bool C.dead, .int .i64 C.at_, .int .i64 C.fin]), .bool B]), (12, fun v x => ∃ q, v = .pointer (some ⟨q, 0, none⟩) ∧ wr.heap.size ≤ q ∧ BoxAt x q (cl4 zeroCl) 51)] (by kernel_rfl) (by kernel_rfl) (by kernel_rfl) (by kernel_rfl) (fun c a d v w h => by cases d <;> exact h) ⟨stays_eq _, fun _ _ _ hE ⟨q, e, h1, h2⟩ => ⟨q, e, h1, h2.ext hE⟩, trivial⟩ ?_
      simp only [late, List.modify_succ_cons, List.modify_zero_cons, List.push_toArray, List.cons_append, List.nil_append]
      replace g0 := held g0
      replace y0 := held y0
      replace y1 := held y1
      replace y2 := held y2
      replace y3 := held y3
      replace y4 := held y4
      replace y5 := held y5
      replace y6 := held y6
      replace y7 := held y7
      refine rg_quiet rfl rfl rfl rfl ?_; intro K hK; go_big_quiet_op; go_big_quiet_on
      refine rg_quiet rfl rfl rfl rfl ?_; intro K hK; go_big_quiet_op; go_big_quiet_on
      refine rg_quiet rfl rfl rfl rfl ?_; intro K hK; go_big_quiet_op; go_big_quiet_on
      refine rg_quiet rfl rfl rfl rfl ?_; intro K hK; go_big_quiet_op; go_big_quiet_on
      refine rg_quiet rfl rfl rfl rfl ?_; intro K hK; go_big_quiet_op; go_big_quiet_on
      refine rg_quiet rfl rfl rfl rfl ?_; intro K hK; go_big_quiet_op; go_big_quiet_on
      refine rg_quiet rfl rfl rfl rfl ?_; intro K hK; go_big_quiet_op; go_big_quiet_on
      refine rg_quiet rfl rfl rfl rfl ?_; intro K hK; go_big_quiet_op; go_big_quiet_on
      refine rg_val [] rfl rfl rfl (by kernel_rfl) (fun y hY hf => ?_) ?_
      · go_simp
        exact (HBK.out y (hE.trans hY)).mono fun e w' ⟨he, hw⟩ => ⟨_, he, rg_done hY hw rfl⟩
      simp only [Act.put, List.setIfInBounds_toArray, List.set_cons_zero, List.set_cons_succ]
      refine rg_quiet rfl rfl rfl rfl ?_; intro K hK; go_big_quiet_op; go_big_quiet_on
      refine rg_quiet rfl rfl rfl rfl ?_; intro K hK; go_big_quiet_op; go_big_quiet_on
      refine rg_quiet rfl rfl rfl rfl ?_; intro K hK; go_big_quiet_op; go_big_quiet_on
      refine rg_fact [] rfl rfl rfl (by kernel_rfl) (fun y hY hf => ?_) (fun v12 y12 hE12 hG12 h12 => ?_)
      · go_simp
        exact rg_doneR hY ((Ext.refl y).alloc _) ⟨_, rfl, hY.le, BoxAt.made y _ _⟩
      obtain ⟨q9, rfl, _⟩ := h12
      clear hE12 hG12
      simp only [Act.put, List.setIfInBounds_toArray, List.set_cons_zero, List.set_cons_succ]
      refine rel_tail rfl rfl fun w5 hE5 hG => ?_
      obtain ⟨q9', e9, hq9, hbx⟩ := (hG 12).2 rfl
      cases e9
      have hbox5 := hbox.ext hE5
      have hE15 := hE.trans hE5
      have hown5 := ownsRow_ext hown hE5
      have hlr := hbox.lt
      have hlw := hE.le
      clear hG y0 y1 y2 y3 y4 y5 y6 y7 g0 g1 g2 g3 g4 hbox hE hown
      have hE6' : ∀ w6, w5.grownBy w6 (some q9) → Ext wr w6 := fun w6 g6 => hE5.grown g6 (fun q hq => by cases hq; exact hq9)
      have HE6 := Lib.hid hE6'
      clear hE6'
      go_wp2_with (((guard_target =~ wpList _ _ _ (Oper.mk none (Op.store _ (Operand.tmp 9) (Operand.tmp 28)) _ _ _ _ :: _) _ _); go_must (refine storeBox rfl 51 (.tmp 9) (.tmp 28) rfl (q9) _ _ _ (by rfl) (by rfl) (hbx) (by kernel_rfl) (by rfl) (by simp [Value.oneCell']) ?_); intro w6 c6 g6); have hq6 : Ext wr w6 := HE6.out _ g6; have d6 : w6.cell? ⟨q9, 0, none⟩ = some (.string C.val) ∧ w6.cell? ⟨q9, 1, none⟩ = some (.bool C.dead) ∧ w6.cell? ⟨q9, 2, none⟩ = some (.int .i64 C.at_) ∧ w6.cell? ⟨q9, 3, none⟩ = some (.int .i64 C.fin) := BoxAt.cl c6)
      · have hBt : B = true := by assumption
        have hS2 : seenCo M G now = seenB C.dead C.at_ C.fin now := by rw [HSB.out, HCB.out hBt, hBt]; rfl
        have HCM : Hid ((⟨M.name, C⟩ : Co) = M) := by show _ = _; rw [HCB.out hBt]
        have HS2 := Lib.hid hS2
        clear HCB HBK HSB hS2
        have hbox6 := hbox5.grown g6 (fun e => by have := Option.some.inj e; omega)
        have hE16 := hE15.grown g6 (fun q hq => by cases hq; omega)
        have hown6 := hown5.kept g6 (own_ne_box hown5 hbx (by decide))
        have hco6 := HCO.out.ext hq6
        clear hown5 hbox5 hE15 hbx g6
        refine (rseen_any C.val C.dead C.at_ C.fin now w6).mono ?_
        rw [← HS2.out]
        rintro e w7 ⟨rfl, hE7⟩
        have d7 : w7.cell? ⟨q9, 0, none⟩ = some (.string C.val) ∧ w7.cell? ⟨q9, 1, none⟩ = some (.bool C.dead) ∧ w7.cell? ⟨q9, 2, none⟩ = some (.int .i64 C.at_) ∧ w7.cell? ⟨q9, 3, none⟩ = some (.int .i64 C.fin) := BoxAt.cl (c6.ext hE7)
        replace hbox6 := hbox6.ext hE7
        replace hE16 := hE16.trans hE7
        replace hown6 := ownsRow_ext hown6 hE7
        replace hco6 := hco6.ext hE7
        clear d6
        obtain ⟨g0, g1, g2, g3, g4⟩ := hco6
        obtain ⟨y0, y1, y2, y3, y4, y5, y6, y7⟩ := hbox6.ro
        obtain ⟨z0, z1, z2, z3⟩ := d7
        have hT2 := HT.out
        clear HT HS2
        cases hs : seenCo M G now
        · rw [hs] at hT2
          simp only [Bool.false_eq_true, if_false, List.append_nil] at hT2
          have HT2 := Lib.hid hT2
          clear hT2 hs
          go_wp2_with fail
          go_roundw
          case rel => exact ⟨k + 1, by omega, by go_num, hbox6, hE16, by rw [HT2.out]; exact hown6⟩
          case measure => simp [intOf] <;> omega
        · rw [hs] at hT2
          simp only [if_true] at hT2
          have HT2 := Lib.hid hT2
          clear hT2 hs
          go_wp2_with fail
          refine wp_region_tab 10 [(9, fun v x => ∃ b, v = .slice (some ⟨b, 0, none⟩) 1 1 ∧ BoxAt x b (co5 ⟨M.name, C⟩) 57)] (by kernel_rfl) (by kernel_rfl) (by kernel_rfl) ⟨fun _ _ _ hE ⟨b, e, h⟩ => ⟨b, e, h.ext hE⟩, trivial⟩ ?_
          replace g0 := held g0
          replace y0 := held y0
          replace y1 := held y1
          replace y2 := held y2
          replace y3 := held y3
          replace y4 := held y4
          replace y5 := held y5
          replace y6 := held y6
          replace y7 := held y7
          replace z0 := held z0
          replace z1 := held z1
          replace z2 := held z2
          replace z3 := held z3
          refine rg_quiet rfl rfl rfl rfl ?_; intro K hK; go_big_quiet_op; go_big_quiet_on
          refine rg_quiet rfl rfl rfl rfl ?_; intro K hK; go_big_quiet_op; go_big_quiet_on
          refine rg_quiet rfl rfl rfl rfl ?_; intro K hK; go_big_quiet_op; go_big_quiet_on
          refine rg_quiet rfl rfl rfl rfl ?_; intro K hK; go_big_quiet_op; go_big_quiet_on
          refine rg_quiet rfl rfl rfl rfl ?_; intro K hK; go_big_quiet_op; go_big_quiet_on
          refine rg_quiet rfl rfl rfl rfl ?_; intro K hK; go_big_quiet_op; go_big_quiet_on
          refine rg_quiet rfl rfl rfl rfl ?_; intro K hK; go_big_quiet_op; go_big_quiet_on
          refine rg_quiet rfl rfl rfl rfl ?_; intro K hK; go_big_quiet_op; go_big_quiet_on
          refine rg_quiet rfl rfl rfl rfl ?_; intro K hK; go_big_quiet_op; go_big_quiet_on
          refine rg_fact [] rfl rfl rfl (by kernel_rfl) (fun y hE hf => ?_) (fun v12 y12 hE12 hG12 h12 => ?_)
          · go_simp
            exact rg_doneR hE ((Ext.refl y).alloc _) ⟨_, rfl, BoxAt.made y _ _⟩
          obtain ⟨b12, rfl, _⟩ := h12
          clear hE12 hG12
          simp only [Act.put, List.setIfInBounds_toArray, List.set_cons_zero, List.set_cons_succ]
          refine rel_tail rfl rfl fun w8 hE8 hG => ?_
          obtain ⟨b12', e12, hbc⟩ := (hG 9).2 rfl
          cases e12
          have hown8 := ownsRow_ext hown6 hE8
          have hcs := cols_box hbc
          rw [HCM.out] at hcs
          clear hG y0 y1 y2 y3 y4 y5 y6 y7 z0 z1 z2 z3 g0 g1 g2 g3 g4 hbc
          have hbox8 := hbox6.ext hE8
          have hE18 := hE16.trans hE8
          have hl8 := hbox8.lt
          go_wp2_with ((guard_target =~ wpList _ _ _ (Oper.mk (some 46) _ _ _ _ _ :: _) _ _); at_builtin; go_must (refine appCols w8 rfl (.tmp 36) (.tmp 45) rfl (w.heap.size + 1) hl8 _ S hown8 (by rfl) _ [M] hcs (by rfl) (by simp; omega) ?_); intro v9 w9 hown9 hg9)
          go_roundw
          case rel =>
            refine ⟨k + 1, by omega, by go_num, hbox8.grown hg9 (fun h => ?_), hE18.grown hg9 fun q hq => by have := (hown8.lt q hq).1; omega, ?_⟩
            · have := (hown8.lt _ h.symm).1
              omega
            · rw [HT2.out]
              exact hown9
          case measure => simp [intOf] <;> omega
      · have hT2 := HT.out
        have hBf : B = false := by first | assumption | (rename_i hnb; simpa using hnb) | (cases B <;> simp_all)
        rw [HSB.out, hBf] at hT2
        simp only [Bool.false_and, Bool.false_eq_true, if_false, List.append_nil] at hT2
        have HT2 := Lib.hid hT2
        clear hT2 HT HSB HCB HBK
        go_roundw
        case rel => exact ⟨k + 1, by omega, by go_num, hbox5.grown g6 (fun e => by have := Option.some.inj e; omega), hE15.grown g6 (fun q hq => by cases hq; omega), by rw [HT2.out]; exact hown5.kept g6 (own_ne_box hown5 hbx (by decide))⟩
        case measure => simp [intOf] <;> omega
    · obtain rfl : k = l.length := by omega
      rw [List.take_length] at hown
      obtain ⟨y0, y1, y2, y3, y4, y5, y6, y7⟩ := hbox.ro
      go_wp2_with fail
      go_ret
      exact ⟨_, rfl, hown, hE⟩
end Go.Proofs.YtolkhjdododdaaaGreat

/- The reference's rows: Is; its partitions: Seen. (what a smaller cut has) -/
namespace Go.Proofs.YtolkhjdododdaaaGreat
open Go Go.RowKit
attribute [local go_sem] yields yUpon
/-- Each column's name is its own. -/
def DistN (l : List Co) : Prop := ∀ (k : Nat) (h : k < l.length), cellOf l l[k].name = l[k].cell
end Go.Proofs.YtolkhjdododdaaaGreat

/- What passes the reference's Check rises (plain). -/
namespace Go.Proofs.YtolkhjdododdaaaGreat
open Go Go.RowKit

theorem distN_of_up {l : List Co} (h : Up kCo l) : DistN l := by
  induction l with
  | nil => intro k hk; exact absurd hk (Nat.not_lt_zero _)
  | cons c l ih =>
    intro k hk
    cases k with
    | zero => unfold cellOf; rw [if_pos (by simp)]; rfl
    | succ k =>
      have hk' : k < l.length := by simpa using hk
      have hne : kCo c ≠ kCo l[k] := ne_of_lt (h.head _ (List.getElem_mem hk'))
      show cellOf (c :: l) l[k].name = l[k].cell
      unfold cellOf
      rw [if_neg (by unfold kCo at hne; rw [ByteArray.toList_eq, ByteArray.toList_eq]; simpa using hne)]
      exact ih h.tail k hk'
/-- Columns that pass the reference's Check rise. -/
theorem csB_up : ∀ {l : List Co} {p : Option ByteArray}, csB p l = true → Up kCo l ∧ (∀ c ∈ l, 0 < c.cell.at_) ∧ ∀ q, p = some q → ∀ c ∈ l, cmpB q.data.toList (kCo c) < 0
  | [], _, _ => ⟨List.Pairwise.nil, nofun, nofun⟩
  | c :: l, p, h => by
    rw [csB_cons] at h
    simp only [Bool.and_eq_true, decide_eq_true_eq] at h
    obtain ⟨⟨⟨⟨h1, h2⟩, h3⟩, h4⟩, h5⟩ := h
    obtain ⟨i1, i2, i3⟩ := csB_up h5
    have hc : ∀ d ∈ l, cmpB (kCo c) (kCo d) < 0 := i3 _ rfl
    refine ⟨List.pairwise_cons.2 ⟨hc, i1⟩, fun d hd => ?_, fun q hq d hd => ?_⟩
    · rcases List.mem_cons.1 hd with rfl | hd
      · exact h4
      · exact i2 d hd
    · subst hq
      have h0 : cmpB q.data.toList (kCo c) < 0 := (keyC_less ⟨q, zeroCl⟩ c).2 h2
      rcases List.mem_cons.1 hd with rfl | hd
      · exact h0
      · exact cmpB_lt_trans h0 (hc d hd)
theorem rwB_parts {r : Ro} (h : rwB r = true) : hdB r = true ∧ csB none r.cols = true := by
  unfold rwB at h
  simpa using h
theorem rsB_up : ∀ {l : List Ro} {p : Option ByteArray}, rsB p l = true → Up kRo l ∧ (∀ r ∈ l, rwB r = true) ∧ ∀ q, p = some q → ∀ r ∈ l, cmpB q.data.toList (kRo r) < 0
  | [], _, _ => ⟨List.Pairwise.nil, nofun, nofun⟩
  | c :: l, p, h => by
    have h : (rwB c && orB p c.key && rsB (some c.key) l) = true := h
    simp only [Bool.and_eq_true] at h
    obtain ⟨⟨h1, h2⟩, h5⟩ := h
    obtain ⟨i1, i2, i3⟩ := rsB_up h5
    have hc : ∀ d ∈ l, cmpB (kRo c) (kRo d) < 0 := i3 _ rfl
    refine ⟨List.pairwise_cons.2 ⟨hc, i1⟩, fun d hd => ?_, fun q hq d hd => ?_⟩
    · rcases List.mem_cons.1 hd with rfl | hd
      · exact h1
      · exact i2 d hd
    · subst hq
      have h0 : cmpB q.data.toList (kRo c) < 0 := (keyC_less ⟨q, zeroCl⟩ ⟨c.key, zeroCl⟩).2 h2
      rcases List.mem_cons.1 hd with rfl | hd
      · exact h0
      · exact cmpB_lt_trans h0 (hc d hd)
theorem ptB_parts {k : ByteArray} {g : Int} {l : List Ro} (h : ptB k g l = true) : k.size ≤ 100 ∧ 0 ≤ g ∧ l.length ≤ 100 ∧ rsB none l = true := by
  unfold ptB at h
  simp only [Bool.and_eq_true, Bool.not_eq_true', decide_eq_false_iff_not] at h
  obtain ⟨⟨⟨⟨h1, h2⟩, h3⟩, h4⟩, h5⟩ := h
  exact ⟨by omega, by omega, by omega, h5⟩
theorem hdB_key {r : Ro} (h : hdB r = true) : r.key.size ≤ 400 ∧ r.cols.length ≤ 8 := by
  obtain ⟨h1, _, _, _, _, _, h7⟩ := hdB_parts h
  simp at h1 h7
  exact ⟨by omega, by omega⟩
end Go.Proofs.YtolkhjdododdaaaGreat
