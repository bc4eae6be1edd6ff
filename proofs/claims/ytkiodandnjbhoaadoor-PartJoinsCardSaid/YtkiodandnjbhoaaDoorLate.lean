/- A region that draws its order: an operation that takes a part out of a tuple, and that the store of another part need not wait for, may be taken ahead of that store: the region with that edge more. -/
import Derived.Test.YtkiodandnjbhoaaDoorRegionE
namespace Go.Proofs.YtkiodandnjbhoaaDoor
open Go

/-- Operation n waits for p, too. -/
def late (n p : Nat) (l : List Oper) : List Oper := l.modify n fun o => { o with after := o.after.push ⟨p, .data⟩ }
def isExt : Op → Bool
  | .extract .. => true
  | _ => false
/-- What is asked of p and n. -/
def lateB (ops : Array Oper) (n p : Nat) : Bool :=
  match ops[p]? with
  | none => false
  | some op => p != n && decide (n < ops.size) && isExt op.op && op.guard.isNone && Region.noSelect ops &&
      (op.after.all fun e => !Region.binds .any e || ancB ops ops.size n e.on) &&
      (List.range ops.size).all fun j => j == p || ancB ops ops.size p j || match ops[j]? with
        | some oj => oj.after.any (fun e => Region.binds .any e && e.on == p) || op.apart ops oj
        | none => true

section
variable {P : Program} {l : List Oper} {n p : Nat} {Q : Exit → Act → World → Prop} {listed : Array Bool}
theorem late_ne {j : Nat} (h : j ≠ n) : (late n p l).toArray[j]? = l.toArray[j]? := by
  simp only [late, List.getElem?_toArray, List.getElem?_modify]
  cases l[j]? with
  | none => rfl
  | some o => simp; exact fun e => absurd e.symm h
theorem late_at {o : Oper} (ho : l.toArray[n]? = some o) : (late n p l).toArray[n]? = some { o with after := o.after.push ⟨p, .data⟩ } := by
  simp only [List.getElem?_toArray] at ho
  simp only [late, List.getElem?_toArray, List.getElem?_modify, ho, if_true]
  rfl
theorem late_none (ho : l.toArray[n]? = none) : (late n p l).toArray[n]? = none := by
  simp only [List.getElem?_toArray] at ho
  simp only [late, List.getElem?_toArray, List.getElem?_modify, ho]
  rfl
theorem late_dst (j : Nat) : ((late n p l).toArray[j]?).bind (·.dst) = (l.toArray[j]?).bind (·.dst) := by
  by_cases h : j = n
  · subst h
    cases ho : l.toArray[j]? with
    | none => rw [late_none ho]
    | some o => rw [late_at ho]; rfl
  · rw [late_ne h]
theorem late_yielded : yielded (late n p l).toArray = yielded l.toArray := by
  funext tmps j
  unfold yielded
  rw [late_dst]
theorem ready_ne {j : Nat} (h : j ≠ n) : j ∈ Region.ready .any (late n p l).toArray listed ↔ j ∈ Region.ready .any l.toArray listed := by
  rw [mem_ready, mem_ready, late_ne h]
theorem ready_late (hp : listed.getD p false = true) (h : n ∈ Region.ready .any l.toArray listed) : n ∈ Region.ready .any (late n p l).toArray listed := by
  rw [mem_ready] at h ⊢
  obtain ⟨h0, o, ho, hall⟩ := h
  refine ⟨h0, _, late_at ho, fun e he hb => ?_⟩
  rcases Array.mem_push.1 he with he | rfl
  · exact hall e he hb
  · exact hp
theorem wpOp_late {i : Nat} {K : Act → World → Prop} {a : Act} {w : World} (h : wpOp P (late n p l).toArray Q i K a w) : wpOp P l.toArray Q i K a w := by
  unfold wpOp at h ⊢
  rw [late_yielded] at h
  by_cases hi : i = n
  · subst hi
    cases ho : l.toArray[i]? with
    | none => rw [late_none ho] at h; exact h
    | some o => rw [late_at ho] at h; exact h
  · rw [late_ne hi] at h
    exact h
theorem ext_run {x : Operand} {k : Nat} {o : Oper} (ho : o.op = .extract x k) {a : Act} {w : World} {K : Act → World → Prop} (h : o.wp P a w K Q ∨ (o.asks P a w ∧ LetsOut Q)) : ∃ v, (∀ w', (execOp a.eval o).run P w' = .ok (.value v) w') ∧ K (a.put o.dst v) w := by
  have he : execOp a.eval o = (do pure (Next.value (← Instr.extract (a.eval x) k))) := by unfold execOp; rw [ho]
  have key : (∃ v, Instr.extract (a.eval x) k = pure v) ∨ ∃ m, Instr.extract (a.eval x) k = stuck m := by
    unfold Instr.extract
    split
    · split
      · exact .inl ⟨_, rfl⟩
      · exact .inr ⟨_, rfl⟩
    · exact .inr ⟨_, rfl⟩
  have ev : ((execOp a.eval o).runT P w #[]).2 = #[] := by
    rw [he]
    rcases key with ⟨v, e⟩ | ⟨m, e⟩ <;> rw [e] <;> rfl
  have h : o.wp P a w K Q := by
    rcases h with h | ⟨h, _⟩
    · exact h
    · have h := h.1
      rw [ev] at h
      simp at h
  rcases key with ⟨v, e⟩ | ⟨m, e⟩
  · have hr : ∀ w', (execOp a.eval o).run P w' = .ok (.value v) w' := by
      intro w'
      rw [he, e]
      rfl
    refine ⟨v, hr, ?_⟩
    unfold Oper.wp at h
    rw [hr] at h
    exact h
  · exfalso
    have hr : (execOp a.eval o).run P w = .halt (.stuck m) w := by
      rw [he, e]
      rfl
    unfold Oper.wp at h
    rw [hr] at h
    exact h

structure LateOK (ops : Array Oper) (n p : Nat) (op : Oper) : Prop where
  get : ops[p]? = some op
  ne : p ≠ n
  ext : ∃ x k, op.op = .extract x k
  plain : op.guard = none
  sel : Region.noSelect ops = true
  anc : ∀ e ∈ op.after, Region.binds .any e = true → ancB ops ops.size n e.on = true
  free : ∀ j oj, ops[j]? = some oj → j ≠ p → ancB ops ops.size p j = false → (∀ e ∈ oj.after, Region.binds .any e = true → e.on ≠ p) → op.apart ops oj = true
theorem lateOK {ops : Array Oper} (h : lateB ops n p = true) : ∃ op, LateOK ops n p op := by
  unfold lateB at h
  cases hp : ops[p]? with
  | none => rw [hp] at h; cases h
  | some op =>
    rw [hp] at h
    simp only [Bool.and_eq_true, bne_iff_ne, decide_eq_true_eq, Array.all_eq_true', Bool.or_eq_true, Bool.not_eq_true', List.all_eq_true, List.mem_range, beq_iff_eq] at h
    obtain ⟨⟨⟨⟨⟨⟨h1, h2⟩, h3⟩, h4⟩, h5⟩, h6⟩, h7⟩ := h
    refine ⟨op, hp, h1, ?_, ?_, h5, fun e he hb => ?_, fun j oj hj hne hna hno => ?_⟩
    · unfold isExt at h3
      split at h3
      · exact ⟨_, _, by assumption⟩
      · cases h3
    · simpa using h4
    · rcases h6 e he with h | h
      · rw [hb] at h; cases h
      · exact h
    · have h8 := h7 j (Array.getElem?_eq_some_iff.1 hj).1
      rw [hj] at h8
      simp only [Bool.or_eq_true] at h8
      rcases h8 with (h8 | h8) | h8 | h8
      · exact absurd h8 hne
      · rw [hna] at h8; cases h8
      · obtain ⟨e, he, hb⟩ := Array.any_eq_true'.1 h8
        simp only [Bool.and_eq_true, beq_iff_eq] at hb
        exact absurd hb.2 (hno e he hb.1)
      · exact h8
theorem getD_down {j : Nat} (h : listed.getD j false = true) : listed.getD j true = true := by
  rcases Nat.lt_or_ge j listed.size with h' | h'
  · simp [h'] at h ⊢; exact h
  · simp [Array.getElem?_eq_none h'] at h
/-- When n may come up, p may, if it has not. -/
theorem late_ready {op : Oper} (hL : LateOK l.toArray n p op) (hd : Down l.toArray listed) (hsz : listed.size = l.toArray.size) (hn : n ∈ Region.ready .any l.toArray listed) (hp : listed.getD p false = false) : p ∈ Region.ready .any l.toArray listed := by
  obtain ⟨_, o, ho, hall⟩ := mem_ready.1 hn
  refine mem_ready.2 ⟨?_, op, hL.get, fun e he hb => anc_listed hd _ n e.on o ho hall (hL.anc e he hb)⟩
  have hlt : p < listed.size := by rw [hsz]; exact (Array.getElem?_eq_some_iff.1 hL.get).1
  simp [hlt] at hp ⊢
  exact hp
theorem wpAny_late {op : Oper} (hL : LateOK l.toArray n p op) (hQ : ∀ c a d v w, Q (.panic c) (Act.put a d v) w → Q (.panic c) a w) : ∀ (fuel : Nat) (listed : Array Bool) (a : Act) (w : World), Down l.toArray listed → listed.size = l.toArray.size →
    wpAny P .any (late n p l).toArray Q fuel listed a w → wpAny P .any l.toArray Q fuel listed a w := by
  intro fuel
  have none_of : ∀ {listed : Array Bool}, Down l.toArray listed → listed.size = l.toArray.size → Region.ready .any (late n p l).toArray listed = [] → Region.ready .any l.toArray listed = [] := by
    intro listed hd hsz h0
    refine List.eq_nil_iff_forall_not_mem.2 fun j hj => ?_
    have key : ∀ j, j ∈ Region.ready .any (late n p l).toArray listed → False := fun j hj => by rw [h0] at hj; cases hj
    by_cases hjn : j = n
    · subst hjn
      cases hp : listed.getD p false with
      | true => exact key _ (ready_late hp hj)
      | false => exact key _ ((ready_ne hL.ne).2 (late_ready hL hd hsz hj hp))
    · exact key _ ((ready_ne hjn).2 hj)
  induction fuel with
  | zero => exact fun listed a w hd hsz h => ⟨none_of hd hsz h.1, h.2⟩
  | succ fuel ih =>
    intro listed a w hd hsz h
    by_cases hc : n ∈ Region.ready .any l.toArray listed ∧ listed.getD p false = false
    · obtain ⟨hn, hp⟩ := hc
      have hr := late_ready hL hd hsz hn hp
      have h1 := wpOp_late (h.2 p ((ready_ne hL.ne).2 hr))
      obtain ⟨x, k, hx⟩ := hL.ext
      have hw : Region.wanted op (yielded l.toArray a.tmps) = true := by unfold Region.wanted; rw [hL.plain]
      unfold wpOp at h1
      simp only [hL.get, hw, if_true] at h1
      obtain ⟨v, hv, hK⟩ := ext_run hx h1
      refine wpAny_first hL.get (Region.noSelect_spec hL.sel) (fun c a w h => hQ c a _ v w h) fuel listed a w (fun j oj hj hne hun hno => hL.free j oj hj hne ?_ hno) hr (.inl ⟨hw, hv⟩) (ih _ _ _ (hd.set hr) (by simpa using hsz) hK)
      cases ha : ancB l.toArray l.toArray.size p j with
      | false => rfl
      | true =>
        obtain ⟨_, o', ho', hall⟩ := mem_ready.1 hr
        rw [hL.get] at ho'
        cases ho'
        have := getD_down (anc_listed hd _ p j op hL.get hall ha)
        rw [this] at hun
        cases hun
    · refine ⟨fun h0 => h.1 ?_, fun i hi => ?_⟩
      · refine List.eq_nil_iff_forall_not_mem.2 fun j hj => ?_
        have : j ∈ Region.ready .any l.toArray listed := by
          by_cases hjn : j = n
          · subst hjn
            obtain ⟨g0, o', ho', hall⟩ := mem_ready.1 hj
            cases ho : l.toArray[j]? with
            | none => rw [late_none ho] at ho'; cases ho'
            | some o =>
              rw [late_at ho] at ho'
              cases ho'
              exact mem_ready.2 ⟨g0, o, ho, fun e he hb => hall e (Array.mem_push.2 (.inl he)) hb⟩
          · exact (ready_ne hjn).1 hj
        rw [h0] at this
        cases this
      · have hi' : i ∈ Region.ready .any (late n p l).toArray listed := by
          by_cases hin : i = n
          · subst hin
            refine ready_late ?_ hi
            cases hp : listed.getD p false with
            | true => rfl
            | false => exact absurd ⟨hi, hp⟩ hc
          · exact (ready_ne hin).2 hi
        exact wpOp_mono (fun a' w' h' => ih _ a' w' (hd.set hi) (by simpa using hsz) h') (wpOp_late (h.2 i hi'))
/-- The region with that edge more. -/
theorem wp_region_late {id : Nat} {a : Act} {w : World} (n p : Nat) (hm : P.follows .mixedOrders = true) (hB : lateB l.toArray n p = true) (hQ : ∀ c a d v w, Q (.panic c) (Act.put a d v) w → Q (.panic c) a w)
    (h : wpAny P .any (late n p l).toArray Q l.length (Array.replicate l.length false) a w.drew) : (Code.region id l.toArray true).wp P Q a w := by
  obtain ⟨op, hL⟩ := lateOK hB
  refine wp_region_any hm ?_
  refine wpAny_late hL hQ _ _ _ _ ?_ (by simp) (by simpa using h)
  intro k o _ hk
  simp only [Array.getD, Array.size_replicate] at hk
  split at hk
  · simp at hk
  · cases hk
/-- Such a region by the walk in the order of the text; memory only grows ahead of its last operations. -/
theorem wp_region_late_in {id : Nat} {a : Act} {w : World} (n p m : Nat) (L : Tab) (hm : P.follows .mixedOrders = true) (hL : lateB l.toArray n p = true) (hn : tailB (late n p l).toArray m = true) (hB : Region.lexB .any (late n p l).toArray = true)
    (hQ : ∀ c a d v w, Q (.panic c) (Act.put a d v) w → Q (.panic c) a w) (hT : TabOK L)
    (h : wpRel P (late n p l).toArray (Ext w) Ext L.at m Q (late n p l) 0 a Facts.top) : (Code.region id l.toArray true).wp P Q a w := by
  refine wp_region_late n p hm hL hQ ?_
  have hlen : l.length = (late n p l).length := by simp [late]
  rw [hlen]
  simp only [Region.lexB, Bool.and_eq_true] at hB
  have hG : ∀ (j : Nat) (w w' : World), Ext w w' → Facts.top j w → Facts.top j w' := fun _ _ _ _ h => h
  have hd : Down (late n p l).toArray (Array.replicate (late n p l).length false) := by
    intro k o _ hk
    simp only [Array.getD, Array.size_replicate] at hk
    split at hk
    · simp at hk
    · cases hk
  refine wpAny_of_R (C := Ext w) (E := Ext) (T := L.at) (n := m) (Tab.stays hT) hn _ _ _ Facts.top _ hd (by simp) hG (Ext.refl w).drew (fun _ => trivial) ?_
  have := wpAnyR_lex (C := Ext w) (Tab.stays hT) hn hB.1 (late n p l) 0 (Array.replicate (late n p l).length false) a Facts.top hd hG ⟨_, (Ext.refl w).drew, fun _ => trivial⟩ (by simp) (by simpa using hB.2) h
  simpa using this
end
end Go.Proofs.YtkiodandnjbhoaaDoor
