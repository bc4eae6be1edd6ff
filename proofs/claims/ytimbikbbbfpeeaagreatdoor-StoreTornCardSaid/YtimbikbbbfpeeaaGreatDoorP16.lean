/- A region that draws its order: an operation that takes a part out of a tuple, and that the store of another part need not wait for, may be taken ahead of that store: the region with that edge more. -/
import Derived.Test.YtimbikbbbfpeeaaGreatDoorP4
import Derived.Test.YtimbikbbbfpeeaaGreatDoorP15
import Derived.RegionTactic
import Derived.BigRegion
import Derived.BigQuiet
set_option linter.unusedSimpArgs false
set_option linter.unusedVariables false
namespace Go.Proofs.YtimbikbbbfpeeaaGreatDoor
open Go

/-- Operation n waits for p, too. -/
def late (n p : Nat) (l : List Oper) : List Oper := l.modify n fun o => { o with after := o.after.push ⟨p, .data⟩ }
def isExt : Op → Bool
  | .extract .. => true
  | _ => false
/-- What is asked of p and n. -/
def lateB (ops : Array Oper) (n p : Nat) : Bool :=
  match ops[p]? with
  | none => false
  | some op => p != n && decide (n < ops.size) && isExt op.op && op.guard.isNone && Region.noSelect ops &&
      (op.after.all fun e => !Region.binds .any e || ancB ops ops.size n e.on) &&
      (List.range ops.size).all fun j => j == p || ancB ops ops.size p j || match ops[j]? with
        | some oj => oj.after.any (fun e => Region.binds .any e && e.on == p) || op.apart ops oj
        | none => true

section
variable {P : Program} {l : List Oper} {n p : Nat} {Q : Exit → Act → World → Prop} {listed : Array Bool}
theorem late_ne {j : Nat} (h : j ≠ n) : (late n p l).toArray[j]? = l.toArray[j]? := by
  simp only [late, List.getElem?_toArray, List.getElem?_modify]
  cases l[j]? with
  | none => rfl
  | some o => simp; exact fun e => absurd e.symm h
theorem late_at {o : Oper} (ho : l.toArray[n]? = some o) : (late n p l).toArray[n]? = some { o with after := o.after.push ⟨p, .data⟩ } := by
  simp only [List.getElem?_toArray] at ho
  simp only [late, List.getElem?_toArray, List.getElem?_modify, ho, if_true]
  rfl
theorem late_none (ho : l.toArray[n]? = none) : (late n p l).toArray[n]? = none := by
  simp only [List.getElem?_toArray] at ho
  simp only [late, List.getElem?_toArray, List.getElem?_modify, ho]
  rfl
theorem late_dst (j : Nat) : ((late n p l).toArray[j]?).bind (·.dst) = (l.toArray[j]?).bind (·.dst) := by
  by_cases h : j = n
  · subst h
    cases ho : l.toArray[j]? with
    | none => rw [late_none ho]
    | some o => rw [late_at ho]; rfl
  · rw [late_ne h]
theorem late_yielded : yielded (late n p l).toArray = yielded l.toArray := by
  funext tmps j
  unfold yielded
  rw [late_dst]
theorem ready_ne {j : Nat} (h : j ≠ n) : j ∈ Region.ready .any (late n p l).toArray listed ↔ j ∈ Region.ready .any l.toArray listed := by
  rw [mem_ready, mem_ready, late_ne h]
theorem ready_late (hp : listed.getD p false = true) (h : n ∈ Region.ready .any l.toArray listed) : n ∈ Region.ready .any (late n p l).toArray listed := by
  rw [mem_ready] at h ⊢
  obtain ⟨h0, o, ho, hall⟩ := h
  refine ⟨h0, _, late_at ho, fun e he hb => ?_⟩
  rcases Array.mem_push.1 he with he | rfl
  · exact hall e he hb
  · exact hp
theorem wpOp_late {i : Nat} {K : Act → World → Prop} {a : Act} {w : World} (h : wpOp P (late n p l).toArray Q i K a w) : wpOp P l.toArray Q i K a w := by
  unfold wpOp at h ⊢
  rw [late_yielded] at h
  by_cases hi : i = n
  · subst hi
    cases ho : l.toArray[i]? with
    | none => rw [late_none ho] at h; exact h
    | some o => rw [late_at ho] at h; exact h
  · rw [late_ne hi] at h
    exact h
theorem ext_run {x : Operand} {k : Nat} {o : Oper} (ho : o.op = .extract x k) {a : Act} {w : World} {K : Act → World → Prop} (h : o.wp P a w K Q ∨ (o.asks P a w ∧ LetsOut Q)) : ∃ v, (∀ w', (execOp a.eval o).run P w' = .ok (.value v) w') ∧ K (a.put o.dst v) w := by
  have he : execOp a.eval o = (do pure (Next.value (← Instr.extract (a.eval x) k))) := by unfold execOp; rw [ho]
  have key : (∃ v, Instr.extract (a.eval x) k = pure v) ∨ ∃ m, Instr.extract (a.eval x) k = stuck m := by
    unfold Instr.extract
    split
    · split
      · exact .inl ⟨_, rfl⟩
      · exact .inr ⟨_, rfl⟩
    · exact .inr ⟨_, rfl⟩
  have ev : ((execOp a.eval o).runT P w #[]).2 = #[] := by
    rw [he]
    rcases key with ⟨v, e⟩ | ⟨m, e⟩ <;> rw [e] <;> rfl
  have h : o.wp P a w K Q := by
    rcases h with h | ⟨h, _⟩
    · exact h
    · have h := h.1
      rw [ev] at h
      simp at h
  rcases key with ⟨v, e⟩ | ⟨m, e⟩
  · have hr : ∀ w', (execOp a.eval o).run P w' = .ok (.value v) w' := by
      intro w'
      rw [he, e]
      rfl
    refine ⟨v, hr, ?_⟩
    unfold Oper.wp at h
    rw [hr] at h
    exact h
  · exfalso
    have hr : (execOp a.eval o).run P w = .halt (.stuck m) w := by
      rw [he, e]
      rfl
    unfold Oper.wp at h
    rw [hr] at h
    exact h

structure LateOK (ops : Array Oper) (n p : Nat) (op : Oper) : Prop where
  get : ops[p]? = some op
  ne : p ≠ n
  ext : ∃ x k, op.op = .extract x k
  plain : op.guard = none
  sel : Region.noSelect ops = true
  anc : ∀ e ∈ op.after, Region.binds .any e = true → ancB ops ops.size n e.on = true
  free : ∀ j oj, ops[j]? = some oj → j ≠ p → ancB ops ops.size p j = false → (∀ e ∈ oj.after, Region.binds .any e = true → e.on ≠ p) → op.apart ops oj = true
theorem lateOK {ops : Array Oper} (h : lateB ops n p = true) : ∃ op, LateOK ops n p op := by
  unfold lateB at h
  cases hp : ops[p]? with
  | none => rw [hp] at h; cases h
  | some op =>
    rw [hp] at h
    simp only [Bool.and_eq_true, bne_iff_ne, decide_eq_true_eq, Array.all_eq_true', Bool.or_eq_true, Bool.not_eq_true', List.all_eq_true, List.mem_range, beq_iff_eq] at h
    obtain ⟨⟨⟨⟨⟨⟨h1, h2⟩, h3⟩, h4⟩, h5⟩, h6⟩, h7⟩ := h
    refine ⟨op, hp, h1, ?_, ?_, h5, fun e he hb => ?_, fun j oj hj hne hna hno => ?_⟩
    · unfold isExt at h3
      split at h3
      · exact ⟨_, _, by assumption⟩
      · cases h3
    · simpa using h4
    · rcases h6 e he with h | h
      · rw [hb] at h; cases h
      · exact h
    · have h8 := h7 j (Array.getElem?_eq_some_iff.1 hj).1
      rw [hj] at h8
      simp only [Bool.or_eq_true] at h8
      rcases h8 with (h8 | h8) | h8 | h8
      · exact absurd h8 hne
      · rw [hna] at h8; cases h8
      · obtain ⟨e, he, hb⟩ := Array.any_eq_true'.1 h8
        simp only [Bool.and_eq_true, beq_iff_eq] at hb
        exact absurd hb.2 (hno e he hb.1)
      · exact h8
theorem getD_down {j : Nat} (h : listed.getD j false = true) : listed.getD j true = true := by
  rcases Nat.lt_or_ge j listed.size with h' | h'
  · simp [h'] at h ⊢; exact h
  · simp [Array.getElem?_eq_none h'] at h
/-- When n may come up, p may, if it has not. -/
theorem late_ready {op : Oper} (hL : LateOK l.toArray n p op) (hd : Down l.toArray listed) (hsz : listed.size = l.toArray.size) (hn : n ∈ Region.ready .any l.toArray listed) (hp : listed.getD p false = false) : p ∈ Region.ready .any l.toArray listed := by
  obtain ⟨_, o, ho, hall⟩ := mem_ready.1 hn
  refine mem_ready.2 ⟨?_, op, hL.get, fun e he hb => anc_listed hd _ n e.on o ho hall (hL.anc e he hb)⟩
  have hlt : p < listed.size := by rw [hsz]; exact (Array.getElem?_eq_some_iff.1 hL.get).1
  simp [hlt] at hp ⊢
  exact hp
theorem wpAny_late {op : Oper} (hL : LateOK l.toArray n p op) (hQ : ∀ c a d v w, Q (.panic c) (Act.put a d v) w → Q (.panic c) a w) : ∀ (fuel : Nat) (listed : Array Bool) (a : Act) (w : World), Down l.toArray listed → listed.size = l.toArray.size →
    wpAny P .any (late n p l).toArray Q fuel listed a w → wpAny P .any l.toArray Q fuel listed a w := by
  intro fuel
  have none_of : ∀ {listed : Array Bool}, Down l.toArray listed → listed.size = l.toArray.size → Region.ready .any (late n p l).toArray listed = [] → Region.ready .any l.toArray listed = [] := by
    intro listed hd hsz h0
    refine List.eq_nil_iff_forall_not_mem.2 fun j hj => ?_
    have key : ∀ j, j ∈ Region.ready .any (late n p l).toArray listed → False := fun j hj => by rw [h0] at hj; cases hj
    by_cases hjn : j = n
    · subst hjn
      cases hp : listed.getD p false with
      | true => exact key _ (ready_late hp hj)
      | false => exact key _ ((ready_ne hL.ne).2 (late_ready hL hd hsz hj hp))
    · exact key _ ((ready_ne hjn).2 hj)
  induction fuel with
  | zero => exact fun listed a w hd hsz h => ⟨none_of hd hsz h.1, h.2⟩
  | succ fuel ih =>
    intro listed a w hd hsz h
    by_cases hc : n ∈ Region.ready .any l.toArray listed ∧ listed.getD p false = false
    · obtain ⟨hn, hp⟩ := hc
      have hr := late_ready hL hd hsz hn hp
      have h1 := wpOp_late (h.2 p ((ready_ne hL.ne).2 hr))
      obtain ⟨x, k, hx⟩ := hL.ext
      have hw : Region.wanted op (yielded l.toArray a.tmps) = true := by unfold Region.wanted; rw [hL.plain]
      unfold wpOp at h1
      simp only [hL.get, hw, if_true] at h1
      obtain ⟨v, hv, hK⟩ := ext_run hx h1
      refine wpAny_first hL.get (Region.noSelect_spec hL.sel) (fun c a w h => hQ c a _ v w h) fuel listed a w (fun j oj hj hne hun hno => hL.free j oj hj hne ?_ hno) hr (.inl ⟨hw, hv⟩) (ih _ _ _ (hd.set hr) (by simpa using hsz) hK)
      cases ha : ancB l.toArray l.toArray.size p j with
      | false => rfl
      | true =>
        obtain ⟨_, o', ho', hall⟩ := mem_ready.1 hr
        rw [hL.get] at ho'
        cases ho'
        have := getD_down (anc_listed hd _ p j op hL.get hall ha)
        rw [this] at hun
        cases hun
    · refine ⟨fun h0 => h.1 ?_, fun i hi => ?_⟩
      · refine List.eq_nil_iff_forall_not_mem.2 fun j hj => ?_
        have : j ∈ Region.ready .any l.toArray listed := by
          by_cases hjn : j = n
          · subst hjn
            obtain ⟨g0, o', ho', hall⟩ := mem_ready.1 hj
            cases ho : l.toArray[j]? with
            | none => rw [late_none ho] at ho'; cases ho'
            | some o =>
              rw [late_at ho] at ho'
              cases ho'
              exact mem_ready.2 ⟨g0, o, ho, fun e he hb => hall e (Array.mem_push.2 (.inl he)) hb⟩
          · exact (ready_ne hjn).1 hj
        rw [h0] at this
        cases this
      · have hi' : i ∈ Region.ready .any (late n p l).toArray listed := by
          by_cases hin : i = n
          · subst hin
            refine ready_late ?_ hi
            cases hp : listed.getD p false with
            | true => rfl
            | false => exact absurd ⟨hi, hp⟩ hc
          · exact (ready_ne hin).2 hi
        exact wpOp_mono (fun a' w' h' => ih _ a' w' (hd.set hi) (by simpa using hsz) h') (wpOp_late (h.2 i hi'))
/-- The region with that edge more. -/
theorem wp_region_late {id : Nat} {a : Act} {w : World} (n p : Nat) (hm : P.follows .mixedOrders = true) (hB : lateB l.toArray n p = true) (hQ : ∀ c a d v w, Q (.panic c) (Act.put a d v) w → Q (.panic c) a w)
    (h : wpAny P .any (late n p l).toArray Q l.length (Array.replicate l.length false) a w.drew) : (Code.region id l.toArray true).wp P Q a w := by
  obtain ⟨op, hL⟩ := lateOK hB
  refine wp_region_any hm ?_
  refine wpAny_late hL hQ _ _ _ _ ?_ (by simp) (by simpa using h)
  intro k o _ hk
  simp only [Array.getD, Array.size_replicate] at hk
  split at hk
  · simp at hk
  · cases hk
/-- Such a region by the walk in the order of the text; memory only grows ahead of its last operations. -/
theorem wp_region_late_in {id : Nat} {a : Act} {w : World} (n p m : Nat) (L : Tab) (hm : P.follows .mixedOrders = true) (hL : lateB l.toArray n p = true) (hn : tailB (late n p l).toArray m = true) (hB : Region.lexB .any (late n p l).toArray = true)
    (hQ : ∀ c a d v w, Q (.panic c) (Act.put a d v) w → Q (.panic c) a w) (hT : TabOK L)
    (h : wpRel P (late n p l).toArray (Ext w) Ext L.at m Q (late n p l) 0 a Facts.top) : (Code.region id l.toArray true).wp P Q a w := by
  refine wp_region_late n p hm hL hQ ?_
  have hlen : l.length = (late n p l).length := by simp [late]
  rw [hlen]
  simp only [Region.lexB, Bool.and_eq_true] at hB
  have hG : ∀ (j : Nat) (w w' : World), Ext w w' → Facts.top j w → Facts.top j w' := fun _ _ _ _ h => h
  have hd : Down (late n p l).toArray (Array.replicate (late n p l).length false) := by
    intro k o _ hk
    simp only [Array.getD, Array.size_replicate] at hk
    split at hk
    · simp at hk
    · cases hk
  refine wpAny_of_R (C := Ext w) (E := Ext) (T := L.at) (n := m) (Tab.stays hT) hn _ _ _ Facts.top _ hd (by simp) hG (Ext.refl w).drew (fun _ => trivial) ?_
  have := wpAnyR_lex (C := Ext w) (Tab.stays hT) hn hB.1 (late n p l) 0 (Array.replicate (late n p l).length false) a Facts.top hd hG ⟨_, (Ext.refl w).drew, fun _ => trivial⟩ (by simp) (by simpa using hB.2) h
  simpa using this
end
end Go.Proofs.YtimbikbbbfpeeaaGreatDoor

/- store: (*table).join: a partition joined to a table. -/
namespace Go.Proofs.YtimbikbbbfpeeaaGreatDoor
open Go Go.RowKit
attribute [local go_sem] yields yUpon

theorem und_mparts : Tryz.prog.underlying 96 = some (.map 9 52) := by kernel_rfl
theorem und_msince : Tryz.prog.underlying 97 = some (.map 9 4) := by kernel_rfl
theorem und_mtabs : Tryz.prog.underlying 73 = some (.map 9 94) := by kernel_rfl
theorem zero_part (w : World) : (zeroValue 52).run Tryz.prog w = .ok (.agg #[.string ⟨#[]⟩, .int .i64 0, .slice none 0 0]) w := by kernel_rfl
theorem zero_ptab (w : World) : (zeroValue 94).run Tryz.prog w = .ok (.pointer none) w := by kernel_rfl
theorem zero_bool (w : World) : (zeroValue 4).run Tryz.prog w = .ok (.bool false) w := by kernel_rfl

theorem yields_lookup {o : Oper} {a : Act} {w : World} {R : Value → World → Prop} {T : TypeId} {ok : Bool} (x y : Operand) (hop : o.op = Op.lookup T x y ok) {m k v : Value} (hx : a.eval x = m) (hy : a.eval y = k)
    (hr : (Instr.lookup T m k ok).run Tryz.prog w = .ok v w) (hR : R v w) : yields Tryz.prog o a w R := by
  unfold yields execOp
  simp only [hop, hx, hy, Sem.run_bind, hr, Result.andThen_ok, Sem.run_pure]
  exact hR
/-- What join answers and leaves. -/
structure JoinA (w w' : World) (D : Nat) (t t' : Tb) (p : Pa) : Prop where
  touch : Touch w w' [t.mp, t.ms]
  at_ : TbAt w' D t'
  name : t'.name = t.name
  tb : t'.tb = t.tb
  mp : t'.mp = t.mp
  ms : t'.ms = t.ms
  q : t'.q = joinT t.q p.q

theorem paE_find (k : ByteArray) (l : List Pa) : (kfind Prod.fst k (l.map paE)).map (·.2) = (kfind Pa.key k l).map paV := by
  rw [kfind_map (key := Pa.key) (key' := Prod.fst) (f := paE) (fun _ => rfl), Option.map_map]
  rfl
theorem paE_some (k : ByteArray) (l : List Pa) : (kfind Prod.fst k (l.map paE)).isSome = (kfind Pa.key k l).isSome := by
  rw [kfind_map (key := Pa.key) (key' := Prod.fst) (f := paE) (fun _ => rfl), Option.isSome_map]
theorem pa3' (p : Pa) : (paV p) = .agg (pa3 p.key p.gone p.rv) := rfl

theorem kfind_q (k : ByteArray) (l : List Pa) : kfind Pt.key k (l.map Pa.q) = (kfind Pa.key k l).map Pa.q := kfind_map (key := Pa.key) (key' := Pt.key) (f := Pa.q) (fun _ => rfl) k l
theorem nodup_len {α : Type} [DecidableEq α] : ∀ (l m : List α), l.Nodup → (∀ x ∈ l, x ∈ m) → l.length ≤ m.length
  | [], _, _, _ => by simp
  | a :: l, m, hl, hm => by
    obtain ⟨a1, a2⟩ := List.nodup_cons.1 hl
    have := nodup_len l (m.erase a) a2 (fun x hx => (List.mem_erase_of_ne (fun e => a1 (by rw [← e]; exact hx))).2 (hm x (by simp [hx])))
    rw [List.length_erase_of_mem (hm a (by simp))] at this
    have h0 : 0 < m.length := List.length_pos_of_mem (hm a (by simp))
    simp; omega
theorem krises_nodup {α : Type} {key : α → ByteArray} {L : List α} (h : KRises key L) : (L.map key).Nodup := by
  unfold KRises at h
  unfold List.Nodup
  rw [List.pairwise_map]
  exact h.imp fun h => kb_ne h
theorem TbAt.srises {w : World} {C : Nat} {t : Tb} (h : TbAt w C t) : KRises id t.since := by
  have := h.sm.rises
  unfold KRises at this ⊢
  rw [List.pairwise_map] at this
  exact this
theorem TbAt.prises {w : World} {C : Nat} {t : Tb} (h : TbAt w C t) : KRises Pa.key t.parts := by
  have := h.pm.rises
  unfold KRises at this ⊢
  rw [List.pairwise_map] at this
  exact this
theorem TbAt.since_len {w : World} {C : Nat} {t : Tb} (h : TbAt w C t) : t.since.length ≤ t.parts.length := by
  have h1 := krises_nodup h.srises
  rw [List.map_id] at h1
  have := nodup_len t.since (t.parts.map Pa.key) h1 fun x hx => let ⟨p, hp, e⟩ := h.sub x hx; List.mem_map.2 ⟨p, hp, e⟩
  simpa using this
/-- What the walk through join shows. -/
def JoinW (w w' : World) (t : Tb) (pk : ByteArray) (mg : Int) (J : List Ro) (is : Bool) (e : Ending) : Prop :=
  if J.length ≤ 100 ∧ (is = true ∨ t.parts.length < 100) then
    ∃ rv qs w1 w2, e = .returned (.bool true) ∧ Ext w w1 ∧ RowsT w1 rv qs ∧ qs.map (·.1) = J ∧ Touch w1 w2 [t.mp] ∧ SMapAt w2 t.mp (kput Prod.fst (pk, .agg #[.string pk, .int .i64 mg, rv]) (t.parts.map paE)) ∧ Touch w2 w' [t.ms] ∧ SMapAt w' t.ms (kput Prod.fst (pk, .bool true) (t.since.map snE))
  else e = .returned (.bool false) ∧ Ext w w'
theorem JoinW.yes {w w' : World} {t : Tb} {pk : ByteArray} {mg : Int} {J : List Ro} {is : Bool} {rv : Value} {qs : List (Ro × Value)} {w1 w2 : World} (hJ : J.length ≤ 100) (hc : is = true ∨ t.parts.length < 100) (h1 : Ext w w1) (h2 : RowsT w1 rv qs) (h3 : qs.map (·.1) = J) (h4 : Touch w1 w2 [t.mp])
    (h5 : SMapAt w2 t.mp (kput Prod.fst (pk, .agg #[.string pk, .int .i64 mg, rv]) (t.parts.map paE))) (h6 : Touch w2 w' [t.ms]) (h7 : SMapAt w' t.ms (kput Prod.fst (pk, .bool true) (t.since.map snE))) : JoinW w w' t pk mg J is (.returned (.bool true)) := by
  unfold JoinW
  rw [if_pos ⟨hJ, hc⟩]
  exact ⟨rv, qs, w1, w2, rfl, h1, h2, h3, h4, h5, h6, h7⟩
theorem JoinW.no {w w' : World} {t : Tb} {pk : ByteArray} {mg : Int} {J : List Ro} {is : Bool} (hJ : ¬ (J.length ≤ 100 ∧ (is = true ∨ t.parts.length < 100))) (h1 : Ext w w') : JoinW w w' t pk mg J is (.returned (.bool false)) := by
  unfold JoinW
  rw [if_neg hJ]
  exact ⟨rfl, h1⟩
section
variable {C D : Nat} {t : Tb}
set_option maxRecDepth 100000 in
set_option maxHeartbeats 4000000 in
theorem tjoin_walk (pk : ByteArray) (pg : Int) (ap : Option Addr) (cp : Nat) (ps : List (Ro × Value)) (n : Nat) (og : Int) (orv : Value) (ops : List (Ro × Value)) (is : Bool) (w : World) (ht : TbAt w C t) (hp : RowsT w (.slice ap n cp) ps) (hk : pk.size ≤ 1000000) (hpl : ps.length ≤ 100) (hpc : ∀ r ∈ ps, r.1.cols.length ≤ D) (hC : C + D ≤ 400000)
    (hlk : ∀ w', Ext w w' → (Instr.lookup 96 (.map (some t.mp)) (.string pk) true).run Tryz.prog w' = .ok (.tuple #[if is then .agg #[.string pk, .int .i64 og, orv] else .agg #[.string ⟨#[]⟩, .int .i64 0, .slice none 0 0], .bool is]) w')
    (hno : is = false → og = 0 ∧ orv = .slice none 0 0) (ho : RowsT w orv ops) (hol : ops.length ≤ 100) (hoc : ∀ r ∈ ops, r.1.cols.length ≤ C) :
    Calls Tryz.prog 130 #[.pointer (some ⟨t.tb, 0, none⟩), .agg #[.string pk, .int .i64 pg, .slice ap n cp]] w fun e w' => JoinW w w' t pk (max og pg) (mergeRo (ops.map (·.1)) (ps.map (·.1))) is e := by
  have hk' : pk.size ≤ maxLen := by unfold maxLen; omega
  obtain ⟨W, hW⟩ : ∃ W, W = w.alloc (.cells #[.string pk, .int .i64 pg, .slice ap n cp] 52) := ⟨_, rfl⟩
  have a0 : BoxAt W w.heap.size (pa3 pk pg (.slice ap n cp)) 52 := by rw [hW]; exact BoxAt.made w _ _
  have hE : Ext w W := by rw [hW]; exact (Ext.refl w).alloc _
  have hWs := Lib.hid (show W.heap.size = w.heap.size + 1 by rw [hW]; simp)
  obtain ⟨ao, co, rfl⟩ := ho.shape
  have HNO := Lib.hid hno
  obtain ⟨J, hJ⟩ : ∃ J, J = mergeRo (ops.map (·.1)) (ps.map (·.1)) := ⟨_, rfl⟩
  have K1 : ∀ w', Ext w w' → Calls Tryz.prog 179 #[.agg #[.string pk, .int .i64 og, .slice ao ops.length co], .agg #[.string pk, .int .i64 pg, .slice ap n cp]] w' fun e w'' => JoinPost w' pk (max og pg) J e w'' := fun w' hE' => by
    rw [hJ]
    exact pjoin_walk pk pk og pg _ (.slice ap n cp) ops ps w' (ho.rows.ext hE') (hp.rows.ext hE') (by omega) (fun r hr => by obtain ⟨x, hx, rfl⟩ := List.mem_map.1 hr; have := hoc x hx; omega) (fun r hr => by obtain ⟨x, hx, rfl⟩ := List.mem_map.1 hr; have := hpc x hx; omega)
  rw [← hJ]
  clear hJ
  obtain ⟨mg, hmg⟩ : ∃ mg, mg = max og pg := ⟨_, rfl⟩
  rw [← hmg] at K1 ⊢
  have HK1 := Lib.hid K1
  clear K1 hmg
  have HP := Lib.hid ht.pm
  have HS := Lib.hid ht.sm
  have HB := Lib.hid ht.box
  have HT := Lib.hid ht.few
  have HNE := Lib.hid ht.ne
  have HTM := Lib.hid ht.tb_ne
  obtain ⟨L, hL⟩ : ∃ L, L = t.parts.map paE := ⟨_, rfl⟩
  obtain ⟨S, hS⟩ : ∃ S, S = t.since.map snE := ⟨_, rfl⟩
  obtain ⟨N, hN⟩ : ∃ N, N = t.parts.length := ⟨_, rfl⟩
  rw [← hL] at HP
  rw [← hS] at HS
  rw [← hN] at HT
  have HLL := Lib.hid hL
  have HSS := Lib.hid hS
  have HNN := Lib.hid hN
  have HL : Hid (L.length = N) := Lib.hid (by rw [hL, hN]; simp)
  have HSr : Hid (S.length ≤ 1000000) := Lib.hid (by rw [hS, List.length_map]; have := ht.since_len; have := ht.few; omega)
  clear hL hS hN
  obtain ⟨m, hm⟩ : ∃ m, m = ops.length := ⟨_, rfl⟩
  rw [← hm] at HK1 hlk HNO
  clear hm ho hp hol hoc hpc hpl ht
  clear hno
  cases is
  case true =>
    simp only [if_true] at hlk
    go_enter Tryz.func130, Tryz.ntmps130
    go_wp2_with fail
    rw [← hW]
    clear hW
    refine wp_region_late_in 11 9 11 [(1, fun v _ => v = .pointer (some ⟨t.tb, 0, none⟩)), (6, fun v _ => v = .tuple #[.agg #[.string pk, .int .i64 og, .slice ao m co], .bool true]), (10, fun v y => ∃ q, v = .pointer (some ⟨q, 0, none⟩) ∧ W.heap.size ≤ q ∧ BoxAt y q (pa3 ⟨#[]⟩ 0 (.slice none 0 0)) 52)] (by kernel_rfl) (by kernel_rfl) (by kernel_rfl) (by kernel_rfl) (fun c a d v w h => by cases d <;> exact h) ⟨stays_eq _, stays_eq _, (fun v x y hE h => let ⟨q, e, h1, h2⟩ := h; ⟨q, e, h1, h2.ext hE⟩), trivial⟩ ?_
    simp only [late, List.modify_succ_cons, List.modify_zero_cons, List.push_toArray, List.cons_append, List.nil_append]
    have z0 := held (show W.cell? ⟨t.tb, 0, none⟩ = some (.map (some t.mp)) by rw [(HB.out.ext hE).cell]; rfl)
    have p0 := held (show W.cell? ⟨w.heap.size, 0, none⟩ = some (.string pk) by rw [a0.cell]; rfl)
    refine rg_quiet rfl rfl rfl rfl ?_; intro K hK; go_big_quiet_op; go_big_quiet_on
    refine rg_val [] rfl rfl rfl (by kernel_rfl) (fun w1 hE hf => ?_) ?_
    · go_simp
      exact rg_done hE (Ext.refl w1) rfl
    simp only [Act.put, List.setIfInBounds_toArray, List.set_cons_zero, List.set_cons_succ]
    refine rg_quiet rfl rfl rfl rfl ?_; intro K hK; go_big_quiet_op; go_big_quiet_on
    refine rg_quiet rfl rfl rfl rfl ?_; intro K hK; go_big_quiet_op; go_big_quiet_on
    refine rg_quiet rfl rfl rfl rfl ?_; intro K hK; go_big_quiet_op; go_big_quiet_on
    refine rg_quiet rfl rfl rfl rfl ?_; intro K hK; go_big_quiet_op; go_big_quiet_on
    refine rg_val [] rfl rfl rfl (by kernel_rfl) (fun w1 hE1 hf => ?_) ?_
    · exact yields_lookup (.tmp 12) (.tmp 14) rfl (by rfl) (by rfl) (hlk w1 (hE.trans hE1)) (rg_done hE1 (Ext.refl w1) rfl)
    simp only [Act.put, List.setIfInBounds_toArray, List.set_cons_zero, List.set_cons_succ]
    refine rg_quiet rfl rfl rfl rfl ?_; intro K hK; go_big_quiet_op; go_big_quiet_on
    refine rg_quiet rfl rfl rfl rfl ?_; intro K hK; go_big_quiet_op; go_big_quiet_on
    refine rg_quiet rfl rfl rfl rfl ?_; intro K hK; go_big_quiet_op; go_big_quiet_on
    refine rg_fact [] rfl rfl rfl (by kernel_rfl) (fun y hY hf => ?_) (fun v12 y12 hE12 hG12 h12 => ?_)
    · go_simp
      exact rg_doneR hY ((Ext.refl y).alloc _) ⟨_, rfl, hY.le, BoxAt.made y _ _⟩
    obtain ⟨q12, rfl, _⟩ := h12
    clear hE12 hG12
    simp only [Act.put, List.setIfInBounds_toArray, List.set_cons_zero, List.set_cons_succ]
    refine rel_tail rfl rfl fun w5 hE5 hG => ?_
    obtain ⟨_, e5, hq5, hbx⟩ := (hG 10).2 rfl
    cases e5
    clear hG z0 p0
    replace a0 := a0.ext hE5
    have hq12 : w.heap.size < q12 := by have := hq5; rw [hWs.out] at this; omega
    have hne : w.heap.size ≠ q12 := by omega
    have hEw := hE.trans hE5
    go_wp2_with (((guard_target =~ wpList _ _ _ (Oper.mk none (Op.store _ (Operand.tmp 5) (Operand.tmp 16)) _ _ _ _ :: _) _ _); go_must (refine storeBox rfl 52 (.tmp 5) (.tmp 16) rfl (q12) _ _ _ (by rfl) (by rfl) (hbx) (by kernel_rfl) (by rfl) (by simp [Value.oneCell']) ?_); intro w6 c6 g6); replace a0 := a0.grown g6 (fun e => hne (Option.some.inj e)); obtain ⟨k0, k1, k2⟩ := c6.pa (k := pk) (g := og) (u := .slice ao m co); obtain ⟨j0, j1, j2⟩ := a0.pa)
    have hE6 : Ext w w6 := hEw.grown g6 (fun q hq => by cases hq; omega)
    refine (HK1.out w6 hE6).mono ?_
    rintro e w7 ⟨hE7, ⟨hJl, v', rfl, qs, hqs, hqm⟩ | ⟨hJl, rfl⟩⟩
    · have hE67 := hE6.trans hE7
      obtain ⟨av, cv, rfl⟩ := hqs.shape
      replace a0 := a0.ext hE7
      go_wp2_with (((guard_target =~ wpList _ _ _ (Oper.mk none (Op.store _ (Operand.tmp 3) (Operand.tmp 27)) _ _ _ _ :: _) _ _); go_must (refine storeBox rfl 52 (.tmp 3) (.tmp 27) rfl (w.heap.size) _ _ _ (by rfl) (by rfl) (a0) (by kernel_rfl) (by rfl) (by simp [Value.oneCell']) ?_); intro w8 c8 g8); obtain ⟨j0, j1, j2⟩ := c8.pa (k := pk) (g := mg) (u := .slice av qs.length cv))
      have hE8 : Ext w w8 := hE67.grown g8 (fun q hq => by cases hq; omega)
      have hqs8 : RowsT w8 (.slice av qs.length cv) qs := hqs.keep g8 a0 (by decide) (by decide)
      obtain ⟨nq, hnq⟩ : ∃ nq, nq = qs.length := ⟨_, rfl⟩
      rw [← hnq] at c8 j2 hqs8 ⊢
      clear hnq hqs k0 k1 k2 c6 g6 a0 g8
      refine wp_region_tab 7 [(1, fun v _ => v = .pointer (some ⟨t.tb, 0, none⟩))] (by kernel_rfl) (by kernel_rfl) (by kernel_rfl) ⟨stays_eq _, trivial⟩ ?_
      have z0 := held (show w8.cell? ⟨t.tb, 0, none⟩ = some (.map (some t.mp)) by rw [(HB.out.ext hE8).cell]; rfl)
      replace j0 := held j0
      replace j1 := held j1
      replace j2 := held j2
      refine rg_quiet rfl rfl rfl rfl ?_; intro K hK; go_big_quiet_op; go_big_quiet_on
      refine rg_val [] rfl rfl rfl (by kernel_rfl) (fun w1 hE hf => ?_) ?_
      · go_simp
        exact rg_done hE (Ext.refl w1) rfl
      simp only [Act.put, List.setIfInBounds_toArray, List.set_cons_zero, List.set_cons_succ]
      refine rg_quiet rfl rfl rfl rfl ?_; intro K hK; go_big_quiet_op; go_big_quiet_on
      refine rg_quiet rfl rfl rfl rfl ?_; intro K hK; go_big_quiet_op; go_big_quiet_on
      refine rg_quiet rfl rfl rfl rfl ?_; intro K hK; go_big_quiet_op; go_big_quiet_on
      refine rg_quiet rfl rfl rfl rfl ?_; intro K hK; go_big_quiet_op; go_big_quiet_on
      refine rg_quiet rfl rfl rfl rfl ?_; intro K hK; go_big_quiet_op; go_big_quiet_on
      refine rel_tail rfl rfl fun w9 hE9 hG => ?_
      clear hG z0 j0 j1 j2
      have hE89 := hE8.trans hE9
      obtain ⟨w10, hr10, hm10, ht10⟩ := smap_put (HP.out.ext hE89) und_mparts hk' (.agg #[.string pk, .int .i64 mg, .slice av nq cv]) (by rw [HL.out]; have := HT.out; unfold maxLen; omega)
      have d8 := c8.ext hE9
      have hb9 := HB.out.ext hE89
      have hqs9 := hqs8.ext hE9
      have htm : t.tb ≠ t.mp := HTM.out.1
      have hwm : w.heap.size ≠ t.mp := fun e => by have := HP.out.lt; omega
      have hb10 : BoxAt w10 t.tb #[.map (some t.mp), .map (some t.ms)] 99 := ht10.box hb9 (by simpa using htm)
      have d10 := ht10.box d8 (by simpa using hwm)
      clear hqs8 c8 d8
      have HM10 := Lib.hid hm10
      clear hm10
      go_wp2_with fail
      refine wp_region_tab 6 [(1, fun v _ => v = .pointer (some ⟨t.tb, 0, none⟩))] (by kernel_rfl) (by kernel_rfl) (by kernel_rfl) ⟨stays_eq _, trivial⟩ ?_
      have z0 := held (show w10.cell? ⟨t.tb, 1, none⟩ = some (.map (some t.ms)) by rw [hb10.cell]; rfl)
      have j0 := held (show w10.cell? ⟨w.heap.size, 0, none⟩ = some (.string pk) by rw [d10.cell]; rfl)
      refine rg_quiet rfl rfl rfl rfl ?_; intro K hK; go_big_quiet_op; go_big_quiet_on
      refine rg_val [] rfl rfl rfl (by kernel_rfl) (fun w1 hE hf => ?_) ?_
      · go_simp
        exact rg_done hE (Ext.refl w1) rfl
      simp only [Act.put, List.setIfInBounds_toArray, List.set_cons_zero, List.set_cons_succ]
      refine rg_quiet rfl rfl rfl rfl ?_; intro K hK; go_big_quiet_op; go_big_quiet_on
      refine rg_quiet rfl rfl rfl rfl ?_; intro K hK; go_big_quiet_op; go_big_quiet_on
      refine rg_quiet rfl rfl rfl rfl ?_; intro K hK; go_big_quiet_op; go_big_quiet_on
      refine rg_quiet rfl rfl rfl rfl ?_; intro K hK; go_big_quiet_op; go_big_quiet_on
      refine rel_tail rfl rfl fun w11 hE11 hG => ?_
      clear hG z0 j0
      have hS9 : SMapAt w9 t.ms S := HS.out.ext hE89
      have hS11 : SMapAt w11 t.ms S := (hS9.touch ht10 (by simpa using fun e => HNE.out e.symm)).ext hE11
      obtain ⟨w12, hr12, hm12, ht12⟩ := smap_put hS11 und_msince hk' (.bool true) (by have := HSr.out; unfold maxLen; omega)
      have HM12 := Lib.hid hm12
      clear hm12
      go_wp2_with fail
      refine bodyPost_ret (v := .bool true) ?_ rfl (JoinW.yes hJl (.inl rfl) hE89 hqs9 hqm ((ht10.trans (Touch.of_ext hE11 [])).mono (by simp)) (by rw [← HLL.out]; exact HM10.out.ext hE11) ht12 (by rw [← HSS.out]; exact HM12.out))
      simp [results, Tryz.results130, go_sem]
    · have hE68 := hE6.trans hE7
      replace a0 := a0.ext hE7
      go_wp2_with (((guard_target =~ wpList _ _ _ (Oper.mk none (Op.store _ (Operand.tmp 3) (Operand.tmp 27)) _ _ _ _ :: _) _ _); go_must (refine storeBox rfl 52 (.tmp 3) (.tmp 27) rfl (w.heap.size) _ _ _ (by rfl) (by rfl) (a0) (by kernel_rfl) (by rfl) (by simp [Value.oneCell']) ?_); intro w8 c8 g8))
      refine bodyPost_ret (v := .bool false) ?_ rfl (JoinW.no (fun h => by have := h.1; omega) (hE68.grown g8 (fun q hq => by cases hq; omega)))
      simp [results, Tryz.results130, go_sem]
  case false =>
    obtain ⟨rfl, hs0⟩ := HNO.out rfl
    cases hs0
    simp only [Bool.false_eq_true, if_false] at hlk
    go_enter Tryz.func130, Tryz.ntmps130
    go_wp2_with fail
    rw [← hW]
    clear hW
    refine wp_region_late_in 11 9 11 [(1, fun v _ => v = .pointer (some ⟨t.tb, 0, none⟩)), (6, fun v _ => v = .tuple #[.agg #[.string ⟨#[]⟩, .int .i64 0, .slice none 0 0], .bool false]), (10, fun v y => ∃ q, v = .pointer (some ⟨q, 0, none⟩) ∧ W.heap.size ≤ q ∧ BoxAt y q (pa3 ⟨#[]⟩ 0 (.slice none 0 0)) 52)] (by kernel_rfl) (by kernel_rfl) (by kernel_rfl) (by kernel_rfl) (fun c a d v w h => by cases d <;> exact h) ⟨stays_eq _, stays_eq _, (fun v x y hE h => let ⟨q, e, h1, h2⟩ := h; ⟨q, e, h1, h2.ext hE⟩), trivial⟩ ?_
    simp only [late, List.modify_succ_cons, List.modify_zero_cons, List.push_toArray, List.cons_append, List.nil_append]
    have z0 := held (show W.cell? ⟨t.tb, 0, none⟩ = some (.map (some t.mp)) by rw [(HB.out.ext hE).cell]; rfl)
    have p0 := held (show W.cell? ⟨w.heap.size, 0, none⟩ = some (.string pk) by rw [a0.cell]; rfl)
    refine rg_quiet rfl rfl rfl rfl ?_; intro K hK; go_big_quiet_op; go_big_quiet_on
    refine rg_val [] rfl rfl rfl (by kernel_rfl) (fun w1 hE hf => ?_) ?_
    · go_simp
      exact rg_done hE (Ext.refl w1) rfl
    simp only [Act.put, List.setIfInBounds_toArray, List.set_cons_zero, List.set_cons_succ]
    refine rg_quiet rfl rfl rfl rfl ?_; intro K hK; go_big_quiet_op; go_big_quiet_on
    refine rg_quiet rfl rfl rfl rfl ?_; intro K hK; go_big_quiet_op; go_big_quiet_on
    refine rg_quiet rfl rfl rfl rfl ?_; intro K hK; go_big_quiet_op; go_big_quiet_on
    refine rg_quiet rfl rfl rfl rfl ?_; intro K hK; go_big_quiet_op; go_big_quiet_on
    refine rg_val [] rfl rfl rfl (by kernel_rfl) (fun w1 hE1 hf => ?_) ?_
    · exact yields_lookup (.tmp 12) (.tmp 14) rfl (by rfl) (by rfl) (hlk w1 (hE.trans hE1)) (rg_done hE1 (Ext.refl w1) rfl)
    simp only [Act.put, List.setIfInBounds_toArray, List.set_cons_zero, List.set_cons_succ]
    refine rg_quiet rfl rfl rfl rfl ?_; intro K hK; go_big_quiet_op; go_big_quiet_on
    refine rg_quiet rfl rfl rfl rfl ?_; intro K hK; go_big_quiet_op; go_big_quiet_on
    refine rg_quiet rfl rfl rfl rfl ?_; intro K hK; go_big_quiet_op; go_big_quiet_on
    refine rg_fact [] rfl rfl rfl (by kernel_rfl) (fun y hY hf => ?_) (fun v12 y12 hE12 hG12 h12 => ?_)
    · go_simp
      exact rg_doneR hY ((Ext.refl y).alloc _) ⟨_, rfl, hY.le, BoxAt.made y _ _⟩
    obtain ⟨q12, rfl, _⟩ := h12
    clear hE12 hG12
    simp only [Act.put, List.setIfInBounds_toArray, List.set_cons_zero, List.set_cons_succ]
    refine rel_tail rfl rfl fun w5 hE5 hG => ?_
    obtain ⟨_, e5, hq5, hbx⟩ := (hG 10).2 rfl
    cases e5
    clear hG z0 p0
    replace a0 := a0.ext hE5
    have hq12 : w.heap.size < q12 := by have := hq5; rw [hWs.out] at this; omega
    have hne : w.heap.size ≠ q12 := by omega
    have hEw := hE.trans hE5
    go_wp2_with (first
      | (((guard_target =~ wpList _ _ _ (Oper.mk none (Op.store _ (Operand.tmp 5) (Operand.tmp 16)) _ _ _ _ :: _) _ _); go_must (refine storeBox rfl 52 (.tmp 5) (.tmp 16) rfl (q12) _ _ _ (by rfl) (by rfl) (hbx) (by kernel_rfl) (by rfl) (by simp [Value.oneCell']) ?_); intro w3 c3 g3); replace a0 := a0.grown g3 (fun e => hne (Option.some.inj e)); obtain ⟨j0, j1, j2⟩ := a0.pa)
      | (((guard_target =~ wpList _ _ _ (Oper.mk none (Op.store _ (Operand.tmp 5) (Operand.tmp 22)) _ _ _ _ :: _) _ _); go_must (refine storeBox rfl 52 (.tmp 5) (.tmp 22) rfl (q12) _ _ _ (by rfl) (by rfl) (c3) (by kernel_rfl) (by rfl) (by simp [Value.oneCell']) ?_); intro w6 c6 g6); replace a0 := a0.grown g6 (fun e => hne (Option.some.inj e)); obtain ⟨k0, k1, k2⟩ := c6.pa (k := pk) (g := 0) (u := .slice none 0 0); obtain ⟨j0, j1, j2⟩ := a0.pa))
    have hE6 : Ext w w6 := (hEw.grown g3 (fun q hq => by cases hq; omega)).grown g6 (fun q hq => by cases hq; omega)
    refine (HK1.out w6 hE6).mono ?_
    rintro e w7 ⟨hE7, ⟨hJl, v', rfl, qs, hqs, hqm⟩ | ⟨hJl, rfl⟩⟩
    · have hE67 := hE6.trans hE7
      obtain ⟨av, cv, rfl⟩ := hqs.shape
      replace a0 := a0.ext hE7
      by_cases hN : N < 100
      · have hN' : ¬ (100 : Int) ≤ (N : Int) := by omega
        go_wp2_with (((guard_target =~ wpList _ _ _ (Oper.mk none (Op.store _ (Operand.tmp 3) (Operand.tmp 27)) _ _ _ _ :: _) _ _); go_must (refine storeBox rfl 52 (.tmp 3) (.tmp 27) rfl (w.heap.size) _ _ _ (by rfl) (by rfl) (a0) (by kernel_rfl) (by rfl) (by simp [Value.oneCell']) ?_); intro w8 c8 g8); obtain ⟨j0, j1, j2⟩ := c8.pa (k := pk) (g := mg) (u := .slice av qs.length cv); have hE8 := hE67.grown g8 (fun q hq => by cases hq; omega); have hlen := smap_len (HP.out.ext hE8) und_mparts 3; rw [HL.out] at hlen; have z9 : w8.cell? ⟨t.tb, 0, none⟩ = some (.map (some t.mp)) := (by rw [(HB.out.ext hE8).cell]; rfl))
        clear z9 hlen
        have hqs8 : RowsT w8 (.slice av qs.length cv) qs := hqs.keep g8 a0 (by decide) (by decide)
        obtain ⟨nq, hnq⟩ : ∃ nq, nq = qs.length := ⟨_, rfl⟩
        rw [← hnq] at c8 j2 hqs8 ⊢
        clear hnq hqs k0 k1 k2 c6 g6 a0 g8
        refine wp_region_tab 7 [(1, fun v _ => v = .pointer (some ⟨t.tb, 0, none⟩))] (by kernel_rfl) (by kernel_rfl) (by kernel_rfl) ⟨stays_eq _, trivial⟩ ?_
        have z0 := held (show w8.cell? ⟨t.tb, 0, none⟩ = some (.map (some t.mp)) by rw [(HB.out.ext hE8).cell]; rfl)
        replace j0 := held j0
        replace j1 := held j1
        replace j2 := held j2
        refine rg_quiet rfl rfl rfl rfl ?_; intro K hK; go_big_quiet_op; go_big_quiet_on
        refine rg_val [] rfl rfl rfl (by kernel_rfl) (fun w1 hE hf => ?_) ?_
        · go_simp
          exact rg_done hE (Ext.refl w1) rfl
        simp only [Act.put, List.setIfInBounds_toArray, List.set_cons_zero, List.set_cons_succ]
        refine rg_quiet rfl rfl rfl rfl ?_; intro K hK; go_big_quiet_op; go_big_quiet_on
        refine rg_quiet rfl rfl rfl rfl ?_; intro K hK; go_big_quiet_op; go_big_quiet_on
        refine rg_quiet rfl rfl rfl rfl ?_; intro K hK; go_big_quiet_op; go_big_quiet_on
        refine rg_quiet rfl rfl rfl rfl ?_; intro K hK; go_big_quiet_op; go_big_quiet_on
        refine rg_quiet rfl rfl rfl rfl ?_; intro K hK; go_big_quiet_op; go_big_quiet_on
        refine rel_tail rfl rfl fun w9 hE9 hG => ?_
        clear hG z0 j0 j1 j2
        have hE89 := hE8.trans hE9
        obtain ⟨w10, hr10, hm10, ht10⟩ := smap_put (HP.out.ext hE89) und_mparts hk' (.agg #[.string pk, .int .i64 mg, .slice av nq cv]) (by rw [HL.out]; have := HT.out; unfold maxLen; omega)
        have d8 := c8.ext hE9
        have hb9 := HB.out.ext hE89
        have hqs9 := hqs8.ext hE9
        have htm : t.tb ≠ t.mp := HTM.out.1
        have hwm : w.heap.size ≠ t.mp := fun e => by have := HP.out.lt; omega
        have hb10 : BoxAt w10 t.tb #[.map (some t.mp), .map (some t.ms)] 99 := ht10.box hb9 (by simpa using htm)
        have d10 := ht10.box d8 (by simpa using hwm)
        clear hqs8 c8 d8
        have HM10 := Lib.hid hm10
        clear hm10
        go_wp2_with fail
        refine wp_region_tab 6 [(1, fun v _ => v = .pointer (some ⟨t.tb, 0, none⟩))] (by kernel_rfl) (by kernel_rfl) (by kernel_rfl) ⟨stays_eq _, trivial⟩ ?_
        have z0 := held (show w10.cell? ⟨t.tb, 1, none⟩ = some (.map (some t.ms)) by rw [hb10.cell]; rfl)
        have j0 := held (show w10.cell? ⟨w.heap.size, 0, none⟩ = some (.string pk) by rw [d10.cell]; rfl)
        refine rg_quiet rfl rfl rfl rfl ?_; intro K hK; go_big_quiet_op; go_big_quiet_on
        refine rg_val [] rfl rfl rfl (by kernel_rfl) (fun w1 hE hf => ?_) ?_
        · go_simp
          exact rg_done hE (Ext.refl w1) rfl
        simp only [Act.put, List.setIfInBounds_toArray, List.set_cons_zero, List.set_cons_succ]
        refine rg_quiet rfl rfl rfl rfl ?_; intro K hK; go_big_quiet_op; go_big_quiet_on
        refine rg_quiet rfl rfl rfl rfl ?_; intro K hK; go_big_quiet_op; go_big_quiet_on
        refine rg_quiet rfl rfl rfl rfl ?_; intro K hK; go_big_quiet_op; go_big_quiet_on
        refine rg_quiet rfl rfl rfl rfl ?_; intro K hK; go_big_quiet_op; go_big_quiet_on
        refine rel_tail rfl rfl fun w11 hE11 hG => ?_
        clear hG z0 j0
        have hS9 : SMapAt w9 t.ms S := HS.out.ext hE89
        have hS11 : SMapAt w11 t.ms S := (hS9.touch ht10 (by simpa using fun e => HNE.out e.symm)).ext hE11
        obtain ⟨w12, hr12, hm12, ht12⟩ := smap_put hS11 und_msince hk' (.bool true) (by have := HSr.out; unfold maxLen; omega)
        have HM12 := Lib.hid hm12
        clear hm12
        go_wp2_with fail
        refine bodyPost_ret (v := .bool true) ?_ rfl (JoinW.yes hJl (.inr (by rw [← HNN.out]; exact hN)) hE89 hqs9 hqm ((ht10.trans (Touch.of_ext hE11 [])).mono (by simp)) (by rw [← HLL.out]; exact HM10.out.ext hE11) ht12 (by rw [← HSS.out]; exact HM12.out))
        simp [results, Tryz.results130, go_sem]
      · have hN' : (100 : Int) ≤ (N : Int) := by omega
        go_wp2_with (((guard_target =~ wpList _ _ _ (Oper.mk none (Op.store _ (Operand.tmp 3) (Operand.tmp 27)) _ _ _ _ :: _) _ _); go_must (refine storeBox rfl 52 (.tmp 3) (.tmp 27) rfl (w.heap.size) _ _ _ (by rfl) (by rfl) (a0) (by kernel_rfl) (by rfl) (by simp [Value.oneCell']) ?_); intro w8 c8 g8); have hE8 := hE67.grown g8 (fun q hq => by cases hq; omega); have hlen := smap_len (HP.out.ext hE8) und_mparts 3; rw [HL.out] at hlen; have z9 : w8.cell? ⟨t.tb, 0, none⟩ = some (.map (some t.mp)) := (by rw [(HB.out.ext hE8).cell]; rfl))
        refine bodyPost_ret (v := .bool false) ?_ rfl (JoinW.no (fun h => h.2.elim (fun e => absurd e (by decide)) (fun e => hN (by rw [HNN.out]; exact e))) hE8)
        simp [results, Tryz.results130, go_sem]
    · have hE68 := hE6.trans hE7
      replace a0 := a0.ext hE7
      go_wp2_with (((guard_target =~ wpList _ _ _ (Oper.mk none (Op.store _ (Operand.tmp 3) (Operand.tmp 27)) _ _ _ _ :: _) _ _); go_must (refine storeBox rfl 52 (.tmp 3) (.tmp 27) rfl (w.heap.size) _ _ _ (by rfl) (by rfl) (a0) (by kernel_rfl) (by rfl) (by simp [Value.oneCell']) ?_); intro w8 c8 g8))
      refine bodyPost_ret (v := .bool false) ?_ rfl (JoinW.no (fun h => by have := h.1; omega) (hE68.grown g8 (fun q hq => by cases hq; omega)))
      simp [results, Tryz.results130, go_sem]
theorem tjoin_any (p : Pa) (w : World) (ht : TbAt w C t) (hp : RowsT w p.rv p.ps) (hk : p.key.size ≤ 1000000) (hpl : p.ps.length ≤ 100) (hpc : ∀ r ∈ p.ps, r.1.cols.length ≤ D) (hC : C + D ≤ 400000) :
    Calls Tryz.prog 130 #[.pointer (some ⟨t.tb, 0, none⟩), .agg #[.string p.key, .int .i64 p.gone, p.rv]] w fun e w' => ∃ t', e = .returned (.bool (joinB t.q p.q)) ∧ JoinA w w' (C + D) t t' p := by
  obtain ⟨pk, pg, rv, ps⟩ := p
  simp only at hp hk hpl hpc ⊢
  obtain ⟨ap, cp, rfl⟩ := hp.shape
  have hk' : pk.size ≤ maxLen := by unfold maxLen; omega
  have hlk : ∀ w', Ext w w' → (Instr.lookup 96 (.map (some t.mp)) (.string pk) true).run Tryz.prog w' = .ok (.tuple #[((kfind Pa.key pk t.parts).map paV).getD (.agg #[.string ⟨#[]⟩, .int .i64 0, .slice none 0 0]), .bool (kfind Pa.key pk t.parts).isSome]) w' := fun w' hE' => by
    have := smap_look (ht.pm.ext hE') und_mparts (zero_part w') hk'
    rw [paE_find, paE_some] at this
    exact this
  have hq : kfind Pt.key pk t.q.parts = (kfind Pa.key pk t.parts).map Pa.q := kfind_q pk t.parts
  have hlen : t.q.parts.length = t.parts.length := by simp [Tb.q]
  -- what is old
  obtain ⟨og, orv, ops, hov, hoR, hol, hoc, hno, hJP⟩ : ∃ (og : Int) (orv : Value) (ops : List (Ro × Value)), ((kfind Pa.key pk t.parts).map paV).getD (.agg #[.string ⟨#[]⟩, .int .i64 0, .slice none 0 0]) = (if (kfind Pa.key pk t.parts).isSome then .agg #[.string pk, .int .i64 og, orv] else .agg #[.string ⟨#[]⟩, .int .i64 0, .slice none 0 0])
      ∧ RowsT w orv ops ∧ ops.length ≤ 100 ∧ (∀ r ∈ ops, r.1.cols.length ≤ C) ∧ ((kfind Pa.key pk t.parts).isSome = false → og = 0 ∧ orv = .slice none 0 0) ∧ joinP (kfind Pt.key pk t.q.parts) ⟨pk, pg, ps.map (·.1)⟩ = ⟨pk, max og pg, mergeRo (ops.map (·.1)) (ps.map (·.1))⟩ := by
    rw [hq]
    cases hf : kfind Pa.key pk t.parts with
    | none => exact ⟨0, .slice none 0 0, [], rfl, RowsT.nil w, by simp, nofun, fun _ => ⟨rfl, rfl⟩, rfl⟩
    | some q =>
      obtain ⟨hm, hkq⟩ := kfind_some hf
      obtain ⟨b1, b2, b3⟩ := ht.ok q hm
      exact ⟨q.gone, q.rv, q.ps, by simp [paV, hkq], ht.rows q hm, b2, b3, by simp, rfl⟩
  rw [hov] at hlk
  have hJB : joinB t.q ⟨pk, pg, ps.map (·.1)⟩ = decide ((mergeRo (ops.map (·.1)) (ps.map (·.1))).length ≤ 100 ∧ ((kfind Pa.key pk t.parts).isSome = true ∨ t.parts.length < 100)) := by
    have e : joinB t.q ⟨pk, pg, ps.map (·.1)⟩ = (decide ((joinP (kfind Pt.key pk t.q.parts) ⟨pk, pg, ps.map (·.1)⟩).rows.length ≤ 100) && ((kfind Pt.key pk t.q.parts).isSome || decide (t.q.parts.length < 100))) := rfl
    rw [e, hJP, hq, hlen, Option.isSome_map]
    simp only [Bool.decide_and, Bool.decide_or, Bool.decide_eq_true]
  refine (tjoin_walk pk pg ap cp ps ps.length og orv ops (kfind Pa.key pk t.parts).isSome w ht hp hk hpl hpc hC hlk hno hoR hol hoc).mono ?_
  intro e w' hw
  unfold JoinW at hw
  by_cases hc : (mergeRo (ops.map (·.1)) (ps.map (·.1))).length ≤ 100 ∧ ((kfind Pa.key pk t.parts).isSome = true ∨ t.parts.length < 100)
  · rw [if_pos hc] at hw
    obtain ⟨rv, qs, w1, w2, rfl, hE1, hqs, hqm, hT1, hM, hT2, hS⟩ := hw
    have hJT : joinT t.q ⟨pk, pg, ps.map (·.1)⟩ = { t.q with parts := kput Pt.key ⟨pk, max og pg, mergeRo (ops.map (·.1)) (ps.map (·.1))⟩ t.q.parts, since := kput id pk t.q.since } := by
      unfold joinT
      rw [hJB, decide_eq_true hc, if_pos rfl]
      show ({ t.q with parts := kput Pt.key (joinP (kfind Pt.key pk t.q.parts) (⟨pk, pg, ps.map (fun x : Ro × Value => x.1)⟩ : Pt)) t.q.parts, since := kput id pk t.q.since } : Tq) = _
      rw [hJP]
    have hno1 : ∀ e, NoBox w1 [t.mp] e := fun e => NoBox.smap (ht.pm.ext hE1) e
    have hno2 : ∀ e, NoBox w2 [t.ms] e := fun e => NoBox.smap ((ht.sm.ext hE1).touch hT1 (by simpa using fun e => ht.ne e.symm)) e
    have htb := ht.tb_ne
    refine ⟨⟨t.name, t.tb, t.mp, t.ms, kput Pa.key ⟨pk, max og pg, rv, qs⟩ t.parts, kput id pk t.since⟩, by rw [show (⟨pk, pg, .slice ap ps.length cp, ps⟩ : Pa).q = (⟨pk, pg, ps.map (fun x : Ro × Value => x.1)⟩ : Pt) from rfl, hJB, decide_eq_true hc], ?_, ?_, rfl, rfl, rfl, rfl, ?_⟩
    · exact (((Touch.of_ext hE1 []).trans hT1).trans hT2).mono (by simp)
    · refine ⟨hT2.box (hT1.box (ht.box.ext hE1) (by simpa using htb.1)) (by simpa using htb.2), ?_, ?_, ?_, ht.ne, ?_, ?_, ?_⟩
      · show SMapAt w' t.mp ((kput Pa.key ⟨pk, max og pg, rv, qs⟩ t.parts).map paE)
        rw [kput_map (key := Pa.key) (key' := Prod.fst) (f := paE) (fun _ => rfl)]
        exact hM.touch hT2 (by simpa using ht.ne)
      · show SMapAt w' t.ms ((kput id pk t.since).map snE)
        rw [kput_map (key := id) (key' := Prod.fst) (f := snE) (fun _ => rfl)]
        exact hS
      · intro q hq
        rcases kput_mem hq with rfl | hq
        · exact hT2.rowsT (hno2 _) (hno2 _) (hT1.rowsT (hno1 _) (hno1 _) hqs)
        · exact hT2.rowsT (hno2 _) (hno2 _) (hT1.rowsT (hno1 _) (hno1 _) ((ht.rows q hq).ext hE1))
      · show (kput Pa.key ⟨pk, max og pg, rv, qs⟩ t.parts).length ≤ 100
        rw [kput_length ht.prises]
        have := ht.few
        split
        · exact this
        · rename_i h1
          rcases hc.2 with h2 | h2
          · exact absurd h2 h1
          · omega
      · intro q hq
        rcases kput_mem hq with rfl | hq
        · refine ⟨hk, ?_, fun r hr => ?_⟩
          · have e : qs.length = (mergeRo (ops.map (·.1)) (ps.map (·.1))).length := by rw [← hqm]; simp
            show qs.length ≤ 100
            rw [e]; exact hc.1
          · have hr' : r.1 ∈ mergeRo (ops.map (·.1)) (ps.map (·.1)) := by rw [← hqm]; exact List.mem_map_of_mem hr
            rcases mem_mergeG hr' with h | h | ⟨a, ha, b, hb, _, e⟩
            · obtain ⟨x, hx, hxe⟩ := List.mem_map.1 h
              have := hoc x hx
              rw [← hxe]; omega
            · obtain ⟨x, hx, hxe⟩ := List.mem_map.1 h
              have := hpc x hx
              rw [← hxe]; omega
            · obtain ⟨x, hx, rfl⟩ := List.mem_map.1 ha
              obtain ⟨y, hy, rfl⟩ := List.mem_map.1 hb
              have h1 := mergeCo_len x.1.cols y.1.cols
              have := hoc x hx
              have := hpc y hy
              rw [e]
              show (mergeCo x.1.cols y.1.cols).length ≤ _
              omega
        · obtain ⟨b1, b2, b3⟩ := ht.ok q hq
          exact ⟨b1, b2, fun r hr => Nat.le_trans (b3 r hr) (by omega)⟩
      · intro k hk
        rcases kput_mem hk with rfl | hk
        · exact ⟨_, mem_kput _ _, rfl⟩
        · obtain ⟨q, hq, e⟩ := ht.sub k hk
          by_cases h : q.key = pk
          · exact ⟨_, mem_kput _ _, h.symm.trans e⟩
          · exact ⟨q, kput_old hq h, e⟩
    · show (⟨t.name, (kput Pa.key ⟨pk, max og pg, rv, qs⟩ t.parts).map Pa.q, kput id pk t.since⟩ : Tq) = joinT t.q ⟨pk, pg, ps.map (·.1)⟩
      rw [hJT, kput_map (key := Pa.key) (key' := Pt.key) (f := Pa.q) (fun _ => rfl)]
      show (⟨t.name, kput Pt.key (⟨pk, max og pg, qs.map fun x : Ro × Value => x.1⟩ : Pt) (t.parts.map Pa.q), kput id pk t.since⟩ : Tq) = _
      rw [hqm]
      rfl
  · rw [if_neg hc] at hw
    obtain ⟨rfl, hE⟩ := hw
    have hJT : joinT t.q ⟨pk, pg, ps.map (·.1)⟩ = t.q := by
      unfold joinT
      rw [hJB, decide_eq_false hc, if_neg (by decide)]
    exact ⟨t, by rw [show (⟨pk, pg, .slice ap ps.length cp, ps⟩ : Pa).q = (⟨pk, pg, ps.map (fun x : Ro × Value => x.1)⟩ : Pt) from rfl, hJB, decide_eq_false hc], Touch.of_ext hE _, (ht.ext hE).mono (by omega), rfl, rfl, rfl, rfl, hJT.symm⟩
end
end Go.Proofs.YtimbikbbbfpeeaaGreatDoor

/- store: (*Store).of: a table of a name, there or new. -/
namespace Go.Proofs.YtimbikbbbfpeeaaGreatDoor
open Go Go.RowKit
attribute [local go_sem] yields yUpon

theorem tbE_find (k : ByteArray) (l : List Tb) : (kfind Prod.fst k (l.map tbE)).map (·.2) = (kfind Tb.name k l).map fun t => .pointer (some ⟨t.tb, 0, none⟩) := by
  rw [kfind_map (key := Tb.name) (key' := Prod.fst) (f := tbE) (fun _ => rfl), Option.map_map]
  rfl
theorem tabs_look {w : World} {C m : Nat} {ts : List Tb} (h : TbsAt w C m ts) {k : ByteArray} (hk : k.size ≤ 1000000) :
    (Instr.lookup 73 (.map (some m)) (.string k) false).run Tryz.prog w = .ok (((kfind Tb.name k ts).map fun t => .pointer (some ⟨t.tb, 0, none⟩)).getD (.pointer none)) w := by
  have := smap_look0 h.map und_mtabs (zero_ptab w) (k := k) (by unfold maxLen; omega)
  rw [tbE_find] at this
  exact this
theorem tabs_len {w : World} {C m : Nat} {ts : List Tb} (h : TbsAt w C m ts) (ty : TypeId) : (Builtin.len_ #[73] ty #[.map (some m)]).run Tryz.prog w = .ok (.int .i64 (ts.length : Int)) w := by
  have := smap_len h.map und_mtabs ty
  rw [List.length_map] at this
  exact this

section
variable {C m : Nat} {ts : List Tb}
set_option maxHeartbeats 400000 in
theorem of_old (ps : Nat) (name : ByteArray) (t : Tb) (w : World) (hp : w.cell? ⟨ps, 1, none⟩ = some (.map (some m))) (h : TbsAt w C m ts) (hk : name.size ≤ 1000000) (hf : kfind Tb.name name ts = some t) :
    Calls Tryz.prog 129 #[.pointer (some ⟨ps, 0, none⟩), .string name] w fun e w' => e = .returned (.pointer (some ⟨t.tb, 0, none⟩)) ∧ w = w' := by
  have hl := tabs_look h hk
  rw [hf] at hl
  simp only [Option.map_some, Option.getD_some] at hl
  go_enter Tryz.func129, Tryz.ntmps129
  go_wp2
  go_ret
  exact ⟨rfl, rfl⟩

/-- A new table. -/
structure NewT (w w' : World) (C m : Nat) (ts : List Tb) (name : ByteArray) (t : Tb) : Prop where
  touch : Touch w w' [m]
  at_ : TbsAt w' C m (kput Tb.name t ts)
  name : t.name = name
  parts : t.parts = []
  since : t.since = []
  fresh : ∀ b ∈ t.blocks, w.heap.size ≤ b

set_option maxRecDepth 100000 in
set_option maxHeartbeats 1000000 in
theorem of_new (ps : Nat) (name : ByteArray) (w : World) (hp : w.cell? ⟨ps, 1, none⟩ = some (.map (some m))) (hpm : ps ≠ m) (h : TbsAt w C m ts) (hk : name.size ≤ 1000000) (hf : kfind Tb.name name ts = none) (hlen : ts.length ≤ 1000) :
    Calls Tryz.prog 129 #[.pointer (some ⟨ps, 0, none⟩), .string name] w fun e w' => ∃ t, e = .returned (.pointer (some ⟨t.tb, 0, none⟩)) ∧ NewT w w' C m ts name t := by
  have hl := tabs_look h hk
  rw [hf] at hl
  simp only [Option.map_none, Option.getD_none] at hl
  have hmm := @run_makeMap Tryz.prog
  obtain ⟨W, hW⟩ : ∃ W, W = ((w.alloc (.map #[] 0)).alloc (.map #[] 0)).alloc (.cells #[.map (some w.heap.size), .map (some (w.heap.size + 1))] 99) := ⟨_, rfl⟩
  have hE : Ext w W := by rw [hW]; exact (((Ext.refl w).alloc _).alloc _).alloc _
  have e1 : (w.alloc (.map #[] 0)).heap.size = w.heap.size + 1 := by simp
  have e2 : ((w.alloc (.map #[] 0)).alloc (.map #[] 0)).heap.size = w.heap.size + 1 + 1 := by simp
  have hb : BoxAt W (w.heap.size + 1 + 1) #[.map (some w.heap.size), .map (some (w.heap.size + 1))] 99 := by rw [hW]; exact BoxAt.madeN _ _ e2
  have hM1 : SMapAt W w.heap.size [] := by rw [hW]; exact ((smap_new w).ext ((Ext.refl _).alloc _)).ext ((Ext.refl _).alloc _)
  have hM2 : SMapAt W (w.heap.size + 1) [] := by
    have := smap_new (w.alloc (.map #[] 0))
    rw [e1] at this
    rw [hW]; exact this.ext ((Ext.refl _).alloc _)
  have hT : TbAt W C ⟨name, w.heap.size + 1 + 1, w.heap.size, w.heap.size + 1, [], []⟩ := ⟨hb, hM1, hM2, nofun, by simp, by simp, nofun, nofun⟩
  obtain ⟨w2, hr2, hm2, ht2⟩ := smap_put (h.map.ext hE) und_mtabs (k := name) (by unfold maxLen; omega) (.pointer (some ⟨w.heap.size + 1 + 1, 0, none⟩)) (by rw [List.length_map]; unfold maxLen; omega)
  have hA := h.add hE hT (fun b hb => by simp only [Tb.blocks, List.mem_cons, List.not_mem_nil, or_false] at hb; omega) hk ht2 hm2
  have hl2 := tabs_look hA hk
  rw [kfind_put h.rises, if_pos rfl] at hl2
  simp only [Option.map_some, Option.getD_some] at hl2
  have hp1 := hE.cell hp
  have hp2 := ht2.cell hp1 (by simpa using hpm)
  have htt : Touch w w2 [m] := ((Touch.of_ext hE []).trans ht2).mono (by simp)
  have HA := Lib.hid hA
  have hsz := h.map.lt
  clear hA hT hM1 hM2 hb hm2 ht2
  rw [hW] at hr2 hp1
  clear hE hW h
  go_enter Tryz.func129, Tryz.ntmps129
  go_wp2
  go_ret
  exact ⟨⟨name, w.heap.size + 1 + 1, w.heap.size, w.heap.size + 1, [], []⟩, rfl, htt, HA.out, rfl, rfl, rfl, fun b hb => by simp only [Tb.blocks, List.mem_cons, List.not_mem_nil, or_false] at hb; omega⟩
end
end Go.Proofs.YtimbikbbbfpeeaaGreatDoor
