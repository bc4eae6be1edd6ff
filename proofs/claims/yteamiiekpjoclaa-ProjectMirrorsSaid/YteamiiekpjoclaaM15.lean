/- A list of one row in memory. -/
import Derived.Test.YteamiiekpjoclaaM10
import Derived.Test.YteamiiekpjoclaaM9
import Derived.Test.YteamiiekpjoclaaM14
namespace Go.Proofs.Yteamiiekpjoclaa
open Go Go.RowKit

theorem RowsT.at0 {y : World} {bm cm : Nat} {m : Ro} {vm : Value} (h : RowsT y (.slice (some ⟨bm, 0, none⟩) 1 cm) [(m, vm)]) : RoAt y bm 0 m vm := by
  obtain ⟨a, c, e, _, _, hg⟩ := h.rows.get
  cases e
  obtain ⟨b, o, e, hr⟩ := hg 0 (Nat.zero_lt_one)
  rcases h.tin with ⟨e', _⟩ | ⟨b', c', Z, e', _⟩
  · cases e'
  · cases e'
    cases e
    simpa using hr
theorem RowsT.single {y : World} {a : Option Addr} {n c : Nat} {ps : List (Ro × Value)} {m : Ro} (h : RowsT y (.slice a n c) ps) (hm : ps.map (·.1) = [m]) : ∃ vm bm, ps = [(m, vm)] ∧ a = some ⟨bm, 0, none⟩ ∧ n = 1 := by
  cases ps with
  | nil => cases hm
  | cons p l =>
    cases l with
    | cons q l => cases hm
    | nil =>
      obtain ⟨r, vm⟩ := p
      have e : r = m := by simpa using hm
      subst e
      rcases h.tin with ⟨e, h0, _⟩ | ⟨b, c', Z, e, _⟩
      · cases h0
      · cases e
        exact ⟨vm, b, rfl, rfl, rfl⟩
end Go.Proofs.Yteamiiekpjoclaa

/- A region that draws its order: an operation that takes a part out of a tuple, and that the store of another part need not wait for, may be taken ahead of that store: the region with that edge more. -/
namespace Go.Proofs.Yteamiiekpjoclaa
open Go

/-- Operation n waits for p, too. -/
def late (n p : Nat) (l : List Oper) : List Oper := l.modify n fun o => { o with after := o.after.push ⟨p, .data⟩ }
def isExt : Op → Bool
  | .extract .. => true
  | _ => false
/-- What is asked of p and n. -/
def lateB (ops : Array Oper) (n p : Nat) : Bool :=
  match ops[p]? with
  | none => false
  | some op => p != n && decide (n < ops.size) && isExt op.op && op.guard.isNone && Region.noSelect ops &&
      (op.after.all fun e => !Region.binds .any e || ancB ops ops.size n e.on) &&
      (List.range ops.size).all fun j => j == p || ancB ops ops.size p j || match ops[j]? with
        | some oj => oj.after.any (fun e => Region.binds .any e && e.on == p) || op.apart ops oj
        | none => true

section
variable {P : Program} {l : List Oper} {n p : Nat} {Q : Exit → Act → World → Prop} {listed : Array Bool}
theorem late_ne {j : Nat} (h : j ≠ n) : (late n p l).toArray[j]? = l.toArray[j]? := by
  simp only [late, List.getElem?_toArray, List.getElem?_modify]
  cases l[j]? with
  | none => rfl
  | some o => simp; exact fun e => absurd e.symm h
theorem late_at {o : Oper} (ho : l.toArray[n]? = some o) : (late n p l).toArray[n]? = some { o with after := o.after.push ⟨p, .data⟩ } := by
  simp only [List.getElem?_toArray] at ho
  simp only [late, List.getElem?_toArray, List.getElem?_modify, ho, if_true]
  rfl
theorem late_none (ho : l.toArray[n]? = none) : (late n p l).toArray[n]? = none := by
  simp only [List.getElem?_toArray] at ho
  simp only [late, List.getElem?_toArray, List.getElem?_modify, ho]
  rfl
theorem late_dst (j : Nat) : ((late n p l).toArray[j]?).bind (·.dst) = (l.toArray[j]?).bind (·.dst) := by
  by_cases h : j = n
  · subst h
    cases ho : l.toArray[j]? with
    | none => rw [late_none ho]
    | some o => rw [late_at ho]; rfl
  · rw [late_ne h]
theorem late_yielded : yielded (late n p l).toArray = yielded l.toArray := by
  funext tmps j
  unfold yielded
  rw [late_dst]
theorem ready_ne {j : Nat} (h : j ≠ n) : j ∈ Region.ready .any (late n p l).toArray listed ↔ j ∈ Region.ready .any l.toArray listed := by
  rw [mem_ready, mem_ready, late_ne h]
theorem ready_late (hp : listed.getD p false = true) (h : n ∈ Region.ready .any l.toArray listed) : n ∈ Region.ready .any (late n p l).toArray listed := by
  rw [mem_ready] at h ⊢
  obtain ⟨h0, o, ho, hall⟩ := h
  refine ⟨h0, _, late_at ho, fun e he hb => ?_⟩
  rcases Array.mem_push.1 he with he | rfl
  · exact hall e he hb
  · exact hp
theorem wpOp_late {i : Nat} {K : Act → World → Prop} {a : Act} {w : World} (h : wpOp P (late n p l).toArray Q i K a w) : wpOp P l.toArray Q i K a w := by
  unfold wpOp at h ⊢
  rw [late_yielded] at h
  by_cases hi : i = n
  · subst hi
    cases ho : l.toArray[i]? with
    | none => rw [late_none ho] at h; exact h
    | some o => rw [late_at ho] at h; exact h
  · rw [late_ne hi] at h
    exact h
theorem ext_run {x : Operand} {k : Nat} {o : Oper} (ho : o.op = .extract x k) {a : Act} {w : World} {K : Act → World → Prop} (h : o.wp P a w K Q ∨ (o.asks P a w ∧ LetsOut Q)) : ∃ v, (∀ w', (execOp a.eval o).run P w' = .ok (.value v) w') ∧ K (a.put o.dst v) w := by
  have he : execOp a.eval o = (do pure (Next.value (← Instr.extract (a.eval x) k))) := by unfold execOp; rw [ho]
  have key : (∃ v, Instr.extract (a.eval x) k = pure v) ∨ ∃ m, Instr.extract (a.eval x) k = stuck m := by
    unfold Instr.extract
    split
    · split
      · exact .inl ⟨_, rfl⟩
      · exact .inr ⟨_, rfl⟩
    · exact .inr ⟨_, rfl⟩
  have ev : ((execOp a.eval o).runT P w #[]).2 = #[] := by
    rw [he]
    rcases key with ⟨v, e⟩ | ⟨m, e⟩ <;> rw [e] <;> rfl
  have h : o.wp P a w K Q := by
    rcases h with h | ⟨h, _⟩
    · exact h
    · have h := h.1
      rw [ev] at h
      simp at h
  rcases key with ⟨v, e⟩ | ⟨m, e⟩
  · have hr : ∀ w', (execOp a.eval o).run P w' = .ok (.value v) w' := by
      intro w'
      rw [he, e]
      rfl
    refine ⟨v, hr, ?_⟩
    unfold Oper.wp at h
    rw [hr] at h
    exact h
  · exfalso
    have hr : (execOp a.eval o).run P w = .halt (.stuck m) w := by
      rw [he, e]
      rfl
    unfold Oper.wp at h
    rw [hr] at h
    exact h

structure LateOK (ops : Array Oper) (n p : Nat) (op : Oper) : Prop where
  get : ops[p]? = some op
  ne : p ≠ n
  ext : ∃ x k, op.op = .extract x k
  plain : op.guard = none
  sel : Region.noSelect ops = true
  anc : ∀ e ∈ op.after, Region.binds .any e = true → ancB ops ops.size n e.on = true
  free : ∀ j oj, ops[j]? = some oj → j ≠ p → ancB ops ops.size p j = false → (∀ e ∈ oj.after, Region.binds .any e = true → e.on ≠ p) → op.apart ops oj = true
theorem lateOK {ops : Array Oper} (h : lateB ops n p = true) : ∃ op, LateOK ops n p op := by
  unfold lateB at h
  cases hp : ops[p]? with
  | none => rw [hp] at h; cases h
  | some op =>
    rw [hp] at h
    simp only [Bool.and_eq_true, bne_iff_ne, decide_eq_true_eq, Array.all_eq_true', Bool.or_eq_true, Bool.not_eq_true', List.all_eq_true, List.mem_range, beq_iff_eq] at h
    obtain ⟨⟨⟨⟨⟨⟨h1, h2⟩, h3⟩, h4⟩, h5⟩, h6⟩, h7⟩ := h
    refine ⟨op, hp, h1, ?_, ?_, h5, fun e he hb => ?_, fun j oj hj hne hna hno => ?_⟩
    · unfold isExt at h3
      split at h3
      · exact ⟨_, _, by assumption⟩
      · cases h3
    · simpa using h4
    · rcases h6 e he with h | h
      · rw [hb] at h; cases h
      · exact h
    · have h8 := h7 j (Array.getElem?_eq_some_iff.1 hj).1
      rw [hj] at h8
      simp only [Bool.or_eq_true] at h8
      rcases h8 with (h8 | h8) | h8 | h8
      · exact absurd h8 hne
      · rw [hna] at h8; cases h8
      · obtain ⟨e, he, hb⟩ := Array.any_eq_true'.1 h8
        simp only [Bool.and_eq_true, beq_iff_eq] at hb
        exact absurd hb.2 (hno e he hb.1)
      · exact h8
theorem getD_down {j : Nat} (h : listed.getD j false = true) : listed.getD j true = true := by
  rcases Nat.lt_or_ge j listed.size with h' | h'
  · simp [h'] at h ⊢; exact h
  · simp [Array.getElem?_eq_none h'] at h
/-- When n may come up, p may, if it has not. -/
theorem late_ready {op : Oper} (hL : LateOK l.toArray n p op) (hd : Down l.toArray listed) (hsz : listed.size = l.toArray.size) (hn : n ∈ Region.ready .any l.toArray listed) (hp : listed.getD p false = false) : p ∈ Region.ready .any l.toArray listed := by
  obtain ⟨_, o, ho, hall⟩ := mem_ready.1 hn
  refine mem_ready.2 ⟨?_, op, hL.get, fun e he hb => anc_listed hd _ n e.on o ho hall (hL.anc e he hb)⟩
  have hlt : p < listed.size := by rw [hsz]; exact (Array.getElem?_eq_some_iff.1 hL.get).1
  simp [hlt] at hp ⊢
  exact hp
theorem wpAny_late {op : Oper} (hL : LateOK l.toArray n p op) (hQ : ∀ c a d v w, Q (.panic c) (Act.put a d v) w → Q (.panic c) a w) : ∀ (fuel : Nat) (listed : Array Bool) (a : Act) (w : World), Down l.toArray listed → listed.size = l.toArray.size →
    wpAny P .any (late n p l).toArray Q fuel listed a w → wpAny P .any l.toArray Q fuel listed a w := by
  intro fuel
  have none_of : ∀ {listed : Array Bool}, Down l.toArray listed → listed.size = l.toArray.size → Region.ready .any (late n p l).toArray listed = [] → Region.ready .any l.toArray listed = [] := by
    intro listed hd hsz h0
    refine List.eq_nil_iff_forall_not_mem.2 fun j hj => ?_
    have key : ∀ j, j ∈ Region.ready .any (late n p l).toArray listed → False := fun j hj => by rw [h0] at hj; cases hj
    by_cases hjn : j = n
    · subst hjn
      cases hp : listed.getD p false with
      | true => exact key _ (ready_late hp hj)
      | false => exact key _ ((ready_ne hL.ne).2 (late_ready hL hd hsz hj hp))
    · exact key _ ((ready_ne hjn).2 hj)
  induction fuel with
  | zero => exact fun listed a w hd hsz h => ⟨none_of hd hsz h.1, h.2⟩
  | succ fuel ih =>
    intro listed a w hd hsz h
    by_cases hc : n ∈ Region.ready .any l.toArray listed ∧ listed.getD p false = false
    · obtain ⟨hn, hp⟩ := hc
      have hr := late_ready hL hd hsz hn hp
      have h1 := wpOp_late (h.2 p ((ready_ne hL.ne).2 hr))
      obtain ⟨x, k, hx⟩ := hL.ext
      have hw : Region.wanted op (yielded l.toArray a.tmps) = true := by unfold Region.wanted; rw [hL.plain]
      unfold wpOp at h1
      simp only [hL.get, hw, if_true] at h1
      obtain ⟨v, hv, hK⟩ := ext_run hx h1
      refine wpAny_first hL.get (Region.noSelect_spec hL.sel) (fun c a w h => hQ c a _ v w h) fuel listed a w (fun j oj hj hne hun hno => hL.free j oj hj hne ?_ hno) hr (.inl ⟨hw, hv⟩) (ih _ _ _ (hd.set hr) (by simpa using hsz) hK)
      cases ha : ancB l.toArray l.toArray.size p j with
      | false => rfl
      | true =>
        obtain ⟨_, o', ho', hall⟩ := mem_ready.1 hr
        rw [hL.get] at ho'
        cases ho'
        have := getD_down (anc_listed hd _ p j op hL.get hall ha)
        rw [this] at hun
        cases hun
    · refine ⟨fun h0 => h.1 ?_, fun i hi => ?_⟩
      · refine List.eq_nil_iff_forall_not_mem.2 fun j hj => ?_
        have : j ∈ Region.ready .any l.toArray listed := by
          by_cases hjn : j = n
          · subst hjn
            obtain ⟨g0, o', ho', hall⟩ := mem_ready.1 hj
            cases ho : l.toArray[j]? with
            | none => rw [late_none ho] at ho'; cases ho'
            | some o =>
              rw [late_at ho] at ho'
              cases ho'
              exact mem_ready.2 ⟨g0, o, ho, fun e he hb => hall e (Array.mem_push.2 (.inl he)) hb⟩
          · exact (ready_ne hjn).1 hj
        rw [h0] at this
        cases this
      · have hi' : i ∈ Region.ready .any (late n p l).toArray listed := by
          by_cases hin : i = n
          · subst hin
            refine ready_late ?_ hi
            cases hp : listed.getD p false with
            | true => rfl
            | false => exact absurd ⟨hi, hp⟩ hc
          · exact (ready_ne hin).2 hi
        exact wpOp_mono (fun a' w' h' => ih _ a' w' (hd.set hi) (by simpa using hsz) h') (wpOp_late (h.2 i hi'))
/-- The region with that edge more. -/
theorem wp_region_late {id : Nat} {a : Act} {w : World} (n p : Nat) (hm : P.follows .mixedOrders = true) (hB : lateB l.toArray n p = true) (hQ : ∀ c a d v w, Q (.panic c) (Act.put a d v) w → Q (.panic c) a w)
    (h : wpAny P .any (late n p l).toArray Q l.length (Array.replicate l.length false) a w.drew) : (Code.region id l.toArray true).wp P Q a w := by
  obtain ⟨op, hL⟩ := lateOK hB
  refine wp_region_any hm ?_
  refine wpAny_late hL hQ _ _ _ _ ?_ (by simp) (by simpa using h)
  intro k o _ hk
  simp only [Array.getD, Array.size_replicate] at hk
  split at hk
  · simp at hk
  · cases hk
/-- Such a region by the walk in the order of the text; memory only grows ahead of its last operations. -/
theorem wp_region_late_in {id : Nat} {a : Act} {w : World} (n p m : Nat) (L : Tab) (hm : P.follows .mixedOrders = true) (hL : lateB l.toArray n p = true) (hn : tailB (late n p l).toArray m = true) (hB : Region.lexB .any (late n p l).toArray = true)
    (hQ : ∀ c a d v w, Q (.panic c) (Act.put a d v) w → Q (.panic c) a w) (hT : TabOK L)
    (h : wpRel P (late n p l).toArray (Ext w) Ext L.at m Q (late n p l) 0 a Facts.top) : (Code.region id l.toArray true).wp P Q a w := by
  refine wp_region_late n p hm hL hQ ?_
  have hlen : l.length = (late n p l).length := by simp [late]
  rw [hlen]
  simp only [Region.lexB, Bool.and_eq_true] at hB
  have hG : ∀ (j : Nat) (w w' : World), Ext w w' → Facts.top j w → Facts.top j w' := fun _ _ _ _ h => h
  have hd : Down (late n p l).toArray (Array.replicate (late n p l).length false) := by
    intro k o _ hk
    simp only [Array.getD, Array.size_replicate] at hk
    split at hk
    · simp at hk
    · cases hk
  refine wpAny_of_R (C := Ext w) (E := Ext) (T := L.at) (n := m) (Tab.stays hT) hn _ _ _ Facts.top _ hd (by simp) hG (Ext.refl w).drew (fun _ => trivial) ?_
  have := wpAnyR_lex (C := Ext w) (Tab.stays hT) hn hB.1 (late n p l) 0 (Array.replicate (late n p l).length false) a Facts.top hd hG ⟨_, (Ext.refl w).drew, fun _ => trivial⟩ (by simp) (by simpa using hB.2) h
  simpa using this
end
end Go.Proofs.Yteamiiekpjoclaa

/- project.Seen of any rows. -/
namespace Go.Proofs.Yteamiiekpjoclaa
open Go Go.RowKit
attribute [local go_sem] yields yUpon ro8 pa3 vw5 cl4 tabV

/-- A row in a view, with those columns. -/
def ofRow (x : Vw) (ns : List ByteArray) (pk : ByteArray) (pg : Int) (r : Ro) (lc : List Co) : Option (ByteArray × Ro) :=
  if bestB (cellOf r.cols x.on) (max r.gone pg) then some ((cellOf r.cols x.on).val, ⟨vkey pk r.key, ⟨⟨#[]⟩, false, (cellOf r.cols x.on).at_, (cellOf r.cols x.on).fin⟩, 0, 0, lc.filter (keeps ns)⟩) else none
theorem of_any (x : Vw) (u : Value) (ns : List ByteArray) (pk : ByteArray) (pg : Int) (pu : Value) (r : Ro) (v cv : Value) (lc : List Co) (w : World) (hin : ColsIn w v r.cols) (hcv : ColsIn w cv lc) (hlc : lc.length ≤ 1000000) (hns : StrsIn w u ns)
    (hk : pk.size ≤ 10000000) (hr : r.key.size ≤ 10000000) (hkl : (vkey pk r.key).size ≤ 400) :
    Calls Try.prog 66 #[.agg #[.string x.name, .int .i64 x.id, .string x.table, .string x.on, u], .agg #[.string pk, .int .i64 pg, pu], (.agg #[.string r.key, .string r.live.val, .bool r.live.dead, .int .i64 r.live.at_, .int .i64 r.live.fin, .int .i64 r.gone, .int .i64 r.shade, v]), cv] w fun e w' =>
      ∃ rv, e = .returned (.tuple #[.agg #[.string (mirK (ofRow x ns pk pg r lc)), .int .i64 0, rv], .bool (ofRow x ns pk pg r lc).isSome]) ∧ ∃ ps, RowsT w' rv ps ∧ ps.map (·.1) = mirR (ofRow x ns pk pg r lc) ∧ Ext w w' := by
  cases hb : bestB (cellOf r.cols x.on) (max r.gone pg) with
  | true =>
    have e : ofRow x ns pk pg r lc = some ((cellOf r.cols x.on).val, ⟨vkey pk r.key, ⟨⟨#[]⟩, false, (cellOf r.cols x.on).at_, (cellOf r.cols x.on).fin⟩, 0, 0, lc.filter (keeps ns)⟩) := by unfold ofRow; rw [if_pos hb]
    rw [e]
    refine (of_some x u ns pk pg pu r v cv lc w hin hcv hlc hns hb hk hr hkl).mono ?_
    rintro e w' ⟨b, v', rfl, hwb, hbox, hown, hE⟩
    exact ⟨_, rfl, _, RowsT.one hbox (TIn.own hown), rfl, hE⟩
  | false =>
    have e : ofRow x ns pk pg r lc = none := by unfold ofRow; rw [if_neg (by rw [hb]; decide)]
    rw [e]
    refine (of_none x u pk pg pu r v cv w hin hb hk hr).mono ?_
    rintro e w' ⟨rfl, hE⟩
    exact ⟨_, rfl, [], RowsT.nil _, rfl, hE⟩
theorem ofSeen_of (x : Vw) (ns : List ByteArray) (pk : ByteArray) (pg now : Int) (r : Ro) : ofSeen x ns pk pg now r = (ofRow x ns pk pg r (seenCos r.cols (max r.gone pg) now)).bind fun q => if seenB q.2.live.dead q.2.live.at_ q.2.live.fin now then some q else none := by
  unfold ofSeen ofRow
  cases bestB (cellOf r.cols x.on) (max r.gone pg) with
  | true => rfl
  | false => rfl

theorem FS.keep {w : World} {s : Value} {x : Vw} {u : Value} {pk : ByteArray} {pg : Int} {pu : Value} {vl : Value} {L : List Pa} {y z : World} {q : Nat} {W : Array Value} (h : FS w s x u pk pg pu vl L y) (hq : w.heap.size + 3 ≤ q) (hg : y.grownBy z (some q)) (hb : BoxAt y q W 39) (hne : vl.ownBlock ≠ some q) : FS w s x u pk pg pu vl L z :=
  ⟨h.ext.grown hg (fun p hp => by cases hp; omega), h.tab.grown hg (fun e => by cases e; omega), h.view.grown hg (fun e => by cases e; omega), h.part.grown hg (fun e => by cases e; omega), h.own.kept hg (.inr hne), fun p hp => (h.rows p hp).keep hg hb (by decide) (by decide)⟩

set_option maxRecDepth 100000 in
set_option maxHeartbeats 8000000 in
theorem projseen_any (s : Value) (x : Vw) (u : Value) (ns : List ByteArray) (pk : ByteArray) (pg : Int) (pu : Value) (ps : List (Ro × Value)) (now : Int) (w : World) (hrows : RowsIn w pu ps) (hlen : ps.length ≤ 1000000) (hlc : ∀ p ∈ ps, p.1.cols.length ≤ 1000000) (hns : StrsIn w u ns)
    (hk : pk.size ≤ 10000000) (hkeys : ∀ p ∈ ps, p.1.key.size ≤ 10000000 ∧ (vkey pk p.1.key).size ≤ 400) :
    Calls Try.prog 37 #[tabV s, .agg #[.string x.name, .int .i64 x.id, .string x.table, .string x.on, u], .agg #[.string pk, .int .i64 pg, pu], .int .i64 now] w fun e w' => ∃ v', e = .returned v' ∧ ∃ L : List Pa,
      w'.ownsRow w.heap.size 39 3 v' L.length (paCells L) ∧ (∀ p ∈ L, RowsT w' p.rv p.ps) ∧ L.map Pa.data = outQ (viewRs x ns pk pg now (ps.map (·.1))) ∧ Ext w w' := by
  obtain ⟨aa, ca, rfl, hca, hcma, hget⟩ := hrows.get
  obtain ⟨n, hn⟩ : ∃ n, n = ps.length := ⟨_, rfl⟩
  rw [← hn] at hlen hca ⊢
  obtain ⟨a0, a1, a2, hE⟩ := boxes3 w #[.string ⟨#[116]⟩, .int .i64 1, .string ⟨#[112]⟩, .int .i64 1, .string ⟨#[107]⟩, .int .i64 2, s] (vw5 x u) (pa3 pk pg (.slice aa n ca)) 28 31 39
  have HN := Lib.hid hn
  have HGET := Lib.hid hget
  clear hn hget
  have p0 := a2.pa
  unfold tabV
  go_enter Try.func37, Try.ntmps37
  go_wp2
  clear p0
  go_loopw [9, 17] (fun m i wr => ∃ (k : Nat) (L : List Pa), k ≤ n ∧ i = .int .i64 k ∧ FS w s x u pk pg (.slice aa n ca) m L wr ∧ Hid (L.map Pa.data = outQ (viewRs x ns pk pg now ((ps.map (·.1)).take k))) ∧ L.length ≤ k) (fun _ i _ => n - (intOf i).toNat)
  case atStart => exact ⟨0, [], Nat.zero_le _, rfl, ⟨hE, a0, a1, a2, World.ownsRow_nil _ _ _ _, nofun⟩, rfl, by simp⟩
  case round =>
    obtain ⟨k, L, hkn, rfl, hS, HO, hLk⟩ := hrel
    by_cases hlt : k < n
    · have hkp : k < ps.length := by rw [← HN.out]; exact hlt
      have hkc := hlc _ (List.getElem_mem hkp)
      have hkk := hkeys _ (List.getElem_mem hkp)
      have hcu := hrows.cols _ (List.getElem_mem hkp)
      obtain ⟨b, o, rfl, hat⟩ := HGET.out k hkp
      have hsnoc : (ps.map (·.1)).take (k + 1) = (ps.map (·.1)).take k ++ [ps[k].1] := by
        rw [List.take_succ_eq_append_getElem (by simpa using hkp)]
        simp
      obtain ⟨M, hM⟩ : ∃ M, M = ps[k].1 := ⟨_, rfl⟩
      obtain ⟨au, cu, hu⟩ := hcu.shape
      rw [← hM] at hkc hcu hu hsnoc hat hkk
      rw [hu] at hcu hat
      obtain ⟨S, hSS⟩ : ∃ S, S = seenCos M.cols (max M.gone pg) now := ⟨_, rfl⟩
      obtain ⟨mr, hmr⟩ : ∃ mr, mr = ofRow x ns pk pg M S := ⟨_, rfl⟩
      have HSN : Hid (viewRs x ns pk pg now ((ps.map (·.1)).take (k + 1)) = viewRs x ns pk pg now ((ps.map (·.1)).take k) ++ (mr.bind fun q => if seenB q.2.live.dead q.2.live.at_ q.2.live.fin now then some q else none).toList) := by
        show _ = _
        rw [hsnoc, viewRs_snoc, ofSeen_of, hmr, hSS]
      have hSl : S.length ≤ 1000000 := by rw [hSS]; exact Nat.le_trans (List.length_filter_le _ _) hkc
      have HSS := Lib.hid hSS
      have HMR := Lib.hid hmr
      have HSL := Lib.hid hSl
      clear hM hu hsnoc hSS hmr hSl
      obtain ⟨m, hm⟩ : ∃ m, m = M.cols.length := ⟨_, rfl⟩
      rw [← hm] at hcu hat
      clear hm
      replace hcu := hcu.ext hS.ext
      have hn0 := hns.ext hS.ext
      obtain ⟨g0, g1, g2, g3, g4, g5, g6, g7⟩ := hat.ext hS.ext
      clear hat
      have HCU := Lib.hid hcu
      clear hcu
      go_wp2_with (((guard_target =~ wpList _ _ _ (Oper.mk none (Op.store _ (Operand.tmp 11) (Operand.tmp 20)) _ _ _ _ :: _) _ _); go_must (refine storeBox rfl 55 (.tmp 11) (.tmp 20) rfl (wr.heap.size) _ _ _ (by rfl) (by rfl) ((BoxAt.made wr (ro8 ⟨⟨#[]⟩, zeroCl, 0, 0, []⟩ (.slice none 0 0)) 55)) (by kernel_rfl) (by rfl) (by simp [Value.oneCell']) ?_); intro w4 c4 h4))
      have hX4 : Ext wr w4 := ((Ext.refl wr).alloc _).grown h4 (fun q hq => by cases hq; exact Nat.le_refl _)
      have hne : ∀ q, w4.heap.size ≤ q → u9.ownBlock ≠ some q := fun q hq e => by have := (hS.own.lt q e).2; have := hX4.le; omega
      have hS4 := hS.ext' hX4
      have hcu4 := HCU.out.ext hX4
      have hn4 := hn0.ext hX4
      have d4 := c4.ro (r := M) (v := .slice au m cu)
      obtain ⟨x0, x1, x2, x3, x4, x5, x6, x7⟩ := d4
      obtain ⟨z0, z1, z2, z3, z4⟩ := hS4.view.vw
      obtain ⟨p0, p1, p2⟩ := hS4.part.pa
      clear g0 g1 g2 g3 g4 g5 g6 g7 c4 h4 hX4 hS hn0 HCU
      refine wp_region_late_in 13 11 13 [(7, fun v y => ColsT y v S), (8, fun v y => ∃ rv qs, v = .tuple #[.agg #[.string (mirK mr), .int .i64 0, rv], .bool mr.isSome] ∧ RowsT y rv qs ∧ qs.map (·.1) = mirR mr), (12, fun v y => ∃ q, v = .pointer (some ⟨q, 0, none⟩) ∧ w4.heap.size ≤ q ∧ BoxAt y q (pa3 ⟨#[]⟩ 0 (.slice none 0 0)) 39)] (by kernel_rfl) (by kernel_rfl) (by kernel_rfl) (by kernel_rfl) (fun c a d v w h => by cases d <;> exact h) ⟨fun _ _ _ hE h => h.ext hE, fun _ _ _ hE ⟨rv, qs, e, h, h'⟩ => ⟨rv, qs, e, h.ext hE, h'⟩, fun _ _ _ hE ⟨q, e, h1, h2⟩ => ⟨q, e, h1, h2.ext hE⟩, trivial⟩ ?_
      simp only [late, List.modify_succ_cons, List.modify_zero_cons, List.push_toArray, List.cons_append, List.nil_append]
      replace x0 := held x0
      replace x1 := held x1
      replace x2 := held x2
      replace x3 := held x3
      replace x4 := held x4
      replace x5 := held x5
      replace x6 := held x6
      replace x7 := held x7
      replace z0 := held z0
      replace z1 := held z1
      replace z2 := held z2
      replace z3 := held z3
      replace z4 := held z4
      replace p0 := held p0
      replace p1 := held p1
      replace p2 := held p2
      refine rg_quiet rfl rfl rfl rfl ?_; intro K hK; go_big_quiet_op; go_big_quiet_on
      refine rg_quiet rfl rfl rfl rfl ?_; intro K hK; go_big_quiet_op; go_big_quiet_on
      refine rg_quiet rfl rfl rfl rfl ?_; intro K hK; go_big_quiet_op; go_big_quiet_on
      refine rg_quiet rfl rfl rfl rfl ?_; intro K hK; go_big_quiet_op; go_big_quiet_on
      refine rg_quiet rfl rfl rfl rfl ?_; intro K hK; go_big_quiet_op; go_big_quiet_on
      refine rg_quiet rfl rfl rfl rfl ?_; intro K hK; go_big_quiet_op; go_big_quiet_on
      refine rg_quiet rfl rfl rfl rfl ?_; intro K hK; go_big_quiet_op; go_big_quiet_on
      refine rg_fact [] rfl rfl rfl (by kernel_rfl) (fun y hY hf => ?_) (fun v7 y7 hE7 hG7 h7 => ?_)
      · go_simp
        refine (rwseen_any M (.slice au m cu) pg now y (hcu4.ext hY) hkc).mono ?_
        rw [← HSS.out]
        rintro e y' ⟨v', he, hown', hy⟩
        exact ⟨_, he, rg_doneR hY hy (TIn.own hown')⟩
      obtain ⟨a7, c7, rfl⟩ := TIn.shape h7
      clear hE7 hG7 h7
      simp only [Act.put, List.setIfInBounds_toArray, List.set_cons_zero, List.set_cons_succ]
      refine rg_fact [7] rfl rfl rfl (by kernel_rfl) (fun y hY hf => ?_) (fun v8 y8 hE8 hG8 h8 => ?_)
      · have hc7 : ColsT y (.slice a7 S.length c7) S := (hf 7 (by simp)).2 rfl
        go_simp
        refine (of_any x u ns pk pg (.slice (some ⟨b, o, none⟩) n ca) M (.slice au m cu) _ S y (hcu4.ext hY) hc7.cols HSL.out (hn4.ext hY) hk hkk.1 hkk.2).mono ?_
        rw [← HMR.out]
        rintro e y' ⟨rv, he, qs, hqs, hqm, hy⟩
        exact ⟨_, he, rg_doneR hY hy ⟨rv, rfl, qs, hqs, hqm⟩⟩
      obtain ⟨rv, qs, rfl, hqs, _⟩ := h8
      obtain ⟨a8, cc8, rfl⟩ := hqs.shape
      clear hE8 hG8 hqs
      simp only [Act.put, List.setIfInBounds_toArray, List.set_cons_zero, List.set_cons_succ]
      refine rg_quiet rfl rfl rfl rfl ?_; intro K hK; go_big_quiet_op; go_big_quiet_on
      refine rg_quiet rfl rfl rfl rfl ?_; intro K hK; go_big_quiet_op; go_big_quiet_on
      refine rg_quiet rfl rfl rfl rfl ?_; intro K hK; go_big_quiet_op; go_big_quiet_on
      refine rg_fact [] rfl rfl rfl (by kernel_rfl) (fun y hY hf => ?_) (fun v12 y12 hE12 hG12 h12 => ?_)
      · go_simp
        exact rg_doneR hY ((Ext.refl y).alloc _) ⟨_, rfl, hY.le, BoxAt.made y _ _⟩
      obtain ⟨q12, rfl, _⟩ := h12
      clear hE12 hG12
      simp only [Act.put, List.setIfInBounds_toArray, List.set_cons_zero, List.set_cons_succ]
      refine rel_tail rfl rfl fun w5 hE5 hG => ?_
      obtain ⟨rv, qs', e8, hqs, hqm⟩ := (hG 8).1.2 rfl
      obtain ⟨q12', e12, hq12, hbx⟩ := (hG 12).2 rfl
      cases e8
      cases e12
      have hS5 := hS4.ext' hE5
      have hq3 : w.heap.size + 3 ≤ q12 := by have := hS4.part.lt; omega
      have HNE := Lib.hid (hne q12 hq12)
      clear hne
      clear hG x0 x1 x2 x3 x4 x5 x6 x7 z0 z1 z2 z3 z4 p0 p1 p2 hS4 hcu4 hn4
      have hqn : qs.length = qs'.length := by
        obtain ⟨_, _, e⟩ := hqs.shape
        exact congrArg (fun v => match v with | .slice _ n _ => n | _ => 0) e
      rw [hqn] at hqs ⊢
      clear hqn
      cases mr with
      | none =>
        simp only [mirK, Option.isSome]
        obtain ⟨nq, hnq⟩ : ∃ nq, nq = qs'.length := ⟨_, rfl⟩
        rw [← hnq]
        go_wp2_with (((guard_target =~ wpList _ _ _ (Oper.mk none (Op.store _ (Operand.tmp 12) (Operand.tmp 31)) _ _ _ _ :: _) _ _); go_must (refine storeBox rfl 39 (.tmp 12) (.tmp 31) rfl (q12) _ _ _ (by rfl) (by rfl) (hbx) (by kernel_rfl) (by rfl) (by simp [Value.oneCell']) ?_); intro w6 c6 h6))
        go_roundw
        case rel => exact ⟨k + 1, L, by omega, by go_num, hS5.keep hq3 h6 hbx HNE.out, by show _ = _; rw [HSN.out, Option.bind_none, Option.toList_none, List.append_nil]; exact HO.out, by omega⟩
        case measure => simp [intOf] <;> omega
      | some q =>
        obtain ⟨vm, bm, rfl, rfl, _⟩ := hqs.single hqm
        simp only [mirK, Option.isSome, List.length_cons, List.length_nil, Nat.zero_add] at hqs ⊢
        obtain ⟨qk, qr⟩ := q
        obtain ⟨rk, ⟨lv, ld, la, lf⟩, rg, rsh, rc⟩ := qr
        go_wp2_with (((guard_target =~ wpList _ _ _ (Oper.mk none (Op.store _ (Operand.tmp 12) (Operand.tmp 31)) _ _ _ _ :: _) _ _); go_must (refine storeBox rfl 39 (.tmp 12) (.tmp 31) rfl (q12) _ _ _ (by rfl) (by rfl) (hbx) (by kernel_rfl) (by rfl) (by simp [Value.oneCell']) ?_); intro w6 c6 h6); have hr6 := hqs.keep h6 hbx (by decide) (by decide); have hr7 : w6.cell? ⟨bm, 1, none⟩ = some (.string lv) ∧ w6.cell? ⟨bm, 2, none⟩ = some (.bool ld) ∧ w6.cell? ⟨bm, 3, none⟩ = some (.int .i64 la) ∧ w6.cell? ⟨bm, 4, none⟩ = some (.int .i64 lf) := (by obtain ⟨_, r1, r2, r3, r4, _⟩ := hr6.at0; exact ⟨r1, r2, r3, r4⟩); clear hr6; have d6 : w6.cell? ⟨q12, 0, none⟩ = some (.string qk) ∧ w6.cell? ⟨q12, 1, none⟩ = some (.int .i64 0) ∧ w6.cell? ⟨q12, 2, none⟩ = some (.slice (some ⟨bm, 0, none⟩) 1 cc8) := BoxAt.pa c6)
        have hS6 := hS5.keep hq3 h6 hbx HNE.out
        have hr6 := hqs.keep h6 hbx (by decide) (by decide)
        clear hqs hS5 hbx h6
        refine (seen_any lv ld la lf now w6).mono ?_
        obtain ⟨B, hB⟩ : ∃ B, B = seenB ld la lf now := ⟨_, rfl⟩
        rw [← hB]
        rintro e w7 ⟨rfl, hE7⟩
        have HB := Lib.hid hB
        have hS7 := hS6.ext' hE7
        have hr7' := hr6.ext hE7
        have c7 := BoxAt.ext hE7 c6
        have d7 : w7.cell? ⟨q12, 0, none⟩ = some (.string qk) ∧ w7.cell? ⟨q12, 1, none⟩ = some (.int .i64 0) ∧ w7.cell? ⟨q12, 2, none⟩ = some (.slice (some ⟨bm, 0, none⟩) 1 cc8) := BoxAt.pa c7
        clear hB hS6 hr6 d6 hr7 hE7 c6 c7
        cases B with
        | false =>
          have hq : Hid (((some (qk, (⟨rk, ⟨lv, ld, la, lf⟩, rg, rsh, rc⟩ : Ro)) : Option (ByteArray × Ro)).bind fun q => if seenB q.2.live.dead q.2.live.at_ q.2.live.fin now then some q else none) = none) := by
            show (if seenB ld la lf now then _ else none) = none
            rw [← HB.out, if_neg (by decide)]
          go_wp2_with fail
          go_roundw
          case rel => exact ⟨k + 1, L, by omega, by go_num, hS7, by show _ = _; rw [HSN.out, hq.out, Option.toList_none, List.append_nil]; exact HO.out, by omega⟩
          case measure => simp [intOf] <;> omega
        | true =>
          have hq : Hid (((some (qk, (⟨rk, ⟨lv, ld, la, lf⟩, rg, rsh, rc⟩ : Ro)) : Option (ByteArray × Ro)).bind fun q => if seenB q.2.live.dead q.2.live.at_ q.2.live.fin now then some q else none) = some (qk, (⟨rk, ⟨lv, ld, la, lf⟩, rg, rsh, rc⟩ : Ro))) := by
            show (if seenB ld la lf now then _ else none) = _
            rw [← HB.out, if_pos rfl]
          have hl7 := hS7.part.lt
          go_wp2_with (at_builtin; go_must (refine appR info_Part und_Parts rfl (by decide) w7 rfl (.tmp 43) (.tmp 45) rfl (w.heap.size + 3) (by omega) _ L.length (paCells L) hS7.own (by rfl) 1 _ (by rfl) (by rfl) (by simp [Value.oneCell']) (by unfold maxLen; omega) (by omega) ?_); intro m3 w3 hown3 hg3)
          have e3 : paCells L ++ [Value.string qk, .int .i64 0, .slice (some ⟨bm, 0, none⟩) 1 cc8] = paCells (L ++ [⟨qk, 0, .slice (some ⟨bm, 0, none⟩) 1 cc8, [(⟨rk, ⟨lv, ld, la, lf⟩, rg, rsh, rc⟩, vm)]⟩]) := by rw [paCells_append]; rfl
          have E3 := Lib.hid e3
          clear e3
          go_roundw
          case rel =>
            refine ⟨k + 1, L ++ [⟨qk, 0, .slice (some ⟨bm, 0, none⟩) 1 cc8, [(⟨rk, ⟨lv, ld, la, lf⟩, rg, rsh, rc⟩, vm)]⟩], by omega, by go_num, (hS7.ext' ((Ext.refl _).alloc _)).app hg3 (by rw [← E3.out]; exact hown3) (hr7'.ext ((Ext.refl _).alloc _)), ?_, by simp; omega⟩
            show List.map Pa.data (L ++ [_]) = _
            rw [HSN.out, hq.out, List.map_append, HO.out]
            unfold outQ
            rw [List.map_append]
            simp [Pa.data]
          case measure => simp [intOf] <;> omega
    · obtain rfl : k = n := by omega
      go_wp2_with fail
      go_ret
      refine ⟨_, rfl, L, ownsRow_base hS.own (by omega), hS.rows, ?_, hS.ext⟩
      rw [HO.out, HN.out, List.take_of_length_le (by simp)]
end Go.Proofs.Yteamiiekpjoclaa
