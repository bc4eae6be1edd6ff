/- ProjectMirrors: the plain law: what is seen of a mirror is what the view has of the row. -/
import Derived.Test.YtfagnbofnaoncaaP11
import Derived.Test.YtfagnbofnaoncaaP15
import Derived.Test.YtfagnbofnaoncaaP14
import Derived.Test.YtfagnbofnaoncaaP7
import Derived.Test.YtfagnbofnaoncaaP10
set_option linter.unusedSimpArgs false
set_option linter.unusedVariables false
namespace Go.Proofs.Ytfagnbofnaoncaa
open Go Go.RowKit

/-- What a view has of a row at a time. -/
def ofSeen (x : Vw) (ns : List ByteArray) (pk : ByteArray) (pg now : Int) (r : Ro) : Option (ByteArray × Ro) :=
  if bestB (cellOf r.cols x.on) (max r.gone pg) then if seenB false (cellOf r.cols x.on).at_ (cellOf r.cols x.on).fin now then some ((cellOf r.cols x.on).val, ⟨vkey pk r.key, ⟨⟨#[]⟩, false, (cellOf r.cols x.on).at_, (cellOf r.cols x.on).fin⟩, 0, 0, (seenCos r.cols (max r.gone pg) now).filter (keeps ns)⟩) else none else none
/-- What a view has of rows at a time. -/
def viewRs (x : Vw) (ns : List ByteArray) (pk : ByteArray) (pg now : Int) (l : List Ro) : List (ByteArray × Ro) := l.filterMap (ofSeen x ns pk pg now)
/-- All mirrors of rows. -/
def fullRs (x : Vw) (ns : List ByteArray) (pk : ByteArray) (pg : Int) (l : List Ro) : List (ByteArray × Ro) := l.filterMap (mirOf x ns pk pg)
/-- Partitions of one row each. -/
def outQ (l : List (ByteArray × Ro)) : List (ByteArray × Int × List Ro) := l.map fun p => (p.1, 0, [p.2])
/-- What is seen of a mirror. -/
def selP (now : Int) (p : ByteArray × Ro) : Option (ByteArray × Ro) := if isB p.2 (max p.2.gone 0) now true then some (p.1, seenRo p.2 0 now) else none
theorem viewRs_snoc (x : Vw) (ns : List ByteArray) (pk : ByteArray) (pg now : Int) (l : List Ro) (r : Ro) : viewRs x ns pk pg now (l ++ [r]) = viewRs x ns pk pg now l ++ (ofSeen x ns pk pg now r).toList := by
  unfold viewRs
  rw [List.filterMap_append]
  cases h : ofSeen x ns pk pg now r <;> simp [h]
theorem fullRs_snoc (x : Vw) (ns : List ByteArray) (pk : ByteArray) (pg : Int) (l : List Ro) (r : Ro) : fullRs x ns pk pg (l ++ [r]) = fullRs x ns pk pg l ++ (mirOf x ns pk pg r).toList := by
  unfold fullRs
  rw [List.filterMap_append]
  cases h : mirOf x ns pk pg r <;> simp [h]
theorem seenCo_max (c : Co) (g now : Int) : seenCo c (max g 0) now = seenCo c g now := by
  unfold seenCo seenB
  by_cases h : 0 < c.cell.at_
  · rw [show decide (max g 0 < c.cell.at_) = decide (g < c.cell.at_) from decide_eq_decide.2 (by omega)]
  · rw [show decide (0 < c.cell.at_) = false by simpa using h]
    simp
theorem seenCos_max (l : List Co) (g now : Int) : seenCos l (max g 0) now = seenCos l g now := by
  unfold seenCos
  congr 1
  funext c
  exact seenCo_max c g now
theorem seenCos_keeps (l : List Co) (ns : List ByteArray) (g now : Int) : seenCos (l.filter (keeps ns)) g now = (seenCos l g now).filter (keeps ns) := by
  unfold seenCos
  rw [List.filter_filter, List.filter_filter]
  congr 1
  funext c
  exact Bool.and_comm ..
theorem bestB_at {c : Cl} {g : Int} (h : bestB c g = true) : c.dead = false ∧ 1 ≤ c.at_ ∧ g < c.at_ := by
  unfold bestB at h
  simp only [Bool.not_eq_true', Bool.or_eq_false_iff, decide_eq_false_iff_not] at h
  exact ⟨h.1.1, by omega, by omega⟩
theorem sel_mir (x : Vw) (ns : List ByteArray) (pk : ByteArray) (pg now : Int) (r : Ro) : (mirOf x ns pk pg r).bind (selP now) = ofSeen x ns pk pg now r := by
  unfold mirOf ofSeen
  cases hb : bestB (cellOf r.cols x.on) (max r.gone pg) with
  | false => rfl
  | true =>
    obtain ⟨_, h1, h2⟩ := bestB_at hb
    rw [if_pos rfl, if_pos rfl]
    show selP now _ = _
    unfold selP isB liveB
    simp only
    rw [show decide (max (max r.gone pg) 0 < (cellOf r.cols x.on).at_) = true by simp; omega, show decide (0 < (cellOf r.cols x.on).at_) = true by simp; omega]
    cases hs : seenB false (cellOf r.cols x.on).at_ (cellOf r.cols x.on).fin now with
    | false => rfl
    | true =>
      rw [if_pos rfl, if_pos (by rfl)]
      unfold seenRo
      simp only
      rw [seenCos_keeps, seenCos_max]
theorem view_full (x : Vw) (ns : List ByteArray) (pk : ByteArray) (pg now : Int) (l : List Ro) : (fullRs x ns pk pg l).filterMap (selP now) = viewRs x ns pk pg now l := by
  unfold fullRs viewRs
  rw [List.filterMap_filterMap]
  congr 1
  funext r
  exact sel_mir x ns pk pg now r
section
variable {α β : Type} {f : α → Option β} {F : List α} {i : Nat}
theorem fm_next (hi : i < F.length) : (F.take (i + 1)).filterMap f = (F.take i).filterMap f ++ (f F[i]).toList := by
  rw [List.take_succ_eq_append_getElem hi, List.filterMap_append]
  congr 1
theorem fm_hit (hi : i < F.length) {q : β} (h : f F[i] = some q) : (F.filterMap f)[((F.take i).filterMap f).length]? = some q := by
  have e : F = F.take i ++ F[i] :: F.drop (i + 1) := by rw [← List.drop_eq_getElem_cons hi, List.take_append_drop]
  have e2 : F.filterMap f = (F.take i).filterMap f ++ q :: (F.drop (i + 1)).filterMap f := by
    conv => lhs; rw [e]
    rw [List.filterMap_append, List.filterMap_cons_some h]
  rw [e2, List.getElem?_append_right (Nat.le_refl _)]
  simp
theorem fm_le : ((F.take i).filterMap f).length ≤ (F.filterMap f).length := by
  conv => rhs; rw [← List.take_append_drop i F, List.filterMap_append, List.length_append]
  omega
end
end Go.Proofs.Ytfagnbofnaoncaa

/- project.Full of any rows. -/
namespace Go.Proofs.Ytfagnbofnaoncaa
open Go Go.RowKit
attribute [local go_sem] yields yUpon ro8 pa3 vw5 cl4 tabV

/-- What stays true from round to round. -/
structure FS (w : World) (s : Value) (x : Vw) (u : Value) (pk : ByteArray) (pg : Int) (pu : Value) (vl : Value) (L : List Pa) (y : World) : Prop where
  ext : Ext w y
  tab : BoxAt y w.heap.size #[.string ⟨#[116]⟩, .int .i64 1, .string ⟨#[112]⟩, .int .i64 1, .string ⟨#[107]⟩, .int .i64 2, s] 35
  view : BoxAt y (w.heap.size + 1) (vw5 x u) 24
  part : BoxAt y (w.heap.size + 1 + 1) (pa3 pk pg pu) 27
  own : y.ownsRow (w.heap.size + 3) 27 3 vl L.length (paCells L)
  rows : ∀ p ∈ L, RowsT y p.rv p.ps
section
variable {w : World} {s : Value} {x : Vw} {u : Value} {pk : ByteArray} {pg : Int} {pu : Value} {vl : Value} {L : List Pa}
theorem FS.ext' {y z : World} (hE : Ext y z) (h : FS w s x u pk pg pu vl L y) : FS w s x u pk pg pu vl L z :=
  ⟨h.ext.trans hE, h.tab.ext hE, h.view.ext hE, h.part.ext hE, ownsRow_ext h.own hE, fun p hp => (h.rows p hp).ext hE⟩
theorem FS.app {y z : World} {v' : Value} {P : Pa} (h : FS w s x u pk pg pu vl L y) (hg : y.grownBy z vl.ownBlock) (hown : z.ownsRow (w.heap.size + 3) 27 3 v' (L.length + 1) (paCells (L ++ [P]))) (hP : RowsT y P.rv P.ps) : FS w s x u pk pg pu v' (L ++ [P]) z := by
  have ne : ∀ b, b < w.heap.size + 3 → some b ≠ vl.ownBlock := fun b hb e => by have := (h.own.lt _ e.symm).1; omega
  refine ⟨h.ext.grown hg (fun q hq => by have := (h.own.lt q hq).1; omega), h.tab.grown hg (ne _ (by omega)), h.view.grown hg (ne _ (by omega)), h.part.grown hg (ne _ (by omega)), by rw [List.length_append]; exact hown, ?_⟩
  intro p hp
  rcases List.mem_append.1 hp with hp | hp
  · exact (h.rows p hp).keepOwn h.own hg (by decide) (by decide)
  · rw [List.mem_singleton.1 hp]
    exact hP.keepOwn h.own hg (by decide) (by decide)
end

set_option maxRecDepth 100000 in
set_option maxHeartbeats 8000000 in
theorem full_any (s : Value) (x : Vw) (u : Value) (ns : List ByteArray) (pk : ByteArray) (pg : Int) (pu : Value) (ps : List (Ro × Value)) (w : World) (hrows : RowsIn w pu ps) (hlen : ps.length ≤ 1000000) (hlc : ∀ p ∈ ps, p.1.cols.length ≤ 1000000) (hns : StrsIn w u ns)
    (hk : pk.size ≤ 10000000) (hkeys : ∀ p ∈ ps, p.1.key.size ≤ 10000000 ∧ (vkey pk p.1.key).size ≤ 400) :
    Calls Try.prog 17 #[tabV s, .agg #[.string x.name, .int .i64 x.id, .string x.table, .string x.on, u], .agg #[.string pk, .int .i64 pg, pu]] w fun e w' => ∃ v', e = .returned v' ∧ ∃ L : List Pa,
      w'.ownsRow w.heap.size 27 3 v' L.length (paCells L) ∧ (∀ p ∈ L, RowsT w' p.rv p.ps) ∧ L.map Pa.data = outQ (fullRs x ns pk pg (ps.map (·.1))) ∧ Ext w w' := by
  obtain ⟨aa, ca, rfl, hca, hcma, hget⟩ := hrows.get
  obtain ⟨n, hn⟩ : ∃ n, n = ps.length := ⟨_, rfl⟩
  rw [← hn] at hlen hca ⊢
  obtain ⟨a0, a1, a2, hE⟩ := boxes3 w #[.string ⟨#[116]⟩, .int .i64 1, .string ⟨#[112]⟩, .int .i64 1, .string ⟨#[107]⟩, .int .i64 2, s] (vw5 x u) (pa3 pk pg (.slice aa n ca)) 35 24 27
  have HN := Lib.hid hn
  have HGET := Lib.hid hget
  clear hn hget
  unfold tabV
  go_enter Try.func17, Try.ntmps17
  go_wp2
  go_loopw [7, 15] (fun m i wr => ∃ (k : Nat) (L : List Pa), k ≤ n ∧ i = .int .i64 k ∧ FS w s x u pk pg (.slice aa n ca) m L wr ∧ Hid (L.map Pa.data = outQ (fullRs x ns pk pg ((ps.map (·.1)).take k))) ∧ L.length ≤ k) (fun _ i _ => n - (intOf i).toNat)
  case atStart => exact ⟨0, [], Nat.zero_le _, rfl, ⟨hE, a0, a1, a2, World.ownsRow_nil _ _ _ _, nofun⟩, rfl, by simp⟩
  case round =>
    obtain ⟨k, L, hkn, rfl, hS, HO, hLk⟩ := hrel
    by_cases hlt : k < n
    · have hkp : k < ps.length := by rw [← HN.out]; exact hlt
      have hkc := hlc _ (List.getElem_mem hkp)
      have hkk := hkeys _ (List.getElem_mem hkp)
      have hcu := hrows.cols _ (List.getElem_mem hkp)
      obtain ⟨b, o, rfl, hat⟩ := HGET.out k hkp
      have hsnoc : (ps.map (·.1)).take (k + 1) = (ps.map (·.1)).take k ++ [ps[k].1] := by
        rw [List.take_succ_eq_append_getElem (by simpa using hkp)]
        simp
      obtain ⟨M, hM⟩ : ∃ M, M = ps[k].1 := ⟨_, rfl⟩
      obtain ⟨au, cu, hu⟩ := hcu.shape
      rw [← hM] at hkc hcu hu hsnoc hat hkk
      rw [hu] at hcu hat
      have HSN : Hid (fullRs x ns pk pg ((ps.map (·.1)).take (k + 1)) = fullRs x ns pk pg ((ps.map (·.1)).take k) ++ (mirOf x ns pk pg M).toList) := by
        show _ = _
        rw [hsnoc, fullRs_snoc]
      clear hM hu hsnoc
      obtain ⟨m, hm⟩ : ∃ m, m = M.cols.length := ⟨_, rfl⟩
      rw [← hm] at hcu hat
      clear hm
      replace hcu := hcu.ext hS.ext
      have hn0 := hns.ext hS.ext
      obtain ⟨g0, g1, g2, g3, g4, g5, g6, g7⟩ := hat.ext hS.ext
      clear hat
      have y0 := hS.tab.allocs
      have y1 := hS.view.allocs
      have y2 := hS.part.allocs
      go_wp2_with fail
      refine (mirror_any s x u ns pk pg (.slice (some ⟨b, o, none⟩) n ca) M (.slice au m cu) _ (hcu.ext ((Ext.refl _).alloc _)) hkc (hn0.ext ((Ext.refl _).alloc _)) hk hkk.1 hkk.2).mono ?_
      rintro e w1 ⟨rv, rfl, qs, hqs, hqm, hE1⟩
      replace hE1 := ((Ext.refl wr).alloc (.cells (ro8 M (.slice au m cu)) 48)).trans hE1
      obtain ⟨ar, cr, rfl⟩ := hqs.shape
      obtain ⟨mr, hmr⟩ : ∃ mr, mr = mirOf x ns pk pg M := ⟨_, rfl⟩
      rw [← hmr] at HSN hqm ⊢
      clear hmr g0 g1 g2 g3 g4 g5 g6 g7 y0 y1 y2 hcu hn0
      cases mr with
      | none =>
        simp only [mirK, Option.isSome]
        go_wp2_with fail
        go_roundw
        case rel => exact ⟨k + 1, L, by omega, by go_num, hS.ext' (hE1.alloc _), by show _ = _; rw [HSN.out, Option.toList_none, List.append_nil]; exact HO.out, by omega⟩
        case measure => simp [intOf] <;> omega
      | some q =>
        simp only [mirK, Option.isSome]
        have hS1 := hS.ext' (hE1.alloc (.cells (pa3 q.1 0 (.slice ar qs.length cr)) 27))
        have hq1 := hqs.ext ((Ext.refl w1).alloc (.cells (pa3 q.1 0 (.slice ar qs.length cr)) 27))
        obtain ⟨ml, hml⟩ : ∃ ml, ml = qs.length := ⟨_, rfl⟩
        rw [← hml] at hS1 hq1 ⊢
        have HML := Lib.hid hml
        have HQM := Lib.hid hqm
        have hl1 := hS1.part.lt
        clear hml hqm hqs hS hE1
        go_wp2_with (at_builtin; go_must (refine appR info_Part und_Parts rfl (by decide) (w1.alloc (.cells (pa3 q.1 0 (.slice ar ml cr)) 27)) rfl (.tmp 28) (.tmp 30) rfl (w.heap.size + 3) (by omega) _ L.length (paCells L) hS1.own (by rfl) 1 _ (by rw [Deep.nblk_alloc]; rfl) (by rfl) (by simp [Value.oneCell']) (by unfold maxLen; omega) (by omega) ?_); intro m3 w3 hown3 hg3)
        have e3 : paCells L ++ [Value.string q.1, .int .i64 0, .slice ar ml cr] = paCells (L ++ [⟨q.1, 0, .slice ar ml cr, qs⟩]) := by rw [paCells_append]; rfl
        have E3 := Lib.hid e3
        clear e3
        go_roundw
        case rel =>
          refine ⟨k + 1, L ++ [⟨q.1, 0, .slice ar ml cr, qs⟩], by omega, by go_num, (hS1.ext' ((Ext.refl _).alloc _)).app hg3 (by rw [← E3.out]; exact hown3) (hq1.ext ((Ext.refl _).alloc _)), ?_, by simp; omega⟩
          show List.map Pa.data (L ++ [_]) = _
          rw [HSN.out, List.map_append, HO.out]
          unfold outQ
          rw [List.map_append]
          simp [Pa.data, HQM.out, mirR]
        case measure => simp [intOf] <;> omega
    · obtain rfl : k = n := by omega
      go_wp2_with fail
      go_ret
      refine ⟨_, rfl, L, ownsRow_base hS.own (by omega), hS.rows, ?_, hS.ext⟩
      rw [HO.out, HN.out, List.take_of_length_le (by simp)]
end Go.Proofs.Ytfagnbofnaoncaa

/- A list of one row in memory. -/
namespace Go.Proofs.Ytfagnbofnaoncaa
open Go Go.RowKit

theorem RowsT.at0 {y : World} {bm cm : Nat} {m : Ro} {vm : Value} (h : RowsT y (.slice (some ⟨bm, 0, none⟩) 1 cm) [(m, vm)]) : RoAt y bm 0 m vm := by
  obtain ⟨a, c, e, _, _, hg⟩ := h.rows.get
  cases e
  obtain ⟨b, o, e, hr⟩ := hg 0 (Nat.zero_lt_one)
  rcases h.tin with ⟨e', _⟩ | ⟨b', c', Z, e', _⟩
  · cases e'
  · cases e'
    cases e
    simpa using hr
theorem RowsT.single {y : World} {a : Option Addr} {n c : Nat} {ps : List (Ro × Value)} {m : Ro} (h : RowsT y (.slice a n c) ps) (hm : ps.map (·.1) = [m]) : ∃ vm bm, ps = [(m, vm)] ∧ a = some ⟨bm, 0, none⟩ ∧ n = 1 := by
  cases ps with
  | nil => cases hm
  | cons p l =>
    cases l with
    | cons q l => cases hm
    | nil =>
      obtain ⟨r, vm⟩ := p
      have e : r = m := by simpa using hm
      subst e
      rcases h.tin with ⟨e, h0, _⟩ | ⟨b, c', Z, e, _⟩
      · cases h0
      · cases e
        exact ⟨vm, b, rfl, rfl, rfl⟩
end Go.Proofs.Ytfagnbofnaoncaa

/- A region that draws its order: an operation that takes a part out of a tuple, and that the store of another part need not wait for, may be taken ahead of that store: the region with that edge more. -/
namespace Go.Proofs.Ytfagnbofnaoncaa
open Go

/-- Operation n waits for p, too. -/
def late (n p : Nat) (l : List Oper) : List Oper := l.modify n fun o => { o with after := o.after.push ⟨p, .data⟩ }
def isExt : Op → Bool
  | .extract .. => true
  | _ => false
/-- What is asked of p and n. -/
def lateB (ops : Array Oper) (n p : Nat) : Bool :=
  match ops[p]? with
  | none => false
  | some op => p != n && decide (n < ops.size) && isExt op.op && op.guard.isNone && Region.noSelect ops &&
      (op.after.all fun e => !Region.binds .any e || ancB ops ops.size n e.on) &&
      (List.range ops.size).all fun j => j == p || ancB ops ops.size p j || match ops[j]? with
        | some oj => oj.after.any (fun e => Region.binds .any e && e.on == p) || op.apart ops oj
        | none => true

section
variable {P : Program} {l : List Oper} {n p : Nat} {Q : Exit → Act → World → Prop} {listed : Array Bool}
theorem late_ne {j : Nat} (h : j ≠ n) : (late n p l).toArray[j]? = l.toArray[j]? := by
  simp only [late, List.getElem?_toArray, List.getElem?_modify]
  cases l[j]? with
  | none => rfl
  | some o => simp; exact fun e => absurd e.symm h
theorem late_at {o : Oper} (ho : l.toArray[n]? = some o) : (late n p l).toArray[n]? = some { o with after := o.after.push ⟨p, .data⟩ } := by
  simp only [List.getElem?_toArray] at ho
  simp only [late, List.getElem?_toArray, List.getElem?_modify, ho, if_true]
  rfl
theorem late_none (ho : l.toArray[n]? = none) : (late n p l).toArray[n]? = none := by
  simp only [List.getElem?_toArray] at ho
  simp only [late, List.getElem?_toArray, List.getElem?_modify, ho]
  rfl
theorem late_dst (j : Nat) : ((late n p l).toArray[j]?).bind (·.dst) = (l.toArray[j]?).bind (·.dst) := by
  by_cases h : j = n
  · subst h
    cases ho : l.toArray[j]? with
    | none => rw [late_none ho]
    | some o => rw [late_at ho]; rfl
  · rw [late_ne h]
theorem late_yielded : yielded (late n p l).toArray = yielded l.toArray := by
  funext tmps j
  unfold yielded
  rw [late_dst]
theorem ready_ne {j : Nat} (h : j ≠ n) : j ∈ Region.ready .any (late n p l).toArray listed ↔ j ∈ Region.ready .any l.toArray listed := by
  rw [mem_ready, mem_ready, late_ne h]
theorem ready_late (hp : listed.getD p false = true) (h : n ∈ Region.ready .any l.toArray listed) : n ∈ Region.ready .any (late n p l).toArray listed := by
  rw [mem_ready] at h ⊢
  obtain ⟨h0, o, ho, hall⟩ := h
  refine ⟨h0, _, late_at ho, fun e he hb => ?_⟩
  rcases Array.mem_push.1 he with he | rfl
  · exact hall e he hb
  · exact hp
theorem wpOp_late {i : Nat} {K : Act → World → Prop} {a : Act} {w : World} (h : wpOp P (late n p l).toArray Q i K a w) : wpOp P l.toArray Q i K a w := by
  unfold wpOp at h ⊢
  rw [late_yielded] at h
  by_cases hi : i = n
  · subst hi
    cases ho : l.toArray[i]? with
    | none => rw [late_none ho] at h; exact h
    | some o => rw [late_at ho] at h; exact h
  · rw [late_ne hi] at h
    exact h
theorem ext_run {x : Operand} {k : Nat} {o : Oper} (ho : o.op = .extract x k) {a : Act} {w : World} {K : Act → World → Prop} (h : o.wp P a w K Q ∨ (o.asks P a w ∧ LetsOut Q)) : ∃ v, (∀ w', (execOp a.eval o).run P w' = .ok (.value v) w') ∧ K (a.put o.dst v) w := by
  have he : execOp a.eval o = (do pure (Next.value (← Instr.extract (a.eval x) k))) := by unfold execOp; rw [ho]
  have key : (∃ v, Instr.extract (a.eval x) k = pure v) ∨ ∃ m, Instr.extract (a.eval x) k = stuck m := by
    unfold Instr.extract
    split
    · split
      · exact .inl ⟨_, rfl⟩
      · exact .inr ⟨_, rfl⟩
    · exact .inr ⟨_, rfl⟩
  have ev : ((execOp a.eval o).runT P w #[]).2 = #[] := by
    rw [he]
    rcases key with ⟨v, e⟩ | ⟨m, e⟩ <;> rw [e] <;> rfl
  have h : o.wp P a w K Q := by
    rcases h with h | ⟨h, _⟩
    · exact h
    · have h := h.1
      rw [ev] at h
      simp at h
  rcases key with ⟨v, e⟩ | ⟨m, e⟩
  · have hr : ∀ w', (execOp a.eval o).run P w' = .ok (.value v) w' := by
      intro w'
      rw [he, e]
      rfl
    refine ⟨v, hr, ?_⟩
    unfold Oper.wp at h
    rw [hr] at h
    exact h
  · exfalso
    have hr : (execOp a.eval o).run P w = .halt (.stuck m) w := by
      rw [he, e]
      rfl
    unfold Oper.wp at h
    rw [hr] at h
    exact h

structure LateOK (ops : Array Oper) (n p : Nat) (op : Oper) : Prop where
  get : ops[p]? = some op
  ne : p ≠ n
  ext : ∃ x k, op.op = .extract x k
  plain : op.guard = none
  sel : Region.noSelect ops = true
  anc : ∀ e ∈ op.after, Region.binds .any e = true → ancB ops ops.size n e.on = true
  free : ∀ j oj, ops[j]? = some oj → j ≠ p → ancB ops ops.size p j = false → (∀ e ∈ oj.after, Region.binds .any e = true → e.on ≠ p) → op.apart ops oj = true
theorem lateOK {ops : Array Oper} (h : lateB ops n p = true) : ∃ op, LateOK ops n p op := by
  unfold lateB at h
  cases hp : ops[p]? with
  | none => rw [hp] at h; cases h
  | some op =>
    rw [hp] at h
    simp only [Bool.and_eq_true, bne_iff_ne, decide_eq_true_eq, Array.all_eq_true', Bool.or_eq_true, Bool.not_eq_true', List.all_eq_true, List.mem_range, beq_iff_eq] at h
    obtain ⟨⟨⟨⟨⟨⟨h1, h2⟩, h3⟩, h4⟩, h5⟩, h6⟩, h7⟩ := h
    refine ⟨op, hp, h1, ?_, ?_, h5, fun e he hb => ?_, fun j oj hj hne hna hno => ?_⟩
    · unfold isExt at h3
      split at h3
      · exact ⟨_, _, by assumption⟩
      · cases h3
    · simpa using h4
    · rcases h6 e he with h | h
      · rw [hb] at h; cases h
      · exact h
    · have h8 := h7 j (Array.getElem?_eq_some_iff.1 hj).1
      rw [hj] at h8
      simp only [Bool.or_eq_true] at h8
      rcases h8 with (h8 | h8) | h8 | h8
      · exact absurd h8 hne
      · rw [hna] at h8; cases h8
      · obtain ⟨e, he, hb⟩ := Array.any_eq_true'.1 h8
        simp only [Bool.and_eq_true, beq_iff_eq] at hb
        exact absurd hb.2 (hno e he hb.1)
      · exact h8
theorem getD_down {j : Nat} (h : listed.getD j false = true) : listed.getD j true = true := by
  rcases Nat.lt_or_ge j listed.size with h' | h'
  · simp [h'] at h ⊢; exact h
  · simp [Array.getElem?_eq_none h'] at h
/-- When n may come up, p may, if it has not. -/
theorem late_ready {op : Oper} (hL : LateOK l.toArray n p op) (hd : Down l.toArray listed) (hsz : listed.size = l.toArray.size) (hn : n ∈ Region.ready .any l.toArray listed) (hp : listed.getD p false = false) : p ∈ Region.ready .any l.toArray listed := by
  obtain ⟨_, o, ho, hall⟩ := mem_ready.1 hn
  refine mem_ready.2 ⟨?_, op, hL.get, fun e he hb => anc_listed hd _ n e.on o ho hall (hL.anc e he hb)⟩
  have hlt : p < listed.size := by rw [hsz]; exact (Array.getElem?_eq_some_iff.1 hL.get).1
  simp [hlt] at hp ⊢
  exact hp
theorem wpAny_late {op : Oper} (hL : LateOK l.toArray n p op) (hQ : ∀ c a d v w, Q (.panic c) (Act.put a d v) w → Q (.panic c) a w) : ∀ (fuel : Nat) (listed : Array Bool) (a : Act) (w : World), Down l.toArray listed → listed.size = l.toArray.size →
    wpAny P .any (late n p l).toArray Q fuel listed a w → wpAny P .any l.toArray Q fuel listed a w := by
  intro fuel
  have none_of : ∀ {listed : Array Bool}, Down l.toArray listed → listed.size = l.toArray.size → Region.ready .any (late n p l).toArray listed = [] → Region.ready .any l.toArray listed = [] := by
    intro listed hd hsz h0
    refine List.eq_nil_iff_forall_not_mem.2 fun j hj => ?_
    have key : ∀ j, j ∈ Region.ready .any (late n p l).toArray listed → False := fun j hj => by rw [h0] at hj; cases hj
    by_cases hjn : j = n
    · subst hjn
      cases hp : listed.getD p false with
      | true => exact key _ (ready_late hp hj)
      | false => exact key _ ((ready_ne hL.ne).2 (late_ready hL hd hsz hj hp))
    · exact key _ ((ready_ne hjn).2 hj)
  induction fuel with
  | zero => exact fun listed a w hd hsz h => ⟨none_of hd hsz h.1, h.2⟩
  | succ fuel ih =>
    intro listed a w hd hsz h
    by_cases hc : n ∈ Region.ready .any l.toArray listed ∧ listed.getD p false = false
    · obtain ⟨hn, hp⟩ := hc
      have hr := late_ready hL hd hsz hn hp
      have h1 := wpOp_late (h.2 p ((ready_ne hL.ne).2 hr))
      obtain ⟨x, k, hx⟩ := hL.ext
      have hw : Region.wanted op (yielded l.toArray a.tmps) = true := by unfold Region.wanted; rw [hL.plain]
      unfold wpOp at h1
      simp only [hL.get, hw, if_true] at h1
      obtain ⟨v, hv, hK⟩ := ext_run hx h1
      refine wpAny_first hL.get (Region.noSelect_spec hL.sel) (fun c a w h => hQ c a _ v w h) fuel listed a w (fun j oj hj hne hun hno => hL.free j oj hj hne ?_ hno) hr (.inl ⟨hw, hv⟩) (ih _ _ _ (hd.set hr) (by simpa using hsz) hK)
      cases ha : ancB l.toArray l.toArray.size p j with
      | false => rfl
      | true =>
        obtain ⟨_, o', ho', hall⟩ := mem_ready.1 hr
        rw [hL.get] at ho'
        cases ho'
        have := getD_down (anc_listed hd _ p j op hL.get hall ha)
        rw [this] at hun
        cases hun
    · refine ⟨fun h0 => h.1 ?_, fun i hi => ?_⟩
      · refine List.eq_nil_iff_forall_not_mem.2 fun j hj => ?_
        have : j ∈ Region.ready .any l.toArray listed := by
          by_cases hjn : j = n
          · subst hjn
            obtain ⟨g0, o', ho', hall⟩ := mem_ready.1 hj
            cases ho : l.toArray[j]? with
            | none => rw [late_none ho] at ho'; cases ho'
            | some o =>
              rw [late_at ho] at ho'
              cases ho'
              exact mem_ready.2 ⟨g0, o, ho, fun e he hb => hall e (Array.mem_push.2 (.inl he)) hb⟩
          · exact (ready_ne hjn).1 hj
        rw [h0] at this
        cases this
      · have hi' : i ∈ Region.ready .any (late n p l).toArray listed := by
          by_cases hin : i = n
          · subst hin
            refine ready_late ?_ hi
            cases hp : listed.getD p false with
            | true => rfl
            | false => exact absurd ⟨hi, hp⟩ hc
          · exact (ready_ne hin).2 hi
        exact wpOp_mono (fun a' w' h' => ih _ a' w' (hd.set hi) (by simpa using hsz) h') (wpOp_late (h.2 i hi'))
/-- The region with that edge more. -/
theorem wp_region_late {id : Nat} {a : Act} {w : World} (n p : Nat) (hm : P.follows .mixedOrders = true) (hB : lateB l.toArray n p = true) (hQ : ∀ c a d v w, Q (.panic c) (Act.put a d v) w → Q (.panic c) a w)
    (h : wpAny P .any (late n p l).toArray Q l.length (Array.replicate l.length false) a w.drew) : (Code.region id l.toArray true).wp P Q a w := by
  obtain ⟨op, hL⟩ := lateOK hB
  refine wp_region_any hm ?_
  refine wpAny_late hL hQ _ _ _ _ ?_ (by simp) (by simpa using h)
  intro k o _ hk
  simp only [Array.getD, Array.size_replicate] at hk
  split at hk
  · simp at hk
  · cases hk
/-- Such a region by the walk in the order of the text; memory only grows ahead of its last operations. -/
theorem wp_region_late_in {id : Nat} {a : Act} {w : World} (n p m : Nat) (L : Tab) (hm : P.follows .mixedOrders = true) (hL : lateB l.toArray n p = true) (hn : tailB (late n p l).toArray m = true) (hB : Region.lexB .any (late n p l).toArray = true)
    (hQ : ∀ c a d v w, Q (.panic c) (Act.put a d v) w → Q (.panic c) a w) (hT : TabOK L)
    (h : wpRel P (late n p l).toArray (Ext w) Ext L.at m Q (late n p l) 0 a Facts.top) : (Code.region id l.toArray true).wp P Q a w := by
  refine wp_region_late n p hm hL hQ ?_
  have hlen : l.length = (late n p l).length := by simp [late]
  rw [hlen]
  simp only [Region.lexB, Bool.and_eq_true] at hB
  have hG : ∀ (j : Nat) (w w' : World), Ext w w' → Facts.top j w → Facts.top j w' := fun _ _ _ _ h => h
  have hd : Down (late n p l).toArray (Array.replicate (late n p l).length false) := by
    intro k o _ hk
    simp only [Array.getD, Array.size_replicate] at hk
    split at hk
    · simp at hk
    · cases hk
  refine wpAny_of_R (C := Ext w) (E := Ext) (T := L.at) (n := m) (Tab.stays hT) hn _ _ _ Facts.top _ hd (by simp) hG (Ext.refl w).drew (fun _ => trivial) ?_
  have := wpAnyR_lex (C := Ext w) (Tab.stays hT) hn hB.1 (late n p l) 0 (Array.replicate (late n p l).length false) a Facts.top hd hG ⟨_, (Ext.refl w).drew, fun _ => trivial⟩ (by simp) (by simpa using hB.2) h
  simpa using this
end
end Go.Proofs.Ytfagnbofnaoncaa
