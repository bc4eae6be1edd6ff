/- ProjectMirrors: the plain law: what is seen of a mirror is what the view has of the row. -/
import Derived.Test.YteamiiekpjoclaaM10
import Derived.Test.YteamiiekpjoclaaM13
import Derived.Test.YteamiiekpjoclaaM9
import Derived.Test.YteamiiekpjoclaaM3
namespace Go.Proofs.Yteamiiekpjoclaa
open Go Go.RowKit

/-- What a view has of a row at a time. -/
def ofSeen (x : Vw) (ns : List ByteArray) (pk : ByteArray) (pg now : Int) (r : Ro) : Option (ByteArray × Ro) :=
  if bestB (cellOf r.cols x.on) (max r.gone pg) then if seenB false (cellOf r.cols x.on).at_ (cellOf r.cols x.on).fin now then some ((cellOf r.cols x.on).val, ⟨vkey pk r.key, ⟨⟨#[]⟩, false, (cellOf r.cols x.on).at_, (cellOf r.cols x.on).fin⟩, 0, 0, (seenCos r.cols (max r.gone pg) now).filter (keeps ns)⟩) else none else none
/-- What a view has of rows at a time. -/
def viewRs (x : Vw) (ns : List ByteArray) (pk : ByteArray) (pg now : Int) (l : List Ro) : List (ByteArray × Ro) := l.filterMap (ofSeen x ns pk pg now)
/-- All mirrors of rows. -/
def fullRs (x : Vw) (ns : List ByteArray) (pk : ByteArray) (pg : Int) (l : List Ro) : List (ByteArray × Ro) := l.filterMap (mirOf x ns pk pg)
/-- Partitions of one row each. -/
def outQ (l : List (ByteArray × Ro)) : List (ByteArray × Int × List Ro) := l.map fun p => (p.1, 0, [p.2])
/-- What is seen of a mirror. -/
def selP (now : Int) (p : ByteArray × Ro) : Option (ByteArray × Ro) := if isB p.2 (max p.2.gone 0) now true then some (p.1, seenRo p.2 0 now) else none
theorem viewRs_snoc (x : Vw) (ns : List ByteArray) (pk : ByteArray) (pg now : Int) (l : List Ro) (r : Ro) : viewRs x ns pk pg now (l ++ [r]) = viewRs x ns pk pg now l ++ (ofSeen x ns pk pg now r).toList := by
  unfold viewRs
  rw [List.filterMap_append]
  cases h : ofSeen x ns pk pg now r <;> simp [h]
theorem fullRs_snoc (x : Vw) (ns : List ByteArray) (pk : ByteArray) (pg : Int) (l : List Ro) (r : Ro) : fullRs x ns pk pg (l ++ [r]) = fullRs x ns pk pg l ++ (mirOf x ns pk pg r).toList := by
  unfold fullRs
  rw [List.filterMap_append]
  cases h : mirOf x ns pk pg r <;> simp [h]
theorem seenCo_max (c : Co) (g now : Int) : seenCo c (max g 0) now = seenCo c g now := by
  unfold seenCo seenB
  by_cases h : 0 < c.cell.at_
  · rw [show decide (max g 0 < c.cell.at_) = decide (g < c.cell.at_) from decide_eq_decide.2 (by omega)]
  · rw [show decide (0 < c.cell.at_) = false by simpa using h]
    simp
theorem seenCos_max (l : List Co) (g now : Int) : seenCos l (max g 0) now = seenCos l g now := by
  unfold seenCos
  congr 1
  funext c
  exact seenCo_max c g now
theorem seenCos_keeps (l : List Co) (ns : List ByteArray) (g now : Int) : seenCos (l.filter (keeps ns)) g now = (seenCos l g now).filter (keeps ns) := by
  unfold seenCos
  rw [List.filter_filter, List.filter_filter]
  congr 1
  funext c
  exact Bool.and_comm ..
theorem bestB_at {c : Cl} {g : Int} (h : bestB c g = true) : c.dead = false ∧ 1 ≤ c.at_ ∧ g < c.at_ := by
  unfold bestB at h
  simp only [Bool.not_eq_true', Bool.or_eq_false_iff, decide_eq_false_iff_not] at h
  exact ⟨h.1.1, by omega, by omega⟩
theorem sel_mir (x : Vw) (ns : List ByteArray) (pk : ByteArray) (pg now : Int) (r : Ro) : (mirOf x ns pk pg r).bind (selP now) = ofSeen x ns pk pg now r := by
  unfold mirOf ofSeen
  cases hb : bestB (cellOf r.cols x.on) (max r.gone pg) with
  | false => rfl
  | true =>
    obtain ⟨_, h1, h2⟩ := bestB_at hb
    rw [if_pos rfl, if_pos rfl]
    show selP now _ = _
    unfold selP isB liveB
    simp only
    rw [show decide (max (max r.gone pg) 0 < (cellOf r.cols x.on).at_) = true by simp; omega, show decide (0 < (cellOf r.cols x.on).at_) = true by simp; omega]
    cases hs : seenB false (cellOf r.cols x.on).at_ (cellOf r.cols x.on).fin now with
    | false => rfl
    | true =>
      rw [if_pos rfl, if_pos (by rfl)]
      unfold seenRo
      simp only
      rw [seenCos_keeps, seenCos_max]
theorem view_full (x : Vw) (ns : List ByteArray) (pk : ByteArray) (pg now : Int) (l : List Ro) : (fullRs x ns pk pg l).filterMap (selP now) = viewRs x ns pk pg now l := by
  unfold fullRs viewRs
  rw [List.filterMap_filterMap]
  congr 1
  funext r
  exact sel_mir x ns pk pg now r
section
variable {α β : Type} {f : α → Option β} {F : List α} {i : Nat}
theorem fm_next (hi : i < F.length) : (F.take (i + 1)).filterMap f = (F.take i).filterMap f ++ (f F[i]).toList := by
  rw [List.take_succ_eq_append_getElem hi, List.filterMap_append]
  congr 1
theorem fm_hit (hi : i < F.length) {q : β} (h : f F[i] = some q) : (F.filterMap f)[((F.take i).filterMap f).length]? = some q := by
  have e : F = F.take i ++ F[i] :: F.drop (i + 1) := by rw [← List.drop_eq_getElem_cons hi, List.take_append_drop]
  have e2 : F.filterMap f = (F.take i).filterMap f ++ q :: (F.drop (i + 1)).filterMap f := by
    conv => lhs; rw [e]
    rw [List.filterMap_append, List.filterMap_cons_some h]
  rw [e2, List.getElem?_append_right (Nat.le_refl _)]
  simp
theorem fm_le : ((F.take i).filterMap f).length ≤ (F.filterMap f).length := by
  conv => rhs; rw [← List.take_append_drop i F, List.filterMap_append, List.length_append]
  omega
end
end Go.Proofs.Yteamiiekpjoclaa

/- Lists of partitions in memory, in blocks of their own type. -/
namespace Go.Proofs.Yteamiiekpjoclaa
open Go Go.RowKit

/-- A partition with the value of its rows. -/
structure Pa where
  key : ByteArray
  gone : Int
  rv : Value
  ps : List (Ro × Value)
/-- What it is, whatever its memory. -/
def Pa.data (p : Pa) : ByteArray × Int × List Ro := (p.key, p.gone, p.ps.map (·.1))
theorem info_Part : (Try.prog.info? 39).map (fun i => (i.zero, i.size, i.bytes)) = some (some (.agg #[.string ⟨#[]⟩, .int .i64 0, .slice none 0 0]), 3, 48) := by kernel_rfl
theorem und_Parts : Try.prog.underlying 35 = some (.slice 39) := by kernel_rfl
def paCells : List Pa → List Value
  | [] => []
  | p :: l => .string p.key :: .int .i64 p.gone :: p.rv :: paCells l
theorem paCells_length (l : List Pa) : (paCells l).length = l.length * 3 := by
  induction l with
  | nil => rfl
  | cons c l ih => simp [paCells, ih]; omega
theorem paCells_append (l m : List Pa) : paCells (l ++ m) = paCells l ++ paCells m := by
  induction l with
  | nil => rfl
  | cons c l ih => simp [paCells, ih]
theorem paCells_get : ∀ (l : List Pa) (k : Nat) (h : k < l.length), (paCells l)[k * 3]? = some (.string l[k].key) ∧ (paCells l)[k * 3 + 1]? = some (.int .i64 l[k].gone) ∧ (paCells l)[k * 3 + 2]? = some l[k].rv
  | c :: l, 0, _ => by simp [paCells]
  | c :: l, k + 1, h => by
    have ih := paCells_get l k (by simpa using h)
    have e : (k + 1) * 3 = k * 3 + 3 := by omega
    simp only [e, paCells, List.getElem_cons_succ]
    simpa using ih
structure PartsT (x : World) (v : Value) (L : List Pa) : Prop where
  tin : TIn x 39 v L.length (paCells L)
  rows : ∀ p ∈ L, RowsT x p.rv p.ps
theorem PartsT.ext {x y : World} (hE : Ext x y) {v : Value} {L : List Pa} (h : PartsT x v L) : PartsT y v L := ⟨h.tin.ext hE, fun p hp => (h.rows p hp).ext hE⟩
/-- A partition at a place in memory. -/
structure PaAt (w : World) (b o : Nat) (p : Pa) : Prop where
  c0 : w.cell? ⟨b, o, none⟩ = some (.string p.key)
  c1 : w.cell? ⟨b, o + 1, none⟩ = some (.int .i64 p.gone)
  c2 : w.cell? ⟨b, o + 2, none⟩ = some p.rv
theorem PaAt.ext {w w' : World} (hE : Ext w w') {b o : Nat} {p : Pa} (h : PaAt w b o p) : PaAt w' b o p := ⟨hE.cell h.c0, hE.cell h.c1, hE.cell h.c2⟩
theorem PartsT.get {w : World} {v : Value} {L : List Pa} (h : PartsT w v L) : ∃ a c, v = .slice a L.length c ∧ L.length ≤ c ∧ c ≤ 9223372036854775807 ∧ ∀ k (hk : k < L.length), ∃ b, a = some ⟨b, 0, none⟩ ∧ PaAt w b (k * 3) L[k] := by
  rcases h.tin with ⟨rfl, hn, _⟩ | ⟨b, c, Z, rfl, hb, hn, hc, hx⟩
  · exact ⟨none, 0, by rw [hn], by omega, by omega, fun k hk => by omega⟩
  · unfold maxLen at hc
    refine ⟨_, c, rfl, hn, by omega, fun k hk => ⟨b, rfl, ?_⟩⟩
    obtain ⟨g0, g1, g2⟩ := paCells_get L k hk
    exact ⟨(hb.cell _).trans (hx _ _ g0), (hb.cell _).trans (hx _ _ g1), (hb.cell _).trans (hx _ _ g2)⟩

/-- Operation n appends to a list of partitions of one's own; the others let memory grow. -/
def PE (vl : Value) (B n j : Nat) (x y : World) : Prop := if j = n then (∃ m xs, x.ownsRow B 39 3 vl m xs) ∧ x.grownBy y vl.ownBlock else Ext x y
theorem PE_ext {vl : Value} {B n j : Nat} {x y : World} (hj : j ≠ n) (h : Ext x y) : PE vl B n j x y := by unfold PE; rw [if_neg hj]; exact h
theorem PE_off {vl : Value} {B n j : Nat} {x y : World} (hj : j ≠ n) (h : PE vl B n j x y) : Ext x y := by unfold PE at h; rwa [if_neg hj] at h
theorem PE_tin {vl : Value} {B n j : Nat} {x y : World} (h : PE vl B n j x y) {e : TypeId} (he : e ≠ 39) {v : Value} {m : Nat} {xs : List Value} (ht : TIn x e v m xs) : TIn y e v m xs := by
  unfold PE at h
  split at h
  · obtain ⟨⟨m, xs, hown⟩, hg⟩ := h
    exact ht.keepOwn hown hg he
  · exact ht.ext h
theorem PE_rows {vl : Value} {B n j : Nat} {x y : World} (h : PE vl B n j x y) {v : Value} {qs : List (Ro × Value)} (hr : RowsT x v qs) : RowsT y v qs :=
  ⟨PE_tin h (by decide) hr.tin, fun p hp => PE_tin h (by decide) (hr.typed p hp)⟩
theorem PE_box {vl : Value} {B n j : Nat} {x y : World} (h : PE vl B n j x y) {b : Nat} {cs : Array Value} {T : TypeId} (hT : T ≠ 39) (hb : BoxAt x b cs T) : BoxAt y b cs T := by
  unfold PE at h
  split at h
  · obtain ⟨⟨m, xs, hown⟩, hg⟩ := h
    refine hb.grown hg (fun e => ?_)
    rcases own_ne_box hown hb (fun e => hT e.symm) with h | h
    · rw [h] at e; cases e
    · exact h e.symm
  · exact hb.ext h
theorem PE_far {wr : World} {vl : Value} {B n j m : Nat} {xs : List Value} (hown : wr.ownsRow B 39 3 vl m xs) {x y : World} (h : PE vl B n j x y) {b : Nat} (hb : wr.heap.size ≤ b) {cs : Array Value} {e : TypeId} (hx : BoxAt x b cs e) : BoxAt y b cs e := by
  unfold PE at h
  split at h
  · exact hx.grown h.2 (fun e => by have := (hown.lt _ e.symm).2; omega)
  · exact hx.ext h
end Go.Proofs.Yteamiiekpjoclaa

/- project.Full of any rows. -/
namespace Go.Proofs.Yteamiiekpjoclaa
open Go Go.RowKit
attribute [local go_sem] yields yUpon ro8 pa3 vw5 cl4 tabV

/-- What stays true from round to round. -/
structure FS (w : World) (s : Value) (x : Vw) (u : Value) (pk : ByteArray) (pg : Int) (pu : Value) (vl : Value) (L : List Pa) (y : World) : Prop where
  ext : Ext w y
  tab : BoxAt y w.heap.size #[.string ⟨#[116]⟩, .int .i64 1, .string ⟨#[112]⟩, .int .i64 1, .string ⟨#[107]⟩, .int .i64 2, s] 28
  view : BoxAt y (w.heap.size + 1) (vw5 x u) 31
  part : BoxAt y (w.heap.size + 1 + 1) (pa3 pk pg pu) 39
  own : y.ownsRow (w.heap.size + 3) 39 3 vl L.length (paCells L)
  rows : ∀ p ∈ L, RowsT y p.rv p.ps
section
variable {w : World} {s : Value} {x : Vw} {u : Value} {pk : ByteArray} {pg : Int} {pu : Value} {vl : Value} {L : List Pa}
theorem FS.ext' {y z : World} (hE : Ext y z) (h : FS w s x u pk pg pu vl L y) : FS w s x u pk pg pu vl L z :=
  ⟨h.ext.trans hE, h.tab.ext hE, h.view.ext hE, h.part.ext hE, ownsRow_ext h.own hE, fun p hp => (h.rows p hp).ext hE⟩
theorem FS.app {y z : World} {v' : Value} {P : Pa} (h : FS w s x u pk pg pu vl L y) (hg : y.grownBy z vl.ownBlock) (hown : z.ownsRow (w.heap.size + 3) 39 3 v' (L.length + 1) (paCells (L ++ [P]))) (hP : RowsT y P.rv P.ps) : FS w s x u pk pg pu v' (L ++ [P]) z := by
  have ne : ∀ b, b < w.heap.size + 3 → some b ≠ vl.ownBlock := fun b hb e => by have := (h.own.lt _ e.symm).1; omega
  refine ⟨h.ext.grown hg (fun q hq => by have := (h.own.lt q hq).1; omega), h.tab.grown hg (ne _ (by omega)), h.view.grown hg (ne _ (by omega)), h.part.grown hg (ne _ (by omega)), by rw [List.length_append]; exact hown, ?_⟩
  intro p hp
  rcases List.mem_append.1 hp with hp | hp
  · exact (h.rows p hp).keepOwn h.own hg (by decide) (by decide)
  · rw [List.mem_singleton.1 hp]
    exact hP.keepOwn h.own hg (by decide) (by decide)
end

set_option maxRecDepth 100000 in
set_option maxHeartbeats 8000000 in
theorem full_any (s : Value) (x : Vw) (u : Value) (ns : List ByteArray) (pk : ByteArray) (pg : Int) (pu : Value) (ps : List (Ro × Value)) (w : World) (hrows : RowsIn w pu ps) (hlen : ps.length ≤ 1000000) (hlc : ∀ p ∈ ps, p.1.cols.length ≤ 1000000) (hns : StrsIn w u ns)
    (hk : pk.size ≤ 10000000) (hkeys : ∀ p ∈ ps, p.1.key.size ≤ 10000000 ∧ (vkey pk p.1.key).size ≤ 400) :
    Calls Try.prog 35 #[tabV s, .agg #[.string x.name, .int .i64 x.id, .string x.table, .string x.on, u], .agg #[.string pk, .int .i64 pg, pu]] w fun e w' => ∃ v', e = .returned v' ∧ ∃ L : List Pa,
      w'.ownsRow w.heap.size 39 3 v' L.length (paCells L) ∧ (∀ p ∈ L, RowsT w' p.rv p.ps) ∧ L.map Pa.data = outQ (fullRs x ns pk pg (ps.map (·.1))) ∧ Ext w w' := by
  obtain ⟨aa, ca, rfl, hca, hcma, hget⟩ := hrows.get
  obtain ⟨n, hn⟩ : ∃ n, n = ps.length := ⟨_, rfl⟩
  rw [← hn] at hlen hca ⊢
  obtain ⟨a0, a1, a2, hE⟩ := boxes3 w #[.string ⟨#[116]⟩, .int .i64 1, .string ⟨#[112]⟩, .int .i64 1, .string ⟨#[107]⟩, .int .i64 2, s] (vw5 x u) (pa3 pk pg (.slice aa n ca)) 28 31 39
  have HN := Lib.hid hn
  have HGET := Lib.hid hget
  clear hn hget
  unfold tabV
  go_enter Try.func35, Try.ntmps35
  go_wp2
  go_loopw [7, 15] (fun m i wr => ∃ (k : Nat) (L : List Pa), k ≤ n ∧ i = .int .i64 k ∧ FS w s x u pk pg (.slice aa n ca) m L wr ∧ Hid (L.map Pa.data = outQ (fullRs x ns pk pg ((ps.map (·.1)).take k))) ∧ L.length ≤ k) (fun _ i _ => n - (intOf i).toNat)
  case atStart => exact ⟨0, [], Nat.zero_le _, rfl, ⟨hE, a0, a1, a2, World.ownsRow_nil _ _ _ _, nofun⟩, rfl, by simp⟩
  case round =>
    obtain ⟨k, L, hkn, rfl, hS, HO, hLk⟩ := hrel
    by_cases hlt : k < n
    · have hkp : k < ps.length := by rw [← HN.out]; exact hlt
      have hkc := hlc _ (List.getElem_mem hkp)
      have hkk := hkeys _ (List.getElem_mem hkp)
      have hcu := hrows.cols _ (List.getElem_mem hkp)
      obtain ⟨b, o, rfl, hat⟩ := HGET.out k hkp
      have hsnoc : (ps.map (·.1)).take (k + 1) = (ps.map (·.1)).take k ++ [ps[k].1] := by
        rw [List.take_succ_eq_append_getElem (by simpa using hkp)]
        simp
      obtain ⟨M, hM⟩ : ∃ M, M = ps[k].1 := ⟨_, rfl⟩
      obtain ⟨au, cu, hu⟩ := hcu.shape
      rw [← hM] at hkc hcu hu hsnoc hat hkk
      rw [hu] at hcu hat
      have HSN : Hid (fullRs x ns pk pg ((ps.map (·.1)).take (k + 1)) = fullRs x ns pk pg ((ps.map (·.1)).take k) ++ (mirOf x ns pk pg M).toList) := by
        show _ = _
        rw [hsnoc, fullRs_snoc]
      clear hM hu hsnoc
      obtain ⟨m, hm⟩ : ∃ m, m = M.cols.length := ⟨_, rfl⟩
      rw [← hm] at hcu hat
      clear hm
      replace hcu := hcu.ext hS.ext
      have hn0 := hns.ext hS.ext
      obtain ⟨g0, g1, g2, g3, g4, g5, g6, g7⟩ := hat.ext hS.ext
      clear hat
      have y0 := hS.tab.allocs
      have y1 := hS.view.allocs
      have y2 := hS.part.allocs
      go_wp2_with fail
      refine (mirror_any s x u ns pk pg (.slice (some ⟨b, o, none⟩) n ca) M (.slice au m cu) _ (hcu.ext ((Ext.refl _).alloc _)) hkc (hn0.ext ((Ext.refl _).alloc _)) hk hkk.1 hkk.2).mono ?_
      rintro e w1 ⟨rv, rfl, qs, hqs, hqm, hE1⟩
      replace hE1 := ((Ext.refl wr).alloc (.cells (ro8 M (.slice au m cu)) 55)).trans hE1
      obtain ⟨ar, cr, rfl⟩ := hqs.shape
      obtain ⟨mr, hmr⟩ : ∃ mr, mr = mirOf x ns pk pg M := ⟨_, rfl⟩
      rw [← hmr] at HSN hqm ⊢
      clear hmr g0 g1 g2 g3 g4 g5 g6 g7 y0 y1 y2 hcu hn0
      cases mr with
      | none =>
        simp only [mirK, Option.isSome]
        go_wp2_with fail
        go_roundw
        case rel => exact ⟨k + 1, L, by omega, by go_num, hS.ext' (hE1.alloc _), by show _ = _; rw [HSN.out, Option.toList_none, List.append_nil]; exact HO.out, by omega⟩
        case measure => simp [intOf] <;> omega
      | some q =>
        simp only [mirK, Option.isSome]
        have hS1 := hS.ext' (hE1.alloc (.cells (pa3 q.1 0 (.slice ar qs.length cr)) 39))
        have hq1 := hqs.ext ((Ext.refl w1).alloc (.cells (pa3 q.1 0 (.slice ar qs.length cr)) 39))
        obtain ⟨ml, hml⟩ : ∃ ml, ml = qs.length := ⟨_, rfl⟩
        rw [← hml] at hS1 hq1 ⊢
        have HML := Lib.hid hml
        have HQM := Lib.hid hqm
        have hl1 := hS1.part.lt
        clear hml hqm hqs hS hE1
        go_wp2_with (at_builtin; go_must (refine appR info_Part und_Parts rfl (by decide) (w1.alloc (.cells (pa3 q.1 0 (.slice ar ml cr)) 39)) rfl (.tmp 28) (.tmp 30) rfl (w.heap.size + 3) (by omega) _ L.length (paCells L) hS1.own (by rfl) 1 _ (by rw [Deep.nblk_alloc]; rfl) (by rfl) (by simp [Value.oneCell']) (by unfold maxLen; omega) (by omega) ?_); intro m3 w3 hown3 hg3)
        have e3 : paCells L ++ [Value.string q.1, .int .i64 0, .slice ar ml cr] = paCells (L ++ [⟨q.1, 0, .slice ar ml cr, qs⟩]) := by rw [paCells_append]; rfl
        have E3 := Lib.hid e3
        clear e3
        go_roundw
        case rel =>
          refine ⟨k + 1, L ++ [⟨q.1, 0, .slice ar ml cr, qs⟩], by omega, by go_num, (hS1.ext' ((Ext.refl _).alloc _)).app hg3 (by rw [← E3.out]; exact hown3) (hq1.ext ((Ext.refl _).alloc _)), ?_, by simp; omega⟩
          show List.map Pa.data (L ++ [_]) = _
          rw [HSN.out, List.map_append, HO.out]
          unfold outQ
          rw [List.map_append]
          simp [Pa.data, HQM.out, mirR]
        case measure => simp [intOf] <;> omega
    · obtain rfl : k = n := by omega
      go_wp2_with fail
      go_ret
      refine ⟨_, rfl, L, ownsRow_base hS.own (by omega), hS.rows, ?_, hS.ext⟩
      rw [HO.out, HN.out, List.take_of_length_le (by simp)]
end Go.Proofs.Yteamiiekpjoclaa
