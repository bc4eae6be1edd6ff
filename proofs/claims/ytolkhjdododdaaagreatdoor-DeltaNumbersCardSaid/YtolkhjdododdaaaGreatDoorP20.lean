/- project.Mirror, whether a row has a mirror or none. -/
import Derived.Test.YtolkhjdododdaaaGreatDoorP19
import Derived.Test.YtolkhjdododdaaaGreatDoorP8
import Derived.Test.YtolkhjdododdaaaGreatDoorP2
import Derived.Laws.CopyOwn
import Derived.Laws.MakeOwn
import Derived.OwnWalk
import Derived.Test.YtolkhjdododdaaaGreatDoorP3
import Derived.Test.YtolkhjdododdaaaGreatDoorP17
set_option linter.unusedSimpArgs false
set_option linter.unusedVariables false
namespace Go.Proofs.YtolkhjdododdaaaGreatDoor
open Go Go.RowKit

/-- What mirrors a row: the partition's key and its one row. -/
def mirOf (x : Vw) (ns : List ByteArray) (pk : ByteArray) (pg : Int) (r : Ro) : Option (ByteArray × Ro) :=
 if bestB (cellOf r.cols x.on) (max r.gone pg) then some ((cellOf r.cols x.on).val, ⟨vkey pk r.key, ⟨⟨#[]⟩, false, (cellOf r.cols x.on).at_, (cellOf r.cols x.on).fin⟩, max r.gone pg, 0, r.cols.filter (keeps ns)⟩) else none
def mirK (m : Option (ByteArray × Ro)) : ByteArray := match m with
 | some p => p.1
 | none => ⟨#[]⟩
def mirR (m : Option (ByteArray × Ro)) : List Ro := match m with
 | some p => [p.2]
 | none => []
theorem mirror_any (s : Value) (x : Vw) (u : Value) (ns : List ByteArray) (pk : ByteArray) (pg : Int) (pu : Value) (r : Ro) (v : Value) (w : World) (hin : ColsIn w v r.cols) (hlc : r.cols.length ≤ 1000000) (hns : StrsIn w u ns)
  (hk : pk.size ≤ 10000000) (hr : r.key.size ≤ 10000000) (hkl : (vkey pk r.key).size ≤ 400) :
  Calls Tryz.prog 39 #[tabV s, .agg #[.string x.name, .int .i64 x.id, .string x.table, .string x.on, u], .agg #[.string pk, .int .i64 pg, pu], (.agg #[.string r.key, .string r.live.val, .bool r.live.dead, .int .i64 r.live.at_, .int .i64 r.live.fin, .int .i64 r.gone, .int .i64 r.shade, v])] w fun e w' =>
   ∃ rv, e = .returned (.tuple #[.agg #[.string (mirK (mirOf x ns pk pg r)), .int .i64 0, rv], .bool (mirOf x ns pk pg r).isSome]) ∧ ∃ ps, RowsT w' rv ps ∧ ps.map (·.1) = mirR (mirOf x ns pk pg r) ∧ Ext w w' := by
 cases hb : bestB (cellOf r.cols x.on) (max r.gone pg) with
 | true =>
  have e : mirOf x ns pk pg r = some ((cellOf r.cols x.on).val, ⟨vkey pk r.key, ⟨⟨#[]⟩, false, (cellOf r.cols x.on).at_, (cellOf r.cols x.on).fin⟩, max r.gone pg, 0, r.cols.filter (keeps ns)⟩) := by unfold mirOf; rw [if_pos hb]
  rw [e]
  refine (mirror_some s x u ns pk pg pu r v w hin hlc hns hb hk hr hkl).mono ?_
  rintro e w' ⟨b, v', rfl, hwb, hbox, hown, hE⟩
  exact ⟨_, rfl, _, RowsT.one hbox (TIn.own hown), rfl, hE⟩
 | false =>
  have e : mirOf x ns pk pg r = none := by unfold mirOf; rw [if_neg (by rw [hb]; decide)]
  rw [e]
  refine (mirror_none s x u pk pg pu r v w hin hb hk hr).mono ?_
  rintro e w' ⟨rfl, hE⟩
  exact ⟨_, rfl, [], RowsT.nil _, rfl, hE⟩
end Go.Proofs.YtolkhjdododdaaaGreatDoor

/- 'make([]T, n)' of structs as a variable's block; 'copy' over the whole of it. -/
namespace Go.Proofs.YtolkhjdododdaaaGreatDoor
open Go Go.RowKit

theorem wpList_make_box {P : Program} (w : World) {ops : Array Oper} {rest : List Oper} {o : Oper} {a : Act} {Q : Exit → Act → World → Prop} {t e : TypeId} {z : Value} {size bytes : Nat}
  (info : (P.info? e).map (fun i => (i.zero, i.size, i.bytes)) = some (some z, size, bytes)) (und : P.underlying t = some (.slice e))
  (hg : o.guard = none) (l c : Operand) (hop : o.op = Op.makeSlice t l c)
  (kl kc : IntKind) (n : Nat) (hl : a.eval l = .int kl n) (hc : a.eval c = .int kc n) (b2 : bytes * n ≤ 281474976710656) (b3 : n ≤ maxLen)
  (hK : ∀ w' Z, BoxAt w' w.heap.size Z e → Z.size = n * size → Ext w w' → wpList P ops Q rest (a.put o.dst (.slice (some ⟨w.heap.size, 0, none⟩) n n)) w') :
  wpList P ops Q (o :: rest) a w := by
 obtain ⟨i0, hi, hz0, hz1, hz2⟩ := info_parts info
 refine wpList_plain hg fun K hK' => ?_
 unfold maxLen at b3
 have hb' : (i0.bytes : Int) * (n : Int) ≤ 281474976710656 := by
  have h : ((bytes * n : Nat) : Int) ≤ 281474976710656 := by omega
  rw [hz2]
  rwa [Int.natCast_mul] at h
 have hr := run_make (P := P) w t e i0 z und hi hz0 kl kc n n (by omega) (Int.le_refl _) hb' (by omega)
 simp only [Int.toNat_natCast] at hr
 unfold Oper.wp
 simp [execOp, hop, hl, hc, hr, Result.andThen]
 exact hK' _ _ (hK _ _ (BoxAt.made w _ _) (by rw [size_madeCells, hz1]) ((Ext.refl w).alloc _))

theorem run_copyS {P : Program} (w : World) (dT sT ty elem : TypeId) (size n : Nat) (g dCap : Nat) (a : Option Addr) (sCap : Nat) (cur : Array Value) (t : TypeId) (cs : List Value)
  (hu : P.underlying dT = some (.slice elem)) (hs : (P.info? elem).map (·.size) = some size)
  (hg : BoxAt w g cur t) (hn : cs.length = n * size) (hcur : cur.size = n * size)
  (ha : a = none → n = 0) (hsrc : ∀ ad, a = some ad → ∀ j v, cs[j]? = some v → w.cell? (ad.add j) = some v) (h1 : ∀ v ∈ cs, v.oneCell' = true) :
  (Builtin.copy_ #[dT, sT] ty #[.slice (some ⟨g, 0, none⟩) n dCap, .slice a n sCap]).run P w = .ok (goInt n) (w.setRow g cs.toArray) := by
 have hst := run_storeCells_at P g 0 t cs 0 cur w hg (by omega) h1
 have e1 : cur.toList.take 0 ++ cs ++ cur.toList.drop (0 + 0 + cs.length) = cs := by
  rw [List.drop_eq_nil_of_le (by simp; omega)]
  simp
 simp only [Nat.zero_add] at hst e1
 rw [e1] at hst
 cases hq : P.info? elem with
 | none => simp [hq] at hs
 | some i =>
  have hi : i.size = size := by simpa [hq] using hs
  cases a with
  | none =>
   obtain rfl := ha rfl
   obtain rfl : cs = [] := List.eq_nil_of_length_eq_zero (by omega)
   simp [Builtin.copy_, run_underlying hu, Builtin.lenOf, Builtin.firstCells, sizeOf, typeInfo, hq, hi, hst]
  | some ad =>
   have hl := run_loadCells_list (P := P) w ad cs (hsrc ad rfl)
   rw [hn] at hl
   simp [Builtin.copy_, run_underlying hu, Builtin.lenOf, Builtin.firstCells, sizeOf, typeInfo, hq, hi, hl, hst]

theorem wpList_copy_box {P : Program} (w : World) {ops : Array Oper} {rest : List Oper} {o : Oper} {a : Act} {Q : Exit → Act → World → Prop} {dT sT elem : TypeId} {z : Value} {size bytes : Nat}
  (info : (P.info? elem).map (fun i => (i.zero, i.size, i.bytes)) = some (some z, size, bytes)) (und : P.underlying dT = some (.slice elem)) (hgd : o.guard = none) (d s : Operand)
  (ho : o.op = .call { callee := .builtin .copy, args := #[d, s], argTypes := #[dT, sT] }) (n g dCap : Nat) (hd : a.eval d = .slice (some ⟨g, 0, none⟩) n dCap) (u : Value) (hs : a.eval s = u)
  (cur : Array Value) (t : TypeId) (hb : BoxAt w g cur t) (hcur : cur.size = n * size) (xs : List Value) (hx : xs.length = n * size) (hin : SliceIn w u n xs) (h1 : ∀ v ∈ xs, v.oneCell' = true)
  (h : ∀ w', BoxAt w' g xs.toArray t → w.grownBy w' (some g) → wpList P ops Q rest (a.put o.dst (goInt n)) w') : wpList P ops Q (o :: rest) a w := by
 obtain ⟨i0, hi, hz0, hz1, hz2⟩ := info_parts info
 obtain ⟨ad, c, rfl, hc, hcm, ha, hcell⟩ := hin
 have hrun := run_copyS (P := P) w dT sT o.type elem size n g dCap ad c cur t xs und (by rw [hi]; simpa using hz1) hb hx hcur (fun e => by have := ha e; omega) (fun a' e j v hj => by
  obtain ⟨b, o', e', h'⟩ := hcell j v hj
  rw [e] at e'
  cases e'
  rw [Addr.add_lit]
  exact h') h1
 refine wpList_plain hgd fun K hK => ?_
 unfold Oper.wp
 simp [execOp, ho, resolve, invoke, builtin, hd, hs, hrun, Result.andThen]
 exact hK _ _ (h _ (setRow_heap w g _ _ t _ hb) ⟨rfl, rfl, rfl, by simp, fun k hk hne => setRow_other w g k _ (fun e => hne (by rw [e]))⟩)
end Go.Proofs.YtolkhjdododdaaaGreatDoor

/- part.Copy. -/
namespace Go.Proofs.YtolkhjdododdaaaGreatDoor
open Go Go.RowKit
attribute [local go_sem] yields yUpon ro8 pa3

theorem roCells_set : ∀ (l : List (Ro × Value)) (k : Nat) (h : k < l.length) (v : Value), (roCells l).set (k * 8 + 7) v = roCells (l.set k (l[k].1, v))
 | c :: l, 0, _, v => by simp [roCells]
 | c :: l, k + 1, h, v => by
  have ih := roCells_set l k (by simpa using h) v
  have e : (k + 1) * 8 + 7 = k * 8 + 7 + 8 := by omega
  simp only [e, roCells, List.set_cons_succ, List.getElem_cons_succ]
  rw [ih]
theorem rowBox_at {w : World} {R : Nat} {qs : List (Ro × Value)} {T : TypeId} (h : BoxAt w R (roCells qs).toArray T) (k : Nat) (hk : k < qs.length) : RoAt w R (k * 8) qs[k].1 qs[k].2 := by
 have g : ∀ j u, j < 8 → (ro8 qs[k].1 qs[k].2)[j]? = some u → w.cell? ⟨R, k * 8 + j, none⟩ = some u := fun j u hj he => by
  rw [h.cell, List.getElem?_toArray, roCells_get qs k hk j hj]
  exact he
 exact ⟨g 0 _ (by decide) rfl, g 1 _ (by decide) rfl, g 2 _ (by decide) rfl, g 3 _ (by decide) rfl, g 4 _ (by decide) rfl, g 5 _ (by decide) rfl, g 6 _ (by decide) rfl, g 7 _ (by decide) rfl⟩
theorem rowBox_set {w : World} {R : Nat} {qs : List (Ro × Value)} {T : TypeId} (h : BoxAt w R (roCells qs).toArray T) (k : Nat) (hk : k < qs.length) (v : Value) : BoxAt (w.setCell ⟨R, k * 8 + 7, none⟩ v) R (roCells (qs.set k (qs[k].1, v))).toArray T := by
 have := h.set (k * 8 + 7) v
 rw [List.setIfInBounds_toArray, roCells_set qs k hk] at this
 exact this
/-- A row's columns in new memory, behind block R. -/
def DoneC (x : World) (R : Nat) (p : Ro × Value) : Prop := (p.2 = .slice none 0 0 ∧ p.1.cols = []) ∨ ∃ b, R < b ∧ p.2 = .slice (some ⟨b, 0, none⟩) p.1.cols.length p.1.cols.length ∧ BoxAt x b (coCells p.1.cols).toArray 69 ∧ p.1.cols.length ≤ 1000000
theorem DoneC.ext {x y : World} {R : Nat} {p : Ro × Value} (hE : Ext x y) (h : DoneC x R p) : DoneC y R p := h.imp_right fun ⟨b, hb, e, hx, hl⟩ => ⟨b, hb, e, hx.ext hE, hl⟩
theorem DoneC.set {x : World} {R i : Nat} {u : Value} {p : Ro × Value} (h : DoneC x R p) : DoneC (x.setCell ⟨R, i, none⟩ u) R p := h.imp_right fun ⟨b, hb, e, hx, hl⟩ => ⟨b, hb, e, hx.other (by omega) i u, hl⟩
theorem DoneC.other {x : World} {R q i : Nat} {u : Value} {p : Ro × Value} (hq : q ≤ R) (h : DoneC x R p) : DoneC (x.setCell ⟨q, i, none⟩ u) R p := h.imp_right fun ⟨b, hb, e, hx, hl⟩ => ⟨b, hb, e, hx.other (by omega) i u, hl⟩
theorem DoneC.grown {x y : World} {R q : Nat} {p : Ro × Value} (hq : q ≤ R) (hg : x.grownBy y (some q)) (h : DoneC x R p) : DoneC y R p := h.imp_right fun ⟨b, hb, e, hx, hl⟩ => ⟨b, hb, e, hx.grown hg (fun e => by cases e; omega), hl⟩
theorem DoneC.typed {x : World} {R : Nat} {p : Ro × Value} (h : DoneC x R p) : ColsT x p.2 p.1.cols := by
 rcases h with ⟨e, e'⟩ | ⟨b, _, e, hx, hl⟩
 ·rw [e, e']; exact ColsT.nil x
 ·rw [e]; exact TIn.box hx (by unfold maxLen; omega)

set_option maxRecDepth 100000 in
set_option maxHeartbeats 4000000 in
theorem pcopy_any (pk : ByteArray) (pg : Int) (u : Value) (ps : List (Ro × Value)) (w : World) (hin : RowsIn w u ps) (hlen : ps.length ≤ 1000000) (hcl : ∀ p ∈ ps, p.1.cols.length ≤ 1000000) :
  Calls Tryz.prog 72 #[.agg #[.string pk, .int .i64 pg, u]] w fun e w' => ∃ v', e = .returned (.agg #[.string pk, .int .i64 pg, v']) ∧ ∃ qs, RowsT w' v' qs ∧ qs.map (·.1) = ps.map (·.1) ∧ Ext w w' := by
 obtain ⟨a0, a1, hE⟩ := boxes2 w (pa3 pk pg u) (pa3 ⟨#[]⟩ 0 (.slice none 0 0)) 39 39
 obtain ⟨aa, ca, rfl, hca, hcma, _⟩ := hin.get
 have hone := roCells_one ps (fun p hp => let ⟨a, c, e⟩ := (hin.cols p hp).shape; ⟨a, _, c, e⟩)
 obtain ⟨n, hn⟩ : ∃ n, n = ps.length := ⟨_, rfl⟩
 rw [← hn] at hlen hca a0 a1 hE ⊢
 have HN := Lib.hid hn
 clear hn
 go_enter Tryz.func72, Tryz.ntmps72
 go_wp2_with (first
  | (at_make; go_must (refine wpList_make_box _ info_Row und_Rows rfl (.tmp 9) (.tmp 9) rfl _ _ n rfl rfl (by omega) (by unfold maxLen; omega) ?_); intro w2 Z hZ hZs hE2; replace hZ : BoxAt w2 (w.heap.size + 1 + 1) Z 47 := (by simpa using hZ); replace a0 := a0.ext hE2; replace a1 := a1.ext hE2; replace hE := hE.trans hE2; have c0 := a0.pa; clear hE2)
  | (guard_target =~ wpList _ _ _ (Oper.mk _ (Op.call { callee := Callee.builtin Builtin.copy, args := _, argTypes := _ }) _ _ _ _ :: _) _ _; go_must (refine wpList_copy_box w2 info_Row und_Rows rfl (.tmp 11) (.tmp 13) rfl n (w.heap.size + 1 + 1) n rfl _ rfl Z _ hZ hZs (roCells ps) (by rw [roCells_length, HN.out]) (by rw [HN.out]; exact hin.rows.ext hE) hone ?_); intro w3 hR hg3; replace a0 := a0.grown hg3 (fun e => by have := Option.some.inj e; omega); replace a1 := a1.grown hg3 (fun e => by have := Option.some.inj e; omega); replace hE := hE.grown hg3 (fun q hq => by cases hq; omega); clear hZ hZs hg3 c0))
 go_loopw [17] (fun i wr => ∃ (k : Nat) (qs : List (Ro × Value)), k ≤ n ∧ i = .int .i64 k ∧ qs.length = n ∧ Hid (qs.map (·.1) = ps.map (·.1)) ∧ BoxAt wr (w.heap.size + 1 + 1) (roCells qs).toArray 47 ∧ BoxAt wr w.heap.size (pa3 pk pg (.slice aa n ca)) 39 ∧ BoxAt wr (w.heap.size + 1) (pa3 ⟨#[]⟩ 0 (.slice none 0 0)) 39 ∧ Ext w wr ∧ Hid (∀ j (h : j < qs.length), j < k → DoneC wr (w.heap.size + 1 + 1) qs[j]) ∧ Hid (∀ j (h : j < qs.length), k ≤ j → ColsIn w qs[j].2 qs[j].1.cols)) (fun i _ => n - (intOf i).toNat)
 case atStart => exact ⟨0, ps, Nat.zero_le _, rfl, HN.out.symm, rfl, hR, a0, a1, hE, fun j _ h => absurd h (Nat.not_lt_zero j), fun j h _ => hin.cols _ (List.getElem_mem h)⟩
 case round =>
  obtain ⟨k, qs, hk, rfl, hql, HM, hRk, b0, b1, hE, HD, HC⟩ := hrel
  clear a0 a1 hR
  by_cases hlt : k < n
  ·have hki : decide ((k : Int) < (n : Int)) = true := by simpa using hlt
   have hkq : k < qs.length := by omega
   have hcu := HC.out k hkq (Nat.le_refl _)
   obtain ⟨M, hM⟩ : ∃ M, M = qs[k].1 := ⟨_, rfl⟩
   obtain ⟨au, cu, hu⟩ := hcu.shape
   rw [← hM] at hcu hu
   rw [hu] at hcu
   have hat := rowBox_at hRk k hkq
   rw [← hM, hu] at hat
   have HM' := Lib.hid hM
   have HU := Lib.hid hu
   clear hM hu
   have hml : M.cols.length ≤ 1000000 := by
    have hmem : M ∈ ps.map (·.1) := by rw [← HM.out, HM'.out]; exact List.mem_map_of_mem (List.getElem_mem hkq)
    obtain ⟨p, hp, e⟩ := List.mem_map.1 hmem
    rw [← e]; exact hcl p hp
   obtain ⟨L, hL⟩ : ∃ L, L = M.cols := ⟨_, rfl⟩
   rw [← hL] at hcu hat hml
   have HL := Lib.hid hL
   clear hL
   obtain ⟨m, hm⟩ : ∃ m, m = L.length := ⟨_, rfl⟩
   rw [← hm] at hcu hat hml
   have Hm := Lib.hid hm
   clear hm
   obtain ⟨x0, x1, x2, x3, x4, x5, x6, x7⟩ := hat
   have hRs := hRk.lt
   by_cases hm0 : 0 < m
   rotate_left
   ·skip
    go_wp2_with (first
     | (((guard_target =~ wpList _ _ _ (Oper.mk none (Op.store _ (Operand.tmp 5) (Operand.tmp 21)) _ _ _ _ :: _) _ _); go_must (refine storeBox rfl 47 (.tmp 5) (.tmp 21) rfl (wr.heap.size) _ _ _ (by rfl) (by rfl) ((BoxAt.made wr (ro8 ⟨⟨#[]⟩, zeroCl, 0, 0, []⟩ (.slice none 0 0)) 47)) (by kernel_rfl) (by rfl) (by simp [Value.oneCell']) ?_); intro w4 c4 g4); have hX4 : Ext wr w4 := ((Ext.refl wr).alloc _).grown g4 (fun q hq => by cases hq; omega); have d4 := c4.ro (r := ⟨M.key, M.live, M.gone, M.shade, []⟩) (v := .slice au m cu))
     | (at_make; go_must (refine wpList_make_box w4 info_Col und_Cols rfl (.tmp 24) (.tmp 24) rfl _ _ m rfl rfl (by omega) (by unfold maxLen; omega) ?_); intro w5 Z5 hZ5 hZs5 hE5; have hX5 := hX4.trans hE5; have d5 := (c4.ext hE5).ro (r := ⟨M.key, M.live, M.gone, M.shade, []⟩) (v := .slice au m cu); clear d4)
     | (guard_target =~ wpList _ _ _ (Oper.mk _ (Op.call { callee := Callee.builtin Builtin.copy, args := _, argTypes := _ }) _ _ _ _ :: _) _ _; go_must (refine wpList_copy_box w5 info_Col und_Cols rfl (.tmp 26) (.tmp 28) rfl m w4.heap.size m rfl _ rfl Z5 _ hZ5 hZs5 (coCells L) (by rw [coCells_length, Hm.out]) (show SliceIn _ _ m _ from by have := hcu.ext (hE.trans hX5); unfold ColsIn at this; rwa [← Hm.out] at this) (coCells_one L) ?_); intro w6 hb6 hg6; have hX6 := hX5.grown hg6 (fun q hq => by cases hq; exact hX4.le); have hR6 := hRk.ext hX6; have y7 := (rowBox_at hR6 k hkq).c7; have f7 := hR6.free (k * 8 + 7); clear d5 hg6))
    have hS1 := rowBox_set hR6 k hkq (.slice none 0 0)
    have hXX := hE.trans hX6
    go_roundw
    case rel =>
     have hlen' : (qs.set k (qs[k].1, .slice none 0 0)).length = qs.length := List.length_set ..
     refine ⟨k + 1, qs.set k (qs[k].1, .slice none 0 0), hlt, rfl, by rw [hlen', hql], ?_, hS1, (b0.ext hX6).other (by omega) _ _, (b1.ext hX6).other (by omega) _ _, hXX.setCell (by show w.heap.size ≤ w.heap.size + 1 + 1; omega) _, fun j h hj => ?_, fun j h hj => ?_⟩
     ·show _ = _
      rw [← HM.out, List.map_set]
      refine List.ext_getElem? fun i => ?_
      rw [List.getElem?_set]
      split
      ·rename_i e; subst e; simp [hkq]
      ·rfl
     ·rw [List.getElem_set]
      split
      ·rename_i e
       refine .inl ⟨rfl, ?_⟩
       show qs[k].1.cols = []
       rw [← HM'.out, ← HL.out]
       exact List.eq_nil_of_length_eq_zero (by rw [← Hm.out]; omega)
      ·exact ((HD.out j (by rw [hlen'] at h; exact h) (by omega)).ext hX6).set
     ·rw [List.getElem_set]
      split
      ·omega
      ·exact HC.out j (by rw [hlen'] at h; exact h) (by omega)
    case measure => simp [intOf]; omega
   ·have hmi : decide ((0 : Int) < (m : Int)) = true := decide_eq_true (by omega)
    go_wp2_with (first
     | (((guard_target =~ wpList _ _ _ (Oper.mk none (Op.store _ (Operand.tmp 5) (Operand.tmp 21)) _ _ _ _ :: _) _ _); go_must (refine storeBox rfl 47 (.tmp 5) (.tmp 21) rfl (wr.heap.size) _ _ _ (by rfl) (by rfl) ((BoxAt.made wr (ro8 ⟨⟨#[]⟩, zeroCl, 0, 0, []⟩ (.slice none 0 0)) 47)) (by kernel_rfl) (by rfl) (by simp [Value.oneCell']) ?_); intro w4 c4 g4); have hX4 : Ext wr w4 := ((Ext.refl wr).alloc _).grown g4 (fun q hq => by cases hq; omega); have d4 := c4.ro (r := ⟨M.key, M.live, M.gone, M.shade, []⟩) (v := .slice au m cu))
     | (at_make; go_must (refine wpList_make_box w4 info_Col und_Cols rfl (.tmp 24) (.tmp 24) rfl _ _ m rfl rfl (by omega) (by unfold maxLen; omega) ?_); intro w5 Z5 hZ5 hZs5 hE5; have hX5 := hX4.trans hE5; have d5 := (c4.ext hE5).ro (r := ⟨M.key, M.live, M.gone, M.shade, []⟩) (v := .slice au m cu); clear d4)
     | (guard_target =~ wpList _ _ _ (Oper.mk _ (Op.call { callee := Callee.builtin Builtin.copy, args := _, argTypes := _ }) _ _ _ _ :: _) _ _; go_must (refine wpList_copy_box w5 info_Col und_Cols rfl (.tmp 26) (.tmp 28) rfl m w4.heap.size m rfl _ rfl Z5 _ hZ5 hZs5 (coCells L) (by rw [coCells_length, Hm.out]) (show SliceIn _ _ m _ from by have := hcu.ext (hE.trans hX5); unfold ColsIn at this; rwa [← Hm.out] at this) (coCells_one L) ?_); intro w6 hb6 hg6; have hX6 := hX5.grown hg6 (fun q hq => by cases hq; exact hX4.le); have hR6 := hRk.ext hX6; have y7 := (rowBox_at hR6 k hkq).c7; have f7 := hR6.free (k * 8 + 7); clear d5 hg6))
    have hS0 := rowBox_set hR6 k hkq (.slice none 0 0)
    have hS1 := rowBox_set hS0 k (by rw [List.length_set]; exact hkq) (.slice (some ⟨w4.heap.size, 0, none⟩) m m)
    rw [List.set_set, List.getElem_set_self] at hS1
    have hle4 := hX4.le
    have hXX := hE.trans hX6
    go_roundw
    case rel =>
     have hlen' : (qs.set k (qs[k].1, .slice (some ⟨w4.heap.size, 0, none⟩) m m)).length = qs.length := List.length_set ..
     refine ⟨k + 1, qs.set k (qs[k].1, .slice (some ⟨w4.heap.size, 0, none⟩) m m), hlt, rfl, by rw [hlen', hql], ?_, hS1, ((b0.ext hX6).other (by omega) _ _).other (by omega) _ _, ((b1.ext hX6).other (by omega) _ _).other (by omega) _ _, (hXX.setCell (by show w.heap.size ≤ w.heap.size + 1 + 1; omega) _).setCell (by show w.heap.size ≤ w.heap.size + 1 + 1; omega) _, fun j h hj => ?_, fun j h hj => ?_⟩
     ·show _ = _
      rw [← HM.out, List.map_set]
      refine List.ext_getElem? fun i => ?_
      rw [List.getElem?_set]
      split
      ·rename_i e; subst e; simp [hkq]
      ·rfl
     ·rw [List.getElem_set]
      split
      ·rename_i e
       have hcols : qs[k].1.cols = L := by rw [← HM'.out, ← HL.out]
       refine .inr ⟨w4.heap.size, by omega, ?_, ?_, ?_⟩
       ·show Value.slice _ m m = _
        simp only [hcols, ← Hm.out]
       ·show BoxAt _ _ (coCells qs[k].1.cols).toArray _
        rw [hcols]
        exact (hb6.other (by omega) _ _).other (by omega) _ _
       ·show qs[k].1.cols.length ≤ _
        rw [hcols, ← Hm.out]
        exact hml
      ·exact ((HD.out j (by rw [hlen'] at h; exact h) (by omega)).ext hX6).set.set
     ·rw [List.getElem_set]
      split
      ·omega
      ·exact HC.out j (by rw [hlen'] at h; exact h) (by omega)
    case measure => simp [intOf]; omega
  ·have c0 := b0.pa
   have e0 := b0.free 2
   have c1 := b1.pa
   by_cases hn0 : 0 < n
   ·go_wp2_with ((guard_target =~ wpList _ _ _ (Oper.mk none (Op.store _ (Operand.tmp 2) (Operand.tmp 49)) _ _ _ _ :: _) _ _); go_must (refine storeBox rfl 39 (.tmp 2) (.tmp 49) rfl (w.heap.size + 1) _ _ _ (by rfl) (by rfl) (((b1.other (by omega) _ _).other (by omega) _ _)) (by kernel_rfl) (by rfl) (by simp [Value.oneCell']) ?_); intro w9 c9 g9)
    have hX9 := ((hE.setCell (p := ⟨w.heap.size, 2, none⟩) (Nat.le_refl _) (.slice none 0 0)).setCell (p := ⟨w.heap.size, 2, none⟩) (Nat.le_refl _) (.slice (some ⟨w.heap.size + 1 + 1, 0, none⟩) n n)).grown g9 (fun q hq => by cases hq; omega)
    have hR9 := ((hRk.other (by omega) _ _).other (by omega) _ _).grown g9 (fun e => by have := Option.some.inj e; omega)
    have hD9 : ∀ p ∈ qs, DoneC w9 (w.heap.size + 1 + 1) p := fun p hp => by
     obtain ⟨j, hj, rfl⟩ := List.mem_iff_getElem.1 hp
     exact (((HD.out j hj (by omega)).other (by omega)).other (by omega)).grown (by omega) g9
    have FINR : RowsT w9 (.slice (some ⟨w.heap.size + 1 + 1, 0, none⟩) n n) qs := by
     rw [← hql]
     exact ⟨TIn.box hR9 (by unfold maxLen; omega), fun p hp => (hD9 p hp).typed⟩
    obtain ⟨z0, z1, z2⟩ := c9.pa (k := pk) (g := pg) (u := .slice (some ⟨w.heap.size + 1 + 1, 0, none⟩) n n)
    refine bodyPost_ret (v := .agg #[.string pk, .int .i64 pg, .slice (some ⟨w.heap.size + 1 + 1, 0, none⟩) n n]) ?_ rfl ⟨_, rfl, qs, FINR, HM.out, hX9⟩
    simp [results, Tryz.results72, go_sem, z0, z1, z2]
   ·go_wp2_with ((guard_target =~ wpList _ _ _ (Oper.mk none (Op.store _ (Operand.tmp 2) (Operand.tmp 49)) _ _ _ _ :: _) _ _); go_must (refine storeBox rfl 39 (.tmp 2) (.tmp 49) rfl (w.heap.size + 1) _ _ _ (by rfl) (by rfl) ((b1.other (by omega) _ _)) (by kernel_rfl) (by rfl) (by simp [Value.oneCell']) ?_); intro w9 c9 g9)
    have hX9 := (hE.setCell (p := ⟨w.heap.size, 2, none⟩) (Nat.le_refl _) (.slice none 0 0)).grown g9 (fun q hq => by cases hq; omega)
    obtain rfl : qs = [] := List.eq_nil_of_length_eq_zero (by omega)
    obtain ⟨z0, z1, z2⟩ := c9.pa (k := pk) (g := pg) (u := .slice none 0 0)
    refine bodyPost_ret (v := .agg #[.string pk, .int .i64 pg, .slice none 0 0]) ?_ rfl ⟨_, rfl, [], RowsT.nil _, HM.out, hX9⟩
    simp [results, Tryz.results72, go_sem, z0, z1, z2]
end Go.Proofs.YtolkhjdododdaaaGreatDoor

/- part.Join. -/
namespace Go.Proofs.YtolkhjdododdaaaGreatDoor
open Go Go.RowKit
attribute [local go_sem] yields yUpon ro8 pa3

theorem mem_mergeG {α : Type} {cmp : α → α → Int} {join : α → α → α} {l m : List α} {x : α} (h : x ∈ mergeG cmp join l m) : x ∈ l ∨ x ∈ m ∨ ∃ a ∈ l, ∃ b ∈ m, cmp a b = 0 ∧ x = join a b := by
 fun_induction mergeG cmp join l m with
 | case1 m => exact .inr (.inl h)
 | case2 a l => exact .inl h
 | case3 a l b m hc ih =>
  rcases List.mem_cons.1 h with rfl | h
  ·exact .inl (List.mem_cons_self ..)
  ·rcases ih h with h | h | ⟨y, hy, z, hz, hyz, e⟩
   ·exact .inl (List.mem_cons_of_mem _ h)
   ·exact .inr (.inl h)
   ·exact .inr (.inr ⟨y, List.mem_cons_of_mem _ hy, z, hz, hyz, e⟩)
 | case4 a l b m hc hc' ih =>
  rcases List.mem_cons.1 h with rfl | h
  ·exact .inr (.inl (List.mem_cons_self ..))
  ·rcases ih h with h | h | ⟨y, hy, z, hz, hyz, e⟩
   ·exact .inl h
   ·exact .inr (.inl (List.mem_cons_of_mem _ h))
   ·exact .inr (.inr ⟨y, hy, z, List.mem_cons_of_mem _ hz, hyz, e⟩)
 | case5 a l b m hc hc' ih =>
  rcases List.mem_cons.1 h with rfl | h
  ·exact .inr (.inr ⟨a, List.mem_cons_self .., b, List.mem_cons_self .., by omega, rfl⟩)
  ·rcases ih h with h | h | ⟨y, hy, z, hz, hyz, e⟩
   ·exact .inl (List.mem_cons_of_mem _ h)
   ·exact .inr (.inl (List.mem_cons_of_mem _ h))
   ·exact .inr (.inr ⟨y, List.mem_cons_of_mem _ hy, z, List.mem_cons_of_mem _ hz, hyz, e⟩)
/-- Rows with few columns each. -/
def FewCols (l : List Ro) : Prop := ∀ r ∈ l, r.cols.length ≤ 500000
theorem few_merge {l m : List Ro} (hl : FewCols l) (hm : FewCols m) : ∀ r ∈ mergeRo l m, r.cols.length ≤ 1000000 := by
 intro r hr
 rcases mem_mergeG hr with h | h | ⟨a, ha, b, hb, _, rfl⟩
 ·exact Nat.le_trans (hl r h) (by omega)
 ·exact Nat.le_trans (hm r h) (by omega)
 ·have h1 := mergeCo_len a.cols b.cols
  have h2 := hl a ha
  have h3 := hm b hb
  show (mergeCo a.cols b.cols).length ≤ _
  omega

/-- What part.Join hands back. -/
def JoinPost (w : World) (k : ByteArray) (g : Int) (J : List Ro) (e : Ending) (w' : World) : Prop :=
 Ext w w' ∧ ((J.length ≤ 100 ∧ ∃ v', e = .returned (.tuple #[.agg #[.string k, .int .i64 g, v'], .bool true]) ∧ ∃ qs, RowsT w' v' qs ∧ qs.map (·.1) = J) ∨
  (100 < J.length ∧ e = .returned (.tuple #[.agg #[.string ⟨#[]⟩, .int .i64 0, .slice none 0 0], .bool false])))

set_option maxRecDepth 100000 in
set_option maxHeartbeats 4000000 in
theorem pjoin_walk (ka kb : ByteArray) (ga gb : Int) (ua ub : Value) (la lb : List (Ro × Value)) (w : World) (ha : RowsIn w ua la) (hb : RowsIn w ub lb) (hlen : la.length + lb.length ≤ 1000000) (fa : FewCols (la.map (·.1))) (fb : FewCols (lb.map (·.1))) :
  Calls Tryz.prog 37 #[.agg #[.string ka, .int .i64 ga, ua], .agg #[.string kb, .int .i64 gb, ub]] w fun e w' => JoinPost w ka (max ga gb) (mergeRo (la.map (·.1)) (lb.map (·.1))) e w' := by
 obtain ⟨a0, a1, a2, hE⟩ := boxes3 w (pa3 ka ga ua) (pa3 kb gb ub) (pa3 ⟨#[]⟩ 0 (.slice none 0 0)) 39 39 39
 obtain ⟨J, hJ⟩ : ∃ J, J = mergeRo (la.map (·.1)) (lb.map (·.1)) := ⟨_, rfl⟩
 rw [← hJ]
 have HJ := Lib.hid hJ
 clear hJ
 obtain ⟨mg, hmg⟩ : ∃ mg, mg = max ga gb := ⟨_, rfl⟩
 rw [← hmg]
 have HG := Lib.hid hmg
 clear hmg
 go_enter Tryz.func37, Tryz.ntmps37
 go_wp2_with fail
 refine (mergeRo_any ua ub la lb _ (ha.ext hE) (hb.ext hE) hlen (fun p hp q hq => by have := fa p.1 (List.mem_map_of_mem hp); have := fb q.1 (List.mem_map_of_mem hq); omega)).mono ?_
 rintro e w1 ⟨v', rfl, ps, hown, hsafe, hmap, hE1⟩
 rw [← HJ.out] at hmap
 have hrows := rows_own hown hE1 hsafe
 have hpl : J.length = ps.length := by rw [← hmap]; simp
 obtain ⟨ca, cc, rfl⟩ := own_shape hown
 have hJl : J.length ≤ 1000000 := by
  rw [HJ.out]
  have := mergeG_len keyR joinRo (la.map (·.1)) (lb.map (·.1))
  unfold mergeRo
  simp at this
  omega
 clear hown hsafe
 replace a0 := a0.ext hE1
 replace a1 := a1.ext hE1
 replace a2 := a2.ext hE1
 replace hE := hE.trans hE1
 have c0 := a0.pa
 have c1 := a1.pa
 clear hE1
 rw [← hpl]
 by_cases hfit : 100 < J.length
 ·go_wp2_with ((guard_target =~ wpList _ _ _ (Oper.mk none (Op.store _ (Operand.tmp 4) (Operand.tmp 15)) _ _ _ _ :: _) _ _); go_must (refine storeBox rfl 39 (.tmp 4) (.tmp 15) rfl (w.heap.size + 1 + 1) _ _ _ (by rfl) (by rfl) (a2) (by kernel_rfl) (by rfl) (by simp [Value.oneCell']) ?_); intro w9 c9 g9)
  obtain ⟨z0, z1, z2⟩ := c9.pa (k := ⟨#[]⟩) (g := 0) (u := .slice none 0 0)
  refine bodyPost_ret (v := .tuple #[.agg #[.string ⟨#[]⟩, .int .i64 0, .slice none 0 0], .bool false]) ?_ rfl ⟨hE.grown g9 (fun q hq => by cases hq; omega), .inr ⟨by omega, rfl⟩⟩
  simp [results, Tryz.results37, go_sem, z0, z1, z2]
 ·go_wp2_with fail
  refine (pcopy_any ka (max ga gb) _ ps w1 hrows (by omega) (fun p hp => few_merge fa fb p.1 (by rw [← HJ.out, ← hmap]; exact List.mem_map_of_mem hp))).mono ?_
  rintro e w2 ⟨v', rfl, qs, hqs, hqm, hE2⟩
  obtain ⟨aq, cq, rfl⟩ := hqs.shape
  obtain ⟨nq, hnq⟩ : ∃ nq, nq = qs.length := ⟨_, rfl⟩
  rw [← hnq] at hqs ⊢
  clear hnq
  replace a2 := a2.ext hE2
  go_wp2_with ((guard_target =~ wpList _ _ _ (Oper.mk none (Op.store _ (Operand.tmp 4) (Operand.tmp 25)) _ _ _ _ :: _) _ _); go_must (refine storeBox rfl 39 (.tmp 4) (.tmp 25) rfl (w.heap.size + 1 + 1) _ _ _ (by rfl) (by rfl) (a2) (by kernel_rfl) (by rfl) (by simp [Value.oneCell']) ?_); intro w9 c9 g9)
  have hrow9 := hqs.keep g9 a2 (by decide) (by decide)
  obtain ⟨z0, z1, z2⟩ := c9.pa (k := ka) (g := max ga gb) (u := .slice aq nq cq)
  refine bodyPost_ret (v := .tuple #[.agg #[.string ka, .int .i64 (max ga gb), .slice aq nq cq], .bool true]) ?_ rfl ⟨(hE.trans hE2).grown g9 (fun q hq => by cases hq; omega), .inl ⟨by omega, _, by rw [HG.out], qs, hrow9, hqm.trans hmap⟩⟩
  simp [results, Tryz.results37, go_sem, z0, z1, z2]
end Go.Proofs.YtolkhjdododdaaaGreatDoor
