/- slices.Contains over integers. -/
import Derived.Test.YtcmgeccgahakbaaDoorR4
import Derived.Test.YtcmgeccgahakbaaDoorR2
import Derived.Laws.CopyOwn
import Derived.Laws.MakeOwn
import Derived.OwnWalk
import Derived.Test.YtcmgeccgahakbaaDoorR7
import Derived.Test.YtcmgeccgahakbaaDoorR12
set_option linter.unusedSimpArgs false
set_option linter.unusedVariables false
namespace Go.Proofs.YtcmgeccgahakbaaDoor
open Go Go.RowKit
attribute [local go_sem] yields yUpon

def hasI (l : List Int) (x : Int) : Bool := l.contains x
theorem hasI_no {l : List Int} {x : Int} (h : ∀ j (hj : j < l.length), l[j] ≠ x) : hasI l x = false := by
  unfold hasI
  rw [List.contains_eq_mem, decide_eq_false_iff_not]
  intro hm
  obtain ⟨j, hj, e⟩ := List.getElem_of_mem hm
  exact h j hj e
theorem hasI_yes {l : List Int} {x : Int} {k : Nat} (hk : k < l.length) (h : l[k] = x) : hasI l x = true := by
  unfold hasI
  rw [List.contains_eq_mem, decide_eq_true_iff]
  exact h ▸ List.getElem_mem hk

set_option maxHeartbeats 2000000 in
theorem indexI_any (v : Value) (l : List Int) (x : Int) (w : World) (hin : IntsIn w v .i64 l) :
    Calls Tryd.prog 131 #[v, .int .i64 x] w fun e w' => ∃ i : Int, (e = .returned (.int .i64 i) ∧ w = w') ∧ decide (0 ≤ i) = hasI l x := by
  obtain ⟨a, c, rfl, hc, hcm, hcell⟩ := hin.getX
  have HC := Lib.hid hcell
  obtain ⟨n, hn⟩ : ∃ n, n = l.length := ⟨_, rfl⟩
  have HN := Lib.hid hn
  rw [← hn] at hc ⊢
  clear hcell hin hn
  go_enter Tryd.func131, Tryd.ntmps131
  go_wp2
  go_loop [8] (fun i => ∃ k : Nat, k ≤ n ∧ i = .int .i64 k ∧ Hid (∀ j (hj : j < l.length), j < k → l[j] ≠ x)) (fun i => n - (intOf i).toNat)
  case atStart => exact ⟨0, Nat.zero_le _, rfl, Lib.hid (fun j _ h => absurd h (Nat.not_lt_zero _))⟩
  case round =>
    obtain ⟨k, hk, rfl, HX⟩ := hrel
    by_cases hlt : k < n
    · have hkl : k < l.length := by rw [← HN.out]; exact hlt
      obtain ⟨b, o, rfl, hco⟩ := HC.out k hkl
      obtain ⟨y, hy⟩ : ∃ y, y = l[k] := ⟨_, rfl⟩
      rw [← hy] at hco
      by_cases hxy : x = y
      · have HR := Lib.hid (hasI_yes hkl (hy.symm.trans hxy.symm))
        subst hxy
        clear hy
        go_wp2
        go_ret
        exact ⟨k, ⟨rfl, rfl⟩, by rw [HR.out]; simp⟩
      · have HX2 : Hid (∀ j (hj : j < l.length), j < k + 1 → l[j] ≠ x) := Lib.hid (fun j hj h => by
          by_cases hjk : j = k
          · subst hjk; exact fun e => hxy (by rw [hy]; exact e.symm)
          · exact HX.out j hj (by omega))
        clear hy
        go_wp2
        go_round
        case rel => exact ⟨k + 1, hlt, by go_num, HX2⟩
        case measure => simp [intOf]; omega
    · obtain rfl : k = n := by omega
      have HR := Lib.hid (hasI_no fun j hj => HX.out j hj (by rw [HN.out]; exact hj))
      go_wp2
      go_ret
      exact ⟨-1, ⟨rfl, rfl⟩, by rw [HR.out]; rfl⟩
theorem contI_any (v : Value) (l : List Int) (x : Int) (w : World) (hin : IntsIn w v .i64 l) :
    Calls Tryd.prog 95 #[v, .int .i64 x] w fun e w' => e = .returned (.bool (hasI l x)) ∧ w = w' := by
  go_enter Tryd.func95, Tryd.ntmps95
  go_wp2_with (go_at_call 131; go_must (refine (indexI_any _ l x _ hin).mono ?_); rintro e w1 ⟨i, ⟨rfl, rfl⟩, hi⟩)
  go_ret
  exact ⟨by rw [← hi]; rfl, rfl⟩
end Go.Proofs.YtcmgeccgahakbaaDoor

/- 'make([]T, n)' of structs as a variable's block; 'copy' over the whole of it. -/
namespace Go.Proofs.YtcmgeccgahakbaaDoor
open Go Go.RowKit

theorem wpList_make_box {P : Program} (w : World) {ops : Array Oper} {rest : List Oper} {o : Oper} {a : Act} {Q : Exit → Act → World → Prop} {t e : TypeId} {z : Value} {size bytes : Nat}
    (info : (P.info? e).map (fun i => (i.zero, i.size, i.bytes)) = some (some z, size, bytes)) (und : P.underlying t = some (.slice e))
    (hg : o.guard = none) (l c : Operand) (hop : o.op = Op.makeSlice t l c)
    (kl kc : IntKind) (n : Nat) (hl : a.eval l = .int kl n) (hc : a.eval c = .int kc n) (b2 : bytes * n ≤ 281474976710656) (b3 : n ≤ maxLen)
    (hK : ∀ w' Z, BoxAt w' w.heap.size Z e → Z.size = n * size → Ext w w' → wpList P ops Q rest (a.put o.dst (.slice (some ⟨w.heap.size, 0, none⟩) n n)) w') :
    wpList P ops Q (o :: rest) a w := by
  obtain ⟨i0, hi, hz0, hz1, hz2⟩ := info_parts info
  refine wpList_plain hg fun K hK' => ?_
  unfold maxLen at b3
  have hb' : (i0.bytes : Int) * (n : Int) ≤ 281474976710656 := by
    have h : ((bytes * n : Nat) : Int) ≤ 281474976710656 := by omega
    rw [hz2]
    rwa [Int.natCast_mul] at h
  have hr := run_make (P := P) w t e i0 z und hi hz0 kl kc n n (by omega) (Int.le_refl _) hb' (by omega)
  simp only [Int.toNat_natCast] at hr
  unfold Oper.wp
  simp [execOp, hop, hl, hc, hr, Result.andThen]
  exact hK' _ _ (hK _ _ (BoxAt.made w _ _) (by rw [size_madeCells, hz1]) ((Ext.refl w).alloc _))

theorem run_copyS {P : Program} (w : World) (dT sT ty elem : TypeId) (size n : Nat) (g dCap : Nat) (a : Option Addr) (sCap : Nat) (cur : Array Value) (t : TypeId) (cs : List Value)
    (hu : P.underlying dT = some (.slice elem)) (hs : (P.info? elem).map (·.size) = some size)
    (hg : BoxAt w g cur t) (hn : cs.length = n * size) (hcur : cur.size = n * size)
    (ha : a = none → n = 0) (hsrc : ∀ ad, a = some ad → ∀ j v, cs[j]? = some v → w.cell? (ad.add j) = some v) (h1 : ∀ v ∈ cs, v.oneCell' = true) :
    (Builtin.copy_ #[dT, sT] ty #[.slice (some ⟨g, 0, none⟩) n dCap, .slice a n sCap]).run P w = .ok (goInt n) (w.setRow g cs.toArray) := by
  have hst := run_storeCells_at P g 0 t cs 0 cur w hg (by omega) h1
  have e1 : cur.toList.take 0 ++ cs ++ cur.toList.drop (0 + 0 + cs.length) = cs := by
    rw [List.drop_eq_nil_of_le (by simp; omega)]
    simp
  simp only [Nat.zero_add] at hst e1
  rw [e1] at hst
  cases hq : P.info? elem with
  | none => simp [hq] at hs
  | some i =>
    have hi : i.size = size := by simpa [hq] using hs
    cases a with
    | none =>
      obtain rfl := ha rfl
      obtain rfl : cs = [] := List.eq_nil_of_length_eq_zero (by omega)
      simp [Builtin.copy_, run_underlying hu, Builtin.lenOf, Builtin.firstCells, sizeOf, typeInfo, hq, hi, hst]
    | some ad =>
      have hl := run_loadCells_list (P := P) w ad cs (hsrc ad rfl)
      rw [hn] at hl
      simp [Builtin.copy_, run_underlying hu, Builtin.lenOf, Builtin.firstCells, sizeOf, typeInfo, hq, hi, hl, hst]

theorem wpList_copy_box {P : Program} (w : World) {ops : Array Oper} {rest : List Oper} {o : Oper} {a : Act} {Q : Exit → Act → World → Prop} {dT sT elem : TypeId} {z : Value} {size bytes : Nat}
    (info : (P.info? elem).map (fun i => (i.zero, i.size, i.bytes)) = some (some z, size, bytes)) (und : P.underlying dT = some (.slice elem)) (hgd : o.guard = none) (d s : Operand)
    (ho : o.op = .call { callee := .builtin .copy, args := #[d, s], argTypes := #[dT, sT] }) (n g dCap : Nat) (hd : a.eval d = .slice (some ⟨g, 0, none⟩) n dCap) (u : Value) (hs : a.eval s = u)
    (cur : Array Value) (t : TypeId) (hb : BoxAt w g cur t) (hcur : cur.size = n * size) (xs : List Value) (hx : xs.length = n * size) (hin : SliceIn w u n xs) (h1 : ∀ v ∈ xs, v.oneCell' = true)
    (h : ∀ w', BoxAt w' g xs.toArray t → w.grownBy w' (some g) → wpList P ops Q rest (a.put o.dst (goInt n)) w') : wpList P ops Q (o :: rest) a w := by
  obtain ⟨i0, hi, hz0, hz1, hz2⟩ := info_parts info
  obtain ⟨ad, c, rfl, hc, hcm, ha, hcell⟩ := hin
  have hrun := run_copyS (P := P) w dT sT o.type elem size n g dCap ad c cur t xs und (by rw [hi]; simpa using hz1) hb hx hcur (fun e => by have := ha e; omega) (fun a' e j v hj => by
    obtain ⟨b, o', e', h'⟩ := hcell j v hj
    rw [e] at e'
    cases e'
    rw [Addr.add_lit]
    exact h') h1
  refine wpList_plain hgd fun K hK => ?_
  unfold Oper.wp
  simp [execOp, ho, resolve, invoke, builtin, hd, hs, hrun, Result.andThen]
  exact hK _ _ (h _ (setRow_heap w g _ _ t _ hb) ⟨rfl, rfl, rfl, by simp, fun k hk hne => setRow_other w g k _ (fun e => hne (by rw [e]))⟩)
end Go.Proofs.YtcmgeccgahakbaaDoor

/- part.Copy. -/
namespace Go.Proofs.YtcmgeccgahakbaaDoor
open Go Go.RowKit
attribute [local go_sem] yields yUpon ro8 pa3

theorem roCells_set : ∀ (l : List (Ro × Value)) (k : Nat) (h : k < l.length) (v : Value), (roCells l).set (k * 8 + 7) v = roCells (l.set k (l[k].1, v))
  | c :: l, 0, _, v => by simp [roCells]
  | c :: l, k + 1, h, v => by
    have ih := roCells_set l k (by simpa using h) v
    have e : (k + 1) * 8 + 7 = k * 8 + 7 + 8 := by omega
    simp only [e, roCells, List.set_cons_succ, List.getElem_cons_succ]
    rw [ih]
theorem rowBox_at {w : World} {R : Nat} {qs : List (Ro × Value)} {T : TypeId} (h : BoxAt w R (roCells qs).toArray T) (k : Nat) (hk : k < qs.length) : RoAt w R (k * 8) qs[k].1 qs[k].2 := by
  have g : ∀ j u, j < 8 → (ro8 qs[k].1 qs[k].2)[j]? = some u → w.cell? ⟨R, k * 8 + j, none⟩ = some u := fun j u hj he => by
    rw [h.cell, List.getElem?_toArray, roCells_get qs k hk j hj]
    exact he
  exact ⟨g 0 _ (by decide) rfl, g 1 _ (by decide) rfl, g 2 _ (by decide) rfl, g 3 _ (by decide) rfl, g 4 _ (by decide) rfl, g 5 _ (by decide) rfl, g 6 _ (by decide) rfl, g 7 _ (by decide) rfl⟩
theorem rowBox_set {w : World} {R : Nat} {qs : List (Ro × Value)} {T : TypeId} (h : BoxAt w R (roCells qs).toArray T) (k : Nat) (hk : k < qs.length) (v : Value) : BoxAt (w.setCell ⟨R, k * 8 + 7, none⟩ v) R (roCells (qs.set k (qs[k].1, v))).toArray T := by
  have := h.set (k * 8 + 7) v
  rw [List.setIfInBounds_toArray, roCells_set qs k hk] at this
  exact this
/-- A row's columns in new memory, behind block R. -/
def DoneC (x : World) (R : Nat) (p : Ro × Value) : Prop := (p.2 = .slice none 0 0 ∧ p.1.cols = []) ∨ ∃ b, R < b ∧ p.2 = .slice (some ⟨b, 0, none⟩) p.1.cols.length p.1.cols.length ∧ BoxAt x b (coCells p.1.cols).toArray 154 ∧ p.1.cols.length ≤ 1000000
theorem DoneC.ext {x y : World} {R : Nat} {p : Ro × Value} (hE : Ext x y) (h : DoneC x R p) : DoneC y R p := h.imp_right fun ⟨b, hb, e, hx, hl⟩ => ⟨b, hb, e, hx.ext hE, hl⟩
theorem DoneC.set {x : World} {R i : Nat} {u : Value} {p : Ro × Value} (h : DoneC x R p) : DoneC (x.setCell ⟨R, i, none⟩ u) R p := h.imp_right fun ⟨b, hb, e, hx, hl⟩ => ⟨b, hb, e, hx.other (by omega) i u, hl⟩
theorem DoneC.other {x : World} {R q i : Nat} {u : Value} {p : Ro × Value} (hq : q ≤ R) (h : DoneC x R p) : DoneC (x.setCell ⟨q, i, none⟩ u) R p := h.imp_right fun ⟨b, hb, e, hx, hl⟩ => ⟨b, hb, e, hx.other (by omega) i u, hl⟩
theorem DoneC.grown {x y : World} {R q : Nat} {p : Ro × Value} (hq : q ≤ R) (hg : x.grownBy y (some q)) (h : DoneC x R p) : DoneC y R p := h.imp_right fun ⟨b, hb, e, hx, hl⟩ => ⟨b, hb, e, hx.grown hg (fun e => by cases e; omega), hl⟩
theorem DoneC.typed {x : World} {R : Nat} {p : Ro × Value} (h : DoneC x R p) : ColsT x p.2 p.1.cols := by
  rcases h with ⟨e, e'⟩ | ⟨b, _, e, hx, hl⟩
  · rw [e, e']; exact ColsT.nil x
  · rw [e]; exact TIn.box hx (by unfold maxLen; omega)

set_option maxRecDepth 100000 in
set_option maxHeartbeats 4000000 in
theorem pcopy_any (pk : ByteArray) (pg : Int) (u : Value) (ps : List (Ro × Value)) (w : World) (hin : RowsIn w u ps) (hlen : ps.length ≤ 1000000) (hcl : ∀ p ∈ ps, p.1.cols.length ≤ 1000000) :
    Calls Tryd.prog 98 #[.agg #[.string pk, .int .i64 pg, u]] w fun e w' => ∃ v', e = .returned (.agg #[.string pk, .int .i64 pg, v']) ∧ ∃ qs, RowsT w' v' qs ∧ qs.map (·.1) = ps.map (·.1) ∧ Ext w w' := by
  obtain ⟨a0, a1, hE⟩ := boxes2 w (pa3 pk pg u) (pa3 ⟨#[]⟩ 0 (.slice none 0 0)) 24 24
  obtain ⟨aa, ca, rfl, hca, hcma, _⟩ := hin.get
  have hone := roCells_one ps (fun p hp => let ⟨a, c, e⟩ := (hin.cols p hp).shape; ⟨a, _, c, e⟩)
  obtain ⟨n, hn⟩ : ∃ n, n = ps.length := ⟨_, rfl⟩
  rw [← hn] at hlen hca a0 a1 hE ⊢
  have HN := Lib.hid hn
  clear hn
  go_enter Tryd.func98, Tryd.ntmps98
  go_wp2_with (first
    | (at_make; go_must (refine wpList_make_box _ info_Row und_Rows rfl (.tmp 9) (.tmp 9) rfl _ _ n rfl rfl (by omega) (by unfold maxLen; omega) ?_); intro w2 Z hZ hZs hE2; replace hZ : BoxAt w2 (w.heap.size + 1 + 1) Z 91 := (by simpa using hZ); replace a0 := a0.ext hE2; replace a1 := a1.ext hE2; replace hE := hE.trans hE2; have c0 := a0.pa; clear hE2)
    | (guard_target =~ wpList _ _ _ (Oper.mk _ (Op.call { callee := Callee.builtin Builtin.copy, args := _, argTypes := _ }) _ _ _ _ :: _) _ _; go_must (refine wpList_copy_box w2 info_Row und_Rows rfl (.tmp 11) (.tmp 13) rfl n (w.heap.size + 1 + 1) n rfl _ rfl Z _ hZ hZs (roCells ps) (by rw [roCells_length, HN.out]) (by rw [HN.out]; exact hin.rows.ext hE) hone ?_); intro w3 hR hg3; replace a0 := a0.grown hg3 (fun e => by have := Option.some.inj e; omega); replace a1 := a1.grown hg3 (fun e => by have := Option.some.inj e; omega); replace hE := hE.grown hg3 (fun q hq => by cases hq; omega); clear hZ hZs hg3 c0))
  go_loopw [17] (fun i wr => ∃ (k : Nat) (qs : List (Ro × Value)), k ≤ n ∧ i = .int .i64 k ∧ qs.length = n ∧ Hid (qs.map (·.1) = ps.map (·.1)) ∧ BoxAt wr (w.heap.size + 1 + 1) (roCells qs).toArray 91 ∧ BoxAt wr w.heap.size (pa3 pk pg (.slice aa n ca)) 24 ∧ BoxAt wr (w.heap.size + 1) (pa3 ⟨#[]⟩ 0 (.slice none 0 0)) 24 ∧ Ext w wr ∧ Hid (∀ j (h : j < qs.length), j < k → DoneC wr (w.heap.size + 1 + 1) qs[j]) ∧ Hid (∀ j (h : j < qs.length), k ≤ j → ColsIn w qs[j].2 qs[j].1.cols)) (fun i _ => n - (intOf i).toNat)
  case atStart => exact ⟨0, ps, Nat.zero_le _, rfl, HN.out.symm, rfl, hR, a0, a1, hE, fun j _ h => absurd h (Nat.not_lt_zero j), fun j h _ => hin.cols _ (List.getElem_mem h)⟩
  case round =>
    obtain ⟨k, qs, hk, rfl, hql, HM, hRk, b0, b1, hE, HD, HC⟩ := hrel
    clear a0 a1 hR
    by_cases hlt : k < n
    · have hki : decide ((k : Int) < (n : Int)) = true := by simpa using hlt
      have hkq : k < qs.length := by omega
      have hcu := HC.out k hkq (Nat.le_refl _)
      obtain ⟨M, hM⟩ : ∃ M, M = qs[k].1 := ⟨_, rfl⟩
      obtain ⟨au, cu, hu⟩ := hcu.shape
      rw [← hM] at hcu hu
      rw [hu] at hcu
      have hat := rowBox_at hRk k hkq
      rw [← hM, hu] at hat
      have HM' := Lib.hid hM
      have HU := Lib.hid hu
      clear hM hu
      have hml : M.cols.length ≤ 1000000 := by
        have hmem : M ∈ ps.map (·.1) := by rw [← HM.out, HM'.out]; exact List.mem_map_of_mem (List.getElem_mem hkq)
        obtain ⟨p, hp, e⟩ := List.mem_map.1 hmem
        rw [← e]; exact hcl p hp
      obtain ⟨L, hL⟩ : ∃ L, L = M.cols := ⟨_, rfl⟩
      rw [← hL] at hcu hat hml
      have HL := Lib.hid hL
      clear hL
      obtain ⟨m, hm⟩ : ∃ m, m = L.length := ⟨_, rfl⟩
      rw [← hm] at hcu hat hml
      have Hm := Lib.hid hm
      clear hm
      obtain ⟨x0, x1, x2, x3, x4, x5, x6, x7⟩ := hat
      have hRs := hRk.lt
      by_cases hm0 : 0 < m
      rotate_left
      · skip
        go_wp2_with (first
          | (((guard_target =~ wpList _ _ _ (Oper.mk none (Op.store _ (Operand.tmp 5) (Operand.tmp 21)) _ _ _ _ :: _) _ _); go_must (refine storeBox rfl 91 (.tmp 5) (.tmp 21) rfl (wr.heap.size) _ _ _ (by rfl) (by rfl) ((BoxAt.made wr (ro8 ⟨⟨#[]⟩, zeroCl, 0, 0, []⟩ (.slice none 0 0)) 91)) (by kernel_rfl) (by rfl) (by simp [Value.oneCell']) ?_); intro w4 c4 g4); have hX4 : Ext wr w4 := ((Ext.refl wr).alloc _).grown g4 (fun q hq => by cases hq; omega); have d4 := c4.ro (r := ⟨M.key, M.live, M.gone, M.shade, []⟩) (v := .slice au m cu))
          | (at_make; go_must (refine wpList_make_box w4 info_Col und_Cols rfl (.tmp 24) (.tmp 24) rfl _ _ m rfl rfl (by omega) (by unfold maxLen; omega) ?_); intro w5 Z5 hZ5 hZs5 hE5; have hX5 := hX4.trans hE5; have d5 := (c4.ext hE5).ro (r := ⟨M.key, M.live, M.gone, M.shade, []⟩) (v := .slice au m cu); clear d4)
          | (guard_target =~ wpList _ _ _ (Oper.mk _ (Op.call { callee := Callee.builtin Builtin.copy, args := _, argTypes := _ }) _ _ _ _ :: _) _ _; go_must (refine wpList_copy_box w5 info_Col und_Cols rfl (.tmp 26) (.tmp 28) rfl m w4.heap.size m rfl _ rfl Z5 _ hZ5 hZs5 (coCells L) (by rw [coCells_length, Hm.out]) (show SliceIn _ _ m _ from by have := hcu.ext (hE.trans hX5); unfold ColsIn at this; rwa [← Hm.out] at this) (coCells_one L) ?_); intro w6 hb6 hg6; have hX6 := hX5.grown hg6 (fun q hq => by cases hq; exact hX4.le); have hR6 := hRk.ext hX6; have y7 := (rowBox_at hR6 k hkq).c7; have f7 := hR6.free (k * 8 + 7); clear d5 hg6))
        have hS1 := rowBox_set hR6 k hkq (.slice none 0 0)
        have hXX := hE.trans hX6
        go_roundw
        case rel =>
          have hlen' : (qs.set k (qs[k].1, .slice none 0 0)).length = qs.length := List.length_set ..
          refine ⟨k + 1, qs.set k (qs[k].1, .slice none 0 0), hlt, rfl, by rw [hlen', hql], ?_, hS1, (b0.ext hX6).other (by omega) _ _, (b1.ext hX6).other (by omega) _ _, hXX.setCell (by show w.heap.size ≤ w.heap.size + 1 + 1; omega) _, fun j h hj => ?_, fun j h hj => ?_⟩
          · show _ = _
            rw [← HM.out, List.map_set]
            refine List.ext_getElem? fun i => ?_
            rw [List.getElem?_set]
            split
            · rename_i e; subst e; simp [hkq]
            · rfl
          · rw [List.getElem_set]
            split
            · rename_i e
              refine .inl ⟨rfl, ?_⟩
              show qs[k].1.cols = []
              rw [← HM'.out, ← HL.out]
              exact List.eq_nil_of_length_eq_zero (by rw [← Hm.out]; omega)
            · exact ((HD.out j (by rw [hlen'] at h; exact h) (by omega)).ext hX6).set
          · rw [List.getElem_set]
            split
            · omega
            · exact HC.out j (by rw [hlen'] at h; exact h) (by omega)
        case measure => simp [intOf]; omega
      · have hmi : decide ((0 : Int) < (m : Int)) = true := decide_eq_true (by omega)
        go_wp2_with (first
          | (((guard_target =~ wpList _ _ _ (Oper.mk none (Op.store _ (Operand.tmp 5) (Operand.tmp 21)) _ _ _ _ :: _) _ _); go_must (refine storeBox rfl 91 (.tmp 5) (.tmp 21) rfl (wr.heap.size) _ _ _ (by rfl) (by rfl) ((BoxAt.made wr (ro8 ⟨⟨#[]⟩, zeroCl, 0, 0, []⟩ (.slice none 0 0)) 91)) (by kernel_rfl) (by rfl) (by simp [Value.oneCell']) ?_); intro w4 c4 g4); have hX4 : Ext wr w4 := ((Ext.refl wr).alloc _).grown g4 (fun q hq => by cases hq; omega); have d4 := c4.ro (r := ⟨M.key, M.live, M.gone, M.shade, []⟩) (v := .slice au m cu))
          | (at_make; go_must (refine wpList_make_box w4 info_Col und_Cols rfl (.tmp 24) (.tmp 24) rfl _ _ m rfl rfl (by omega) (by unfold maxLen; omega) ?_); intro w5 Z5 hZ5 hZs5 hE5; have hX5 := hX4.trans hE5; have d5 := (c4.ext hE5).ro (r := ⟨M.key, M.live, M.gone, M.shade, []⟩) (v := .slice au m cu); clear d4)
          | (guard_target =~ wpList _ _ _ (Oper.mk _ (Op.call { callee := Callee.builtin Builtin.copy, args := _, argTypes := _ }) _ _ _ _ :: _) _ _; go_must (refine wpList_copy_box w5 info_Col und_Cols rfl (.tmp 26) (.tmp 28) rfl m w4.heap.size m rfl _ rfl Z5 _ hZ5 hZs5 (coCells L) (by rw [coCells_length, Hm.out]) (show SliceIn _ _ m _ from by have := hcu.ext (hE.trans hX5); unfold ColsIn at this; rwa [← Hm.out] at this) (coCells_one L) ?_); intro w6 hb6 hg6; have hX6 := hX5.grown hg6 (fun q hq => by cases hq; exact hX4.le); have hR6 := hRk.ext hX6; have y7 := (rowBox_at hR6 k hkq).c7; have f7 := hR6.free (k * 8 + 7); clear d5 hg6))
        have hS0 := rowBox_set hR6 k hkq (.slice none 0 0)
        have hS1 := rowBox_set hS0 k (by rw [List.length_set]; exact hkq) (.slice (some ⟨w4.heap.size, 0, none⟩) m m)
        rw [List.set_set, List.getElem_set_self] at hS1
        have hle4 := hX4.le
        have hXX := hE.trans hX6
        go_roundw
        case rel =>
          have hlen' : (qs.set k (qs[k].1, .slice (some ⟨w4.heap.size, 0, none⟩) m m)).length = qs.length := List.length_set ..
          refine ⟨k + 1, qs.set k (qs[k].1, .slice (some ⟨w4.heap.size, 0, none⟩) m m), hlt, rfl, by rw [hlen', hql], ?_, hS1, ((b0.ext hX6).other (by omega) _ _).other (by omega) _ _, ((b1.ext hX6).other (by omega) _ _).other (by omega) _ _, (hXX.setCell (by show w.heap.size ≤ w.heap.size + 1 + 1; omega) _).setCell (by show w.heap.size ≤ w.heap.size + 1 + 1; omega) _, fun j h hj => ?_, fun j h hj => ?_⟩
          · show _ = _
            rw [← HM.out, List.map_set]
            refine List.ext_getElem? fun i => ?_
            rw [List.getElem?_set]
            split
            · rename_i e; subst e; simp [hkq]
            · rfl
          · rw [List.getElem_set]
            split
            · rename_i e
              have hcols : qs[k].1.cols = L := by rw [← HM'.out, ← HL.out]
              refine .inr ⟨w4.heap.size, by omega, ?_, ?_, ?_⟩
              · show Value.slice _ m m = _
                simp only [hcols, ← Hm.out]
              · show BoxAt _ _ (coCells qs[k].1.cols).toArray _
                rw [hcols]
                exact (hb6.other (by omega) _ _).other (by omega) _ _
              · show qs[k].1.cols.length ≤ _
                rw [hcols, ← Hm.out]
                exact hml
            · exact ((HD.out j (by rw [hlen'] at h; exact h) (by omega)).ext hX6).set.set
          · rw [List.getElem_set]
            split
            · omega
            · exact HC.out j (by rw [hlen'] at h; exact h) (by omega)
        case measure => simp [intOf]; omega
    · have c0 := b0.pa
      have e0 := b0.free 2
      have c1 := b1.pa
      by_cases hn0 : 0 < n
      · go_wp2_with ((guard_target =~ wpList _ _ _ (Oper.mk none (Op.store _ (Operand.tmp 2) (Operand.tmp 49)) _ _ _ _ :: _) _ _); go_must (refine storeBox rfl 24 (.tmp 2) (.tmp 49) rfl (w.heap.size + 1) _ _ _ (by rfl) (by rfl) (((b1.other (by omega) _ _).other (by omega) _ _)) (by kernel_rfl) (by rfl) (by simp [Value.oneCell']) ?_); intro w9 c9 g9)
        have hX9 := ((hE.setCell (p := ⟨w.heap.size, 2, none⟩) (Nat.le_refl _) (.slice none 0 0)).setCell (p := ⟨w.heap.size, 2, none⟩) (Nat.le_refl _) (.slice (some ⟨w.heap.size + 1 + 1, 0, none⟩) n n)).grown g9 (fun q hq => by cases hq; omega)
        have hR9 := ((hRk.other (by omega) _ _).other (by omega) _ _).grown g9 (fun e => by have := Option.some.inj e; omega)
        have hD9 : ∀ p ∈ qs, DoneC w9 (w.heap.size + 1 + 1) p := fun p hp => by
          obtain ⟨j, hj, rfl⟩ := List.mem_iff_getElem.1 hp
          exact (((HD.out j hj (by omega)).other (by omega)).other (by omega)).grown (by omega) g9
        have FINR : RowsT w9 (.slice (some ⟨w.heap.size + 1 + 1, 0, none⟩) n n) qs := by
          rw [← hql]
          exact ⟨TIn.box hR9 (by unfold maxLen; omega), fun p hp => (hD9 p hp).typed⟩
        obtain ⟨z0, z1, z2⟩ := c9.pa (k := pk) (g := pg) (u := .slice (some ⟨w.heap.size + 1 + 1, 0, none⟩) n n)
        refine bodyPost_ret (v := .agg #[.string pk, .int .i64 pg, .slice (some ⟨w.heap.size + 1 + 1, 0, none⟩) n n]) ?_ rfl ⟨_, rfl, qs, FINR, HM.out, hX9⟩
        simp [results, Tryd.results98, go_sem, z0, z1, z2]
      · go_wp2_with ((guard_target =~ wpList _ _ _ (Oper.mk none (Op.store _ (Operand.tmp 2) (Operand.tmp 49)) _ _ _ _ :: _) _ _); go_must (refine storeBox rfl 24 (.tmp 2) (.tmp 49) rfl (w.heap.size + 1) _ _ _ (by rfl) (by rfl) ((b1.other (by omega) _ _)) (by kernel_rfl) (by rfl) (by simp [Value.oneCell']) ?_); intro w9 c9 g9)
        have hX9 := (hE.setCell (p := ⟨w.heap.size, 2, none⟩) (Nat.le_refl _) (.slice none 0 0)).grown g9 (fun q hq => by cases hq; omega)
        obtain rfl : qs = [] := List.eq_nil_of_length_eq_zero (by omega)
        obtain ⟨z0, z1, z2⟩ := c9.pa (k := pk) (g := pg) (u := .slice none 0 0)
        refine bodyPost_ret (v := .agg #[.string pk, .int .i64 pg, .slice none 0 0]) ?_ rfl ⟨_, rfl, [], RowsT.nil _, HM.out, hX9⟩
        simp [results, Tryd.results98, go_sem, z0, z1, z2]
end Go.Proofs.YtcmgeccgahakbaaDoor

/- tree.Of of any list of partitions (configuration that may be). -/
namespace Go.Proofs.YtcmgeccgahakbaaDoor
open Go Go.RowKit
attribute [local go_sem] yields yUpon

/-- The partitions of some buckets that both own. -/
def ofB (n c : Nat) (x y : Int) (bs : List Int) (p : Pa) : Bool := hasI bs (bucket1 p.key : Int) && bothP n c x y p
def ofL (n c : Nat) (x y : Int) (bs : List Int) (L : List Pa) : List (ByteArray × Int × List Ro) := (L.filter (ofB n c x y bs)).map Pa.data
theorem ofL_skip {n c : Nat} {x y : Int} {bs : List Int} {L : List Pa} {p : Pa} (h : ofB n c x y bs p = false) : ofL n c x y bs (L ++ [p]) = ofL n c x y bs L := by
  simp [ofL, List.filter_append, h]
theorem ofL_hit {n c : Nat} {x y : Int} {bs : List Int} {L : List Pa} {p : Pa} (h : ofB n c x y bs p = true) : ofL n c x y bs (L ++ [p]) = ofL n c x y bs L ++ [p.data] := by
  simp [ofL, List.filter_append, h]
theorem own_shapeX {w : World} {B : Nat} {e : TypeId} {size n : Nat} {v : Value} {xs : List Value} (h : w.ownsRow B e size v n xs) : ∃ a c, v = .slice a n c := by
  obtain ⟨a, c, h, _⟩ := SliceIn.of_owns h
  exact ⟨a, c, h⟩

set_option maxRecDepth 100000 in
set_option maxHeartbeats 16000000 in
theorem of_yes (n c : Nat) (t : Int) (hc : confB n c t = true) (v : Value) (L : List Pa) (x y : Int) (bv : Value) (bs : List Int) (w : World) (hin : PartsIn w v L) (hbs : IntsIn w bv .i64 bs) (hlen : L.length ≤ 1000000) (hkey : ∀ p ∈ L, p.key.size ≤ maxLen) (hrow : ∀ p ∈ L, p.ps.length ≤ 1000000 ∧ ∀ q ∈ p.ps, q.1.cols.length ≤ 1000000) :
    Calls Tryd.prog 36 #[.agg #[.int .i64 (n : Int), .int .i64 (c : Int), .int .i64 t], v, .int .i64 x, .int .i64 y, bv] w fun e w' => ∃ v' M, ((e = .returned v' ∧ Ext w w') ∧ PartsT w' v' M) ∧ M.map Pa.data = ofL n c x y bs L := by
  have b0 := BoxAt.made w #[.int .i64 (n : Int), .int .i64 (c : Int), .int .i64 t] 67
  have hE0 := (Ext.refl w).alloc (.cells #[.int .i64 (n : Int), .int .i64 (c : Int), .int .i64 t] 67)
  have HC := Lib.hid hc
  have HI := Lib.hid hin
  have HB := Lib.hid hbs
  obtain ⟨a, cc, rfl, hcc, hccm, hcell⟩ := hin.get
  have HL := Lib.hid hcell
  have HK := Lib.hid hkey
  have HRw := Lib.hid hrow
  clear hin hc hcell hkey hbs hrow
  obtain ⟨m, hm⟩ : ∃ m, m = L.length := ⟨_, rfl⟩
  have HM := Lib.hid hm
  rw [← hm] at hcc hlen HI ⊢
  clear hm
  go_enter Tryd.func36, Tryd.ntmps36
  go_wp2
  obtain ⟨w0, hw0⟩ : ∃ w0, w0 = w.alloc (.cells #[.int .i64 (n : Int), .int .i64 (c : Int), .int .i64 t] 67) := ⟨_, rfl⟩
  rw [← hw0] at b0 hE0 ⊢
  clear hw0
  go_loopw [11, 16] (fun vb i wr => ∃ (k : Nat) (vo : Value) (M : List Pa), k ≤ m ∧ i = .int .i64 k ∧ vb = vo ∧ M.length ≤ k ∧ wr.ownsRow w0.heap.size 24 3 vo M.length (paCells M) ∧ (∀ p ∈ M, RowsT wr p.rv p.ps) ∧ Hid (M.map Pa.data = ofL n c x y bs (L.take k)) ∧ Ext w0 wr) (fun _ i _ => m - (intOf i).toNat)
  case atStart => exact ⟨0, _, [], Nat.zero_le _, rfl, rfl, Nat.le_refl _, World.ownsRow_nil _ _ _ _, nofun, Lib.hid rfl, Ext.refl _⟩
  case round =>
    obtain ⟨k, vo, M, hk, rfl, rfl, hMk, hown, hrows, HD, hE⟩ := hrel
    obtain ⟨ao, co, rfl⟩ := own_shapeX hown
    by_cases hkm : k < m
    · have hkl : k < L.length := by rw [← HM.out]; exact hkm
      obtain ⟨b, o, rfl, hpa⟩ := HL.out k hkl
      replace hpa := hpa.ext (hE0.trans hE)
      obtain ⟨p, hp⟩ : ∃ p, p = L[k] := ⟨_, rfl⟩
      have hmem : p ∈ L := by rw [hp]; exact List.getElem_mem hkl
      have HTK : Hid (L.take (k + 1) = L.take k ++ [p]) := Lib.hid (by rw [List.take_succ_eq_append_getElem hkl, hp])
      rw [← hp] at hpa
      clear hp
      have hr := (HI.out.rows p hmem).ext (hE0.trans hE)
      have hks := HK.out p hmem
      have HLo := Lib.hid (HRw.out p hmem)
      obtain ⟨pk, pg, pu, ps⟩ := p
      obtain ⟨p0, p1, p2⟩ := hpa
      replace hr : RowsIn wr pu ps := hr
      replace hks : pk.size ≤ maxLen := hks
      replace p0 : wr.cell? ⟨b, o + k * 3, none⟩ = some (.string pk) := p0
      replace p1 : wr.cell? ⟨b, o + k * 3 + 1, none⟩ = some (.int .i64 pg) := p1
      replace p2 : wr.cell? ⟨b, o + k * 3 + 2, none⟩ = some pu := p2
      have HR := Lib.hid hr
      obtain ⟨au, cu, rfl, _⟩ := hr.get
      clear hr
      obtain ⟨A, hA⟩ : ∃ A, A = hasI bs (bucket1 pk : Int) := ⟨_, rfl⟩
      have HA := Lib.hid hA
      obtain ⟨B, hB⟩ : ∃ B, B = (ownN n c (place1 pk) x && ownN n c (place1 pk) y) := ⟨_, rfl⟩
      have HBB := Lib.hid hB
      clear hA hB
      go_wp2_with (first
        | (((guard_target =~ wpList _ _ _ (Oper.mk none (Op.store _ (Operand.tmp 13) (Operand.tmp 19)) _ _ _ _ :: _) _ _); go_must (refine storeBox rfl 24 (.tmp 13) (.tmp 19) rfl (wr.heap.size) _ _ _ (by rfl) (by rfl) ((BoxAt.made wr #[.string ⟨#[]⟩, .int .i64 0, .slice none 0 0] 24)) (by kernel_rfl) (by rfl) (by simp [Value.oneCell']) ?_); intro w2 d2 g2); have hE2 : Ext wr w2 := (((Ext.refl wr).alloc _).grown g2 (fun q hq => by cases hq; exact Nat.le_refl _)); have q0 : w2.cell? ⟨wr.heap.size, 0, none⟩ = some (.string pk) := d2.cell 0)
        | (go_at_call 96; go_must (refine (rgbucket_any pk hks _).mono ?_); rintro e w3 ⟨rfl, hE3⟩; have hX3 := hE2.trans hE3)
        | (go_at_call 95; go_must (refine (contI_any _ bs _ _ (HB.out.ext (hE0.trans (hE.trans hX3)))).mono ?_); rintro e w4 ⟨rfl, rfl⟩; rw [← HA.out]; have d3 := d2.ext hE3; have q0 : w3.cell? ⟨wr.heap.size, 0, none⟩ = some (.string pk) := d3.cell 0; have z2 := b0.ext (hE.trans hX3); have x0 : w3.cell? ⟨w.heap.size, 0, none⟩ = some (.int .i64 (n : Int)) := z2.cell 0; have x1 : w3.cell? ⟨w.heap.size, 1, none⟩ = some (.int .i64 (c : Int)) := z2.cell 1; have x2 : w3.cell? ⟨w.heap.size, 2, none⟩ = some (.int .i64 t) := z2.cell 2; cases A)
        | (go_at_call 97; go_must (refine (both_yes n c t HC.out pk hks x y _).mono ?_); rintro e w5 ⟨rfl, hE5⟩; rw [← HBB.out]; have hX5 := hX3.trans hE5; have d5 := d3.ext hE5; have q0 : w5.cell? ⟨wr.heap.size, 0, none⟩ = some (.string pk) := d5.cell 0; have q1 : w5.cell? ⟨wr.heap.size, 1, none⟩ = some (.int .i64 pg) := d5.cell 1; have q2 : w5.cell? ⟨wr.heap.size, 2, none⟩ = some (.slice au ps.length cu) := d5.cell 2; cases B)
        | (go_at_call 98; go_must (refine (pcopy_any pk pg _ ps _ (HR.out.ext hX5) HLo.out.1 HLo.out.2).mono ?_); rintro e w6 ⟨v6, rfl, qs, hq6, hm6, hE6⟩; obtain ⟨a6, c6, rfl⟩ := hq6.shape; have HM6 := Lib.hid hm6; obtain ⟨nq, hnq⟩ : ∃ nq, nq = qs.length := ⟨_, rfl⟩; rw [← hnq] at hq6 ⊢; clear hnq hm6; have hX6 := hX5.trans hE6; have hown6 := ownsRow_ext hown hX6)
        | (at_builtin; go_must (refine appR info_Part und_Parts rfl (by decide) w6 rfl (.tmp 33) (.tmp 36) rfl w0.heap.size (hE.trans hX6).le (.slice ao M.length co) M.length (paCells M) hown6 rfl 1 (pa3 pk pg (.slice a6 nq c6)) rfl rfl (by simp [pa3, Value.oneCell']) (by unfold maxLen; omega) (by omega) ?_); intro v7 w7 hown7 hg7))
      · go_roundw
        case rel => exact ⟨k + 1, _, M, hkm, by go_num, rfl, by omega, ownsRow_ext hown hX3, fun p hp => (hrows p hp).ext hX3, Lib.hid (by rw [HTK.out, ofL_skip (by simp [ofB, ← HA.out])]; exact HD.out), hE.trans hX3⟩
        case measure => simp [intOf]; omega
      · go_roundw
        case rel => exact ⟨k + 1, _, M, hkm, by go_num, rfl, by omega, ownsRow_ext hown hX5, fun p hp => (hrows p hp).ext hX5, Lib.hid (by rw [HTK.out, ofL_skip (by simp [ofB, bothP, ← HBB.out])]; exact HD.out), hE.trans hX5⟩
        case measure => simp [intOf]; omega
      · have hXa := (Ext.refl w6).alloc (.cells (pa3 pk pg (.slice a6 nq c6)) 24)
        have howna := ownsRow_ext hown6 hXa
        have hkr : ∀ {rv ps}, RowsT w6 rv ps → RowsT w7 rv ps := fun h => (h.ext hXa).keepOwn howna hg7 (by decide) (by decide)
        have hE7 : Ext w0 w7 := ((hE.trans hX6).trans hXa).grown hg7 (fun q hq => (hown6.lt q hq).1)
        go_roundw
        case rel =>
          refine ⟨k + 1, _, M ++ [⟨pk, pg, .slice a6 nq c6, qs⟩], hkm, by go_num, rfl, by simp; omega, ?_, fun p hp => ?_, Lib.hid ?_, hE7⟩
          · rw [paCells_append, List.length_append]
            exact hown7
          · rcases List.mem_append.1 hp with hp | hp
            · exact hkr ((hrows p hp).ext hX6)
            · rw [List.mem_singleton.1 hp]
              exact hkr hq6
          · rw [HTK.out, ofL_hit (by simp [ofB, bothP, ← HA.out, ← HBB.out]), List.map_append, HD.out]
            simp [Pa.data, HM6.out]
        case measure => simp [intOf]; omega
    · obtain rfl : k = m := by omega
      have hD := HD.out
      rw [HM.out, List.take_length] at hD
      have HD2 := Lib.hid hD
      clear hD
      go_wp2
      go_ret
      exact ⟨_, M, ⟨⟨rfl, hE0.trans hE⟩, ⟨TIn.own hown, hrows⟩⟩, HD2.out⟩
end Go.Proofs.YtcmgeccgahakbaaDoor
