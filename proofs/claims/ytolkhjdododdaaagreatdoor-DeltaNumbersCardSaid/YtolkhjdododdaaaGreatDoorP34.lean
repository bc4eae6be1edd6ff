/- clerestorylaw00.SameParts of lists that read alike; SameInts is SameB's. -/
import Derived.Test.YtolkhjdododdaaaGreatDoorP33
import Derived.BigQuiet
import Derived.Test.YtolkhjdododdaaaGreatDoorP31
import Derived.Test.YtolkhjdododdaaaGreatDoorP28
import Derived.Test.YtolkhjdododdaaaGreatDoorP2
import Derived.Test.YtolkhjdododdaaaGreatDoorP29
import Derived.Test.YtolkhjdododdaaaGreatDoorP1
set_option linter.unusedSimpArgs false
set_option linter.unusedVariables false
namespace Go.Proofs.YtolkhjdododdaaaGreatDoor
open Go Go.RowKit
attribute [local go_sem] yields yUpon

set_option maxRecDepth 100000 in
set_option maxHeartbeats 4000000 in
theorem sameParts_any (va vb : Value) (Ma Mb : List Pa) (hm : Ma.map Pa.data = Mb.map Pa.data) (w : World) (ha : PartsIn w va Ma) (hb : PartsIn w vb Mb) :
  Calls Tryz.prog 14 #[va, vb] w fun e w' => e = .returned (.bool true) ∧ Ext w w' := by
 have HRA := Lib.hid ha.rows
 have HRB := Lib.hid hb.rows
 obtain ⟨aa, ca, rfl, hca, hcma, hga⟩ := ha.get
 obtain ⟨ab, cb, rfl, hcb, hcmb, hgb⟩ := hb.get
 have HA := Lib.hid hga
 have HB := Lib.hid hgb
 have hl : Ma.length = Mb.length := by have := congrArg List.length hm; simpa using this
 have HAB := Lib.hid (fun (k : Nat) (h1 : k < Ma.length) (h2 : k < Mb.length) => (by
  have h3 : (Ma.map Pa.data)[k]? = (Mb.map Pa.data)[k]? := by rw [hm]
  simp only [List.getElem?_map, List.getElem?_eq_getElem h1, List.getElem?_eq_getElem h2, Option.map_some, Option.some.injEq] at h3
  exact h3 : (Ma[k]).data = (Mb[k]).data))
 obtain ⟨n, hn⟩ : ∃ n, n = Ma.length := ⟨_, rfl⟩
 have HN := Lib.hid hn
 have HL := Lib.hid hl
 rw [← hl] at hcb ⊢
 rw [← hn] at hca hcb ⊢
 clear hga hgb hn ha hb hm hl
 go_enter Tryz.func14, Tryz.ntmps14
 go_wp2
 go_loopw [5] (fun i wr => ∃ k : Nat, k ≤ n ∧ i = .int .i64 (k : Int) ∧ Ext w wr) (fun i _ => n - (intOf i).toNat)
 case atStart => exact ⟨0, Nat.zero_le _, rfl, Ext.refl w⟩
 case round =>
  obtain ⟨k, hk, rfl, hE⟩ := hrel
  by_cases hlt : k < n
  ·have hkF : k < Ma.length := by rw [← HN.out]; exact hlt
   have hkG : k < Mb.length := by rw [← HL.out]; exact hkF
   obtain ⟨b, o, rfl, ⟨x0, x1, x2⟩⟩ := HA.out k hkF
   obtain ⟨b', o', rfl, ⟨y0, y1, y2⟩⟩ := HB.out k hkG
   have hq := HAB.out k hkF hkG
   have hra := (HRA.out _ (List.getElem_mem hkF)).ext hE
   have hrb := (HRB.out _ (List.getElem_mem hkG)).ext hE
   replace x0 := hE.cell x0
   replace x1 := hE.cell x1
   replace x2 := hE.cell x2
   replace y0 := hE.cell y0
   replace y1 := hE.cell y1
   replace y2 := hE.cell y2
   obtain ⟨M, hM⟩ : ∃ M, M = Ma[k] := ⟨_, rfl⟩
   obtain ⟨M', hM'⟩ : ∃ M, M = Mb[k] := ⟨_, rfl⟩
   rw [← hM] at x0 x1 x2 hq hra
   rw [← hM'] at y0 y1 y2 hq hrb
   clear hM hM'
   obtain ⟨ky, gn, rv, ps⟩ := M
   obtain ⟨ky', gn', rv', ps'⟩ := M'
   unfold Pa.data at hq
   simp only [Prod.mk.injEq] at hq x0 x1 x2 y0 y1 y2
   obtain ⟨rfl, rfl, hps⟩ := hq
   have HPS := Lib.hid hps
   replace hra : RowsIn wr rv ps := hra
   replace hrb : RowsIn wr rv' ps' := hrb
   obtain ⟨au, cu, rfl, _⟩ := hra.get
   obtain ⟨au', cu', rfl, _⟩ := hrb.get
   have hlk : decide ((k : Int) < (n : Int)) = true := by simpa using hlt
   clear hps
   replace x0 := held x0
   replace x1 := held x1
   replace x2 := held x2
   replace y0 := held y0
   replace y1 := held y1
   replace y2 := held y2
   go_wp2_with fail
   refine wp_region_tab 10 [(8, fun v _ => v = .bool true)] (by kernel_rfl) (by kernel_rfl) (by kernel_rfl) ⟨stays_eq _, trivial⟩ ?_
   refine rg_quiet rfl rfl rfl rfl ?_; intro K hK; go_big_quiet_op; go_big_quiet_on
   refine rg_quiet rfl rfl rfl rfl ?_; intro K hK; go_big_quiet_op; go_big_quiet_on
   refine rg_quiet rfl rfl rfl rfl ?_; intro K hK; go_big_quiet_op; go_big_quiet_on
   refine rg_quiet rfl rfl rfl rfl ?_; intro K hK; go_big_quiet_op; go_big_quiet_on
   refine rg_quiet rfl rfl rfl rfl ?_; intro K hK; go_big_quiet_op; go_big_quiet_on
   refine rg_quiet rfl rfl rfl rfl ?_; intro K hK; go_big_quiet_op; go_big_quiet_on
   refine rg_quiet rfl rfl rfl rfl ?_; intro K hK; go_big_quiet_op; go_big_quiet_on
   refine rg_quiet rfl rfl rfl rfl ?_; intro K hK; go_big_quiet_op; go_big_quiet_on
   refine rg_val [] rfl rfl rfl (by kernel_rfl) (fun w1 hE hf => ?_) ?_
   ·go_simp
    exact (same8_alike ky gn _ _ ps ps' w1 (hra.ext hE) (hrb.ext hE) HPS.out).mono fun e w' ⟨he, hw⟩ => ⟨_, he, rg_done hE hw (rfl)⟩
   simp only [Act.put, List.setIfInBounds_toArray, List.set_cons_zero, List.set_cons_succ]
   refine rg_quiet rfl rfl rfl rfl ?_; intro K hK; go_big_quiet_op; go_big_quiet_on
   refine rel_nil fun w5 hE5 _ => ?_
   clear x0 x1 x2 y0 y1 y2
   go_wp2_with fail
   go_roundw
   case rel => exact ⟨k + 1, by omega, by go_num, hE.trans hE5⟩
   case measure => simp [intOf]; omega
  ·obtain rfl : k = n := by omega
   go_wp2
   go_ret
   exact ⟨rfl, hE⟩
end Go.Proofs.YtolkhjdododdaaaGreatDoor

/- clerestorylaw00's SameNotes, SameInts, SameMuts, SameBatch of what reads alike. (what a smaller cut has) -/
namespace Go.Proofs.YtolkhjdododdaaaGreatDoor
open Go Go.RowKit
attribute [local go_sem] yields yUpon

set_option maxRecDepth 100000 in
set_option maxHeartbeats 4000000 in
theorem sameMts_any (va vb : Value) (Ma Mb : List Mt) (hm : Ma.map Mt.q = Mb.map Mt.q) (w : World) (ha : MtsIn w va Ma) (hb : MtsIn w vb Mb) :
  Calls Tryz.prog 17 #[va, vb] w fun e w' => e = .returned (.bool true) ∧ Ext w w' := by
 have HRA := Lib.hid ha.rows
 have HRB := Lib.hid hb.rows
 obtain ⟨aa, ca, rfl, hca, hcma, hga⟩ := ha.get
 obtain ⟨ab, cb, rfl, hcb, hcmb, hgb⟩ := hb.get
 have HA := Lib.hid hga
 have HB := Lib.hid hgb
 have hl : Ma.length = Mb.length := by have := congrArg List.length hm; simpa using this
 have HAB := Lib.hid (fun (k : Nat) (h1 : k < Ma.length) (h2 : k < Mb.length) => (by
  have h3 : (Ma.map Mt.q)[k]? = (Mb.map Mt.q)[k]? := by rw [hm]
  simp only [List.getElem?_map, List.getElem?_eq_getElem h1, List.getElem?_eq_getElem h2, Option.map_some, Option.some.injEq] at h3
  exact h3 : (Ma[k]).q = (Mb[k]).q))
 obtain ⟨n, hn⟩ : ∃ n, n = Ma.length := ⟨_, rfl⟩
 have HN := Lib.hid hn
 have HL := Lib.hid hl
 rw [← hl] at hcb ⊢
 rw [← hn] at hca hcb ⊢
 clear hga hgb hn ha hb hm hl
 go_enter Tryz.func17, Tryz.ntmps17
 go_wp2
 go_loopw [5] (fun i wr => ∃ k : Nat, k ≤ n ∧ i = .int .i64 (k : Int) ∧ Ext w wr) (fun i _ => n - (intOf i).toNat)
 case atStart => exact ⟨0, Nat.zero_le _, rfl, Ext.refl w⟩
 case round =>
  obtain ⟨k, hk, rfl, hE⟩ := hrel
  by_cases hlt : k < n
  ·have hkF : k < Ma.length := by rw [← HN.out]; exact hlt
   have hkG : k < Mb.length := by rw [← HL.out]; exact hkF
   obtain ⟨b, o, rfl, ⟨x0, x1, x2, x3⟩⟩ := HA.out k hkF
   obtain ⟨b', o', rfl, ⟨y0, y1, y2, y3⟩⟩ := HB.out k hkG
   have hq := HAB.out k hkF hkG
   have hra := (HRA.out _ (List.getElem_mem hkF)).ext hE
   have hrb := (HRB.out _ (List.getElem_mem hkG)).ext hE
   replace x0 := hE.cell x0
   replace x1 := hE.cell x1
   replace x2 := hE.cell x2
   replace x3 := hE.cell x3
   replace y0 := hE.cell y0
   replace y1 := hE.cell y1
   replace y2 := hE.cell y2
   replace y3 := hE.cell y3
   obtain ⟨M, hM⟩ : ∃ M, M = Ma[k] := ⟨_, rfl⟩
   obtain ⟨M', hM'⟩ : ∃ M, M = Mb[k] := ⟨_, rfl⟩
   rw [← hM] at x0 x1 x2 x3 hq hra
   rw [← hM'] at y0 y1 y2 y3 hq hrb
   clear hM hM'
   obtain ⟨t, ⟨ky, gn, rv, ps⟩⟩ := M
   obtain ⟨t', ⟨ky', gn', rv', ps'⟩⟩ := M'
   unfold Mt.q at hq
   simp only [Mq.mk.injEq, Pt.mk.injEq] at hq x0 x1 x2 x3 y0 y1 y2 y3 hra hrb
   obtain ⟨rfl, rfl, rfl, hps⟩ := hq
   have HPS := Lib.hid hps
   clear hps
   have t1 : decide ((k : Int) < (n : Int)) = true := by simp; omega
   replace x0 := held x0
   replace x1 := held x1
   replace x2 := held x2
   replace x3 := held x3
   replace y0 := held y0
   replace y1 := held y1
   replace y2 := held y2
   replace y3 := held y3
   have t2 : (t.toList != t.toList) = false := by simp
   go_wp2_with fail
   refine wp_region_tab 25 [(22, fun v _ => v = .bool true)] (by kernel_rfl) (by kernel_rfl) (by kernel_rfl) ⟨stays_eq _, trivial⟩ ?_
   refine rg_quiet rfl rfl rfl rfl ?_; intro K hK; go_big_quiet_op; go_big_quiet_on
   refine rg_quiet rfl rfl rfl rfl ?_; intro K hK; go_big_quiet_op; go_big_quiet_on
   refine rg_quiet rfl rfl rfl rfl ?_; intro K hK; go_big_quiet_op; go_big_quiet_on
   refine rg_quiet rfl rfl rfl rfl ?_; intro K hK; go_big_quiet_op; go_big_quiet_on
   refine rg_quiet rfl rfl rfl rfl ?_; intro K hK; go_big_quiet_op; go_big_quiet_on
   refine rg_quiet rfl rfl rfl rfl ?_; intro K hK; go_big_quiet_op; go_big_quiet_on
   refine rg_quiet rfl rfl rfl rfl ?_; intro K hK; go_big_quiet_op; go_big_quiet_on
   refine rg_quiet rfl rfl rfl rfl ?_; intro K hK; go_big_quiet_op; go_big_quiet_on
   refine rg_quiet rfl rfl rfl rfl ?_; intro K hK; go_big_quiet_op; go_big_quiet_on
   refine rg_quiet rfl rfl rfl rfl ?_; intro K hK; go_big_quiet_op; go_big_quiet_on
   refine rg_quiet rfl rfl rfl rfl ?_; intro K hK; go_big_quiet_op; go_big_quiet_on
   refine rg_quiet rfl rfl rfl rfl ?_; intro K hK; go_big_quiet_op; go_big_quiet_on
   refine rg_quiet rfl rfl rfl rfl ?_; intro K hK; go_big_quiet_op; go_big_quiet_on
   refine rg_quiet rfl rfl rfl rfl ?_; intro K hK; go_big_quiet_op; go_big_quiet_on
   refine rg_quiet rfl rfl rfl rfl ?_; intro K hK; go_big_quiet_op; go_big_quiet_on
   refine rg_quiet rfl rfl rfl rfl ?_; intro K hK; go_big_quiet_op; go_big_quiet_on
   refine rg_quiet rfl rfl rfl rfl ?_; intro K hK; go_big_quiet_op; go_big_quiet_on
   refine rg_quiet rfl rfl rfl rfl ?_; intro K hK; go_big_quiet_op; go_big_quiet_on
   refine rg_quiet rfl rfl rfl rfl ?_; intro K hK; go_big_quiet_op; go_big_quiet_on
   refine rg_quiet rfl rfl rfl rfl ?_; intro K hK; go_big_quiet_op; go_big_quiet_on
   refine rg_quiet rfl rfl rfl rfl ?_; intro K hK; go_big_quiet_op; go_big_quiet_on
   refine rg_quiet rfl rfl rfl rfl ?_; intro K hK; go_big_quiet_op; go_big_quiet_on
   refine rg_val [] rfl rfl rfl (by kernel_rfl) (fun w1 hE hf => ?_) ?_
   ·go_simp
    exact (same8_alike ky gn rv rv' ps ps' w1 (hra.ext hE) (hrb.ext hE) HPS.out).mono fun e w' ⟨he, hw⟩ => ⟨_, he, rg_done hE hw (rfl)⟩
   simp only [Act.put, List.setIfInBounds_toArray, List.set_cons_zero, List.set_cons_succ]
   refine rg_quiet rfl rfl rfl rfl ?_; intro K hK; go_big_quiet_op; go_big_quiet_on
   refine rg_quiet rfl rfl rfl rfl ?_; intro K hK; go_big_quiet_op; go_big_quiet_on
   refine rel_nil fun w5 hE5 _ => ?_
   clear x0 x1 x2 x3 y0 y1 y2 y3
   go_wp2_with fail
   go_roundw
   case rel => exact ⟨k + 1, by omega, by go_num, hE.trans hE5⟩
   case measure => simp [intOf]; omega
  ·obtain rfl : k = n := by omega
   go_wp2_with fail
   go_ret
   exact ⟨rfl, hE⟩
end Go.Proofs.YtolkhjdododdaaaGreatDoor

/- A region that draws its order: an operation that takes a part out of a tuple, and that the store of another part need not wait for, may be taken ahead of that store: the region with that edge more. -/
namespace Go.Proofs.YtolkhjdododdaaaGreatDoor
open Go

/-- Operation n waits for p, too. -/
def late (n p : Nat) (l : List Oper) : List Oper := l.modify n fun o => { o with after := o.after.push ⟨p, .data⟩ }
def isExt : Op → Bool
 | .extract .. => true
 | _ => false
/-- What is asked of p and n. -/
def lateB (ops : Array Oper) (n p : Nat) : Bool :=
 match ops[p]? with
 | none => false
 | some op => p != n && decide (n < ops.size) && isExt op.op && op.guard.isNone && Region.noSelect ops &&
   (op.after.all fun e => !Region.binds .any e || ancB ops ops.size n e.on) &&
   (List.range ops.size).all fun j => j == p || ancB ops ops.size p j || match ops[j]? with
    | some oj => oj.after.any (fun e => Region.binds .any e && e.on == p) || op.apart ops oj
    | none => true

section
variable {P : Program} {l : List Oper} {n p : Nat} {Q : Exit → Act → World → Prop} {listed : Array Bool}
theorem late_ne {j : Nat} (h : j ≠ n) : (late n p l).toArray[j]? = l.toArray[j]? := by
 simp only [late, List.getElem?_toArray, List.getElem?_modify]
 cases l[j]? with
 | none => rfl
 | some o => simp; exact fun e => absurd e.symm h
theorem late_at {o : Oper} (ho : l.toArray[n]? = some o) : (late n p l).toArray[n]? = some { o with after := o.after.push ⟨p, .data⟩ } := by
 simp only [List.getElem?_toArray] at ho
 simp only [late, List.getElem?_toArray, List.getElem?_modify, ho, if_true]
 rfl
theorem late_none (ho : l.toArray[n]? = none) : (late n p l).toArray[n]? = none := by
 simp only [List.getElem?_toArray] at ho
 simp only [late, List.getElem?_toArray, List.getElem?_modify, ho]
 rfl
theorem late_dst (j : Nat) : ((late n p l).toArray[j]?).bind (·.dst) = (l.toArray[j]?).bind (·.dst) := by
 by_cases h : j = n
 ·subst h
  cases ho : l.toArray[j]? with
  | none => rw [late_none ho]
  | some o => rw [late_at ho]; rfl
 ·rw [late_ne h]
theorem late_yielded : yielded (late n p l).toArray = yielded l.toArray := by
 funext tmps j
 unfold yielded
 rw [late_dst]
theorem ready_ne {j : Nat} (h : j ≠ n) : j ∈ Region.ready .any (late n p l).toArray listed ↔ j ∈ Region.ready .any l.toArray listed := by
 rw [mem_ready, mem_ready, late_ne h]
theorem ready_late (hp : listed.getD p false = true) (h : n ∈ Region.ready .any l.toArray listed) : n ∈ Region.ready .any (late n p l).toArray listed := by
 rw [mem_ready] at h ⊢
 obtain ⟨h0, o, ho, hall⟩ := h
 refine ⟨h0, _, late_at ho, fun e he hb => ?_⟩
 rcases Array.mem_push.1 he with he | rfl
 ·exact hall e he hb
 ·exact hp
theorem wpOp_late {i : Nat} {K : Act → World → Prop} {a : Act} {w : World} (h : wpOp P (late n p l).toArray Q i K a w) : wpOp P l.toArray Q i K a w := by
 unfold wpOp at h ⊢
 rw [late_yielded] at h
 by_cases hi : i = n
 ·subst hi
  cases ho : l.toArray[i]? with
  | none => rw [late_none ho] at h; exact h
  | some o => rw [late_at ho] at h; exact h
 ·rw [late_ne hi] at h
  exact h
theorem ext_run {x : Operand} {k : Nat} {o : Oper} (ho : o.op = .extract x k) {a : Act} {w : World} {K : Act → World → Prop} (h : o.wp P a w K Q ∨ (o.asks P a w ∧ LetsOut Q)) : ∃ v, (∀ w', (execOp a.eval o).run P w' = .ok (.value v) w') ∧ K (a.put o.dst v) w := by
 have he : execOp a.eval o = (do pure (Next.value (← Instr.extract (a.eval x) k))) := by unfold execOp; rw [ho]
 have key : (∃ v, Instr.extract (a.eval x) k = pure v) ∨ ∃ m, Instr.extract (a.eval x) k = stuck m := by
  unfold Instr.extract
  split
  ·split
   ·exact .inl ⟨_, rfl⟩
   ·exact .inr ⟨_, rfl⟩
  ·exact .inr ⟨_, rfl⟩
 have ev : ((execOp a.eval o).runT P w #[]).2 = #[] := by
  rw [he]
  rcases key with ⟨v, e⟩ | ⟨m, e⟩ <;> rw [e] <;> rfl
 have h : o.wp P a w K Q := by
  rcases h with h | ⟨h, _⟩
  ·exact h
  ·have h := h.1
   rw [ev] at h
   simp at h
 rcases key with ⟨v, e⟩ | ⟨m, e⟩
 ·have hr : ∀ w', (execOp a.eval o).run P w' = .ok (.value v) w' := by
   intro w'
   rw [he, e]
   rfl
  refine ⟨v, hr, ?_⟩
  unfold Oper.wp at h
  rw [hr] at h
  exact h
 ·exfalso
  have hr : (execOp a.eval o).run P w = .halt (.stuck m) w := by
   rw [he, e]
   rfl
  unfold Oper.wp at h
  rw [hr] at h
  exact h

structure LateOK (ops : Array Oper) (n p : Nat) (op : Oper) : Prop where
 get : ops[p]? = some op
 ne : p ≠ n
 ext : ∃ x k, op.op = .extract x k
 plain : op.guard = none
 sel : Region.noSelect ops = true
 anc : ∀ e ∈ op.after, Region.binds .any e = true → ancB ops ops.size n e.on = true
 free : ∀ j oj, ops[j]? = some oj → j ≠ p → ancB ops ops.size p j = false → (∀ e ∈ oj.after, Region.binds .any e = true → e.on ≠ p) → op.apart ops oj = true
theorem lateOK {ops : Array Oper} (h : lateB ops n p = true) : ∃ op, LateOK ops n p op := by
 unfold lateB at h
 cases hp : ops[p]? with
 | none => rw [hp] at h; cases h
 | some op =>
  rw [hp] at h
  simp only [Bool.and_eq_true, bne_iff_ne, decide_eq_true_eq, Array.all_eq_true', Bool.or_eq_true, Bool.not_eq_true', List.all_eq_true, List.mem_range, beq_iff_eq] at h
  obtain ⟨⟨⟨⟨⟨⟨h1, h2⟩, h3⟩, h4⟩, h5⟩, h6⟩, h7⟩ := h
  refine ⟨op, hp, h1, ?_, ?_, h5, fun e he hb => ?_, fun j oj hj hne hna hno => ?_⟩
  ·unfold isExt at h3
   split at h3
   ·exact ⟨_, _, by assumption⟩
   ·cases h3
  ·simpa using h4
  ·rcases h6 e he with h | h
   ·rw [hb] at h; cases h
   ·exact h
  ·have h8 := h7 j (Array.getElem?_eq_some_iff.1 hj).1
   rw [hj] at h8
   simp only [Bool.or_eq_true] at h8
   rcases h8 with (h8 | h8) | h8 | h8
   ·exact absurd h8 hne
   ·rw [hna] at h8; cases h8
   ·obtain ⟨e, he, hb⟩ := Array.any_eq_true'.1 h8
    simp only [Bool.and_eq_true, beq_iff_eq] at hb
    exact absurd hb.2 (hno e he hb.1)
   ·exact h8
theorem getD_down {j : Nat} (h : listed.getD j false = true) : listed.getD j true = true := by
 rcases Nat.lt_or_ge j listed.size with h' | h'
 ·simp [h'] at h ⊢; exact h
 ·simp [Array.getElem?_eq_none h'] at h
/-- When n may come up, p may, if it has not. -/
theorem late_ready {op : Oper} (hL : LateOK l.toArray n p op) (hd : Down l.toArray listed) (hsz : listed.size = l.toArray.size) (hn : n ∈ Region.ready .any l.toArray listed) (hp : listed.getD p false = false) : p ∈ Region.ready .any l.toArray listed := by
 obtain ⟨_, o, ho, hall⟩ := mem_ready.1 hn
 refine mem_ready.2 ⟨?_, op, hL.get, fun e he hb => anc_listed hd _ n e.on o ho hall (hL.anc e he hb)⟩
 have hlt : p < listed.size := by rw [hsz]; exact (Array.getElem?_eq_some_iff.1 hL.get).1
 simp [hlt] at hp ⊢
 exact hp
theorem wpAny_late {op : Oper} (hL : LateOK l.toArray n p op) (hQ : ∀ c a d v w, Q (.panic c) (Act.put a d v) w → Q (.panic c) a w) : ∀ (fuel : Nat) (listed : Array Bool) (a : Act) (w : World), Down l.toArray listed → listed.size = l.toArray.size →
  wpAny P .any (late n p l).toArray Q fuel listed a w → wpAny P .any l.toArray Q fuel listed a w := by
 intro fuel
 have none_of : ∀ {listed : Array Bool}, Down l.toArray listed → listed.size = l.toArray.size → Region.ready .any (late n p l).toArray listed = [] → Region.ready .any l.toArray listed = [] := by
  intro listed hd hsz h0
  refine List.eq_nil_iff_forall_not_mem.2 fun j hj => ?_
  have key : ∀ j, j ∈ Region.ready .any (late n p l).toArray listed → False := fun j hj => by rw [h0] at hj; cases hj
  by_cases hjn : j = n
  ·subst hjn
   cases hp : listed.getD p false with
   | true => exact key _ (ready_late hp hj)
   | false => exact key _ ((ready_ne hL.ne).2 (late_ready hL hd hsz hj hp))
  ·exact key _ ((ready_ne hjn).2 hj)
 induction fuel with
 | zero => exact fun listed a w hd hsz h => ⟨none_of hd hsz h.1, h.2⟩
 | succ fuel ih =>
  intro listed a w hd hsz h
  by_cases hc : n ∈ Region.ready .any l.toArray listed ∧ listed.getD p false = false
  ·obtain ⟨hn, hp⟩ := hc
   have hr := late_ready hL hd hsz hn hp
   have h1 := wpOp_late (h.2 p ((ready_ne hL.ne).2 hr))
   obtain ⟨x, k, hx⟩ := hL.ext
   have hw : Region.wanted op (yielded l.toArray a.tmps) = true := by unfold Region.wanted; rw [hL.plain]
   unfold wpOp at h1
   simp only [hL.get, hw, if_true] at h1
   obtain ⟨v, hv, hK⟩ := ext_run hx h1
   refine wpAny_first hL.get (Region.noSelect_spec hL.sel) (fun c a w h => hQ c a _ v w h) fuel listed a w (fun j oj hj hne hun hno => hL.free j oj hj hne ?_ hno) hr (.inl ⟨hw, hv⟩) (ih _ _ _ (hd.set hr) (by simpa using hsz) hK)
   cases ha : ancB l.toArray l.toArray.size p j with
   | false => rfl
   | true =>
    obtain ⟨_, o', ho', hall⟩ := mem_ready.1 hr
    rw [hL.get] at ho'
    cases ho'
    have := getD_down (anc_listed hd _ p j op hL.get hall ha)
    rw [this] at hun
    cases hun
  ·refine ⟨fun h0 => h.1 ?_, fun i hi => ?_⟩
   ·refine List.eq_nil_iff_forall_not_mem.2 fun j hj => ?_
    have : j ∈ Region.ready .any l.toArray listed := by
     by_cases hjn : j = n
     ·subst hjn
      obtain ⟨g0, o', ho', hall⟩ := mem_ready.1 hj
      cases ho : l.toArray[j]? with
      | none => rw [late_none ho] at ho'; cases ho'
      | some o =>
       rw [late_at ho] at ho'
       cases ho'
       exact mem_ready.2 ⟨g0, o, ho, fun e he hb => hall e (Array.mem_push.2 (.inl he)) hb⟩
     ·exact (ready_ne hjn).1 hj
    rw [h0] at this
    cases this
   ·have hi' : i ∈ Region.ready .any (late n p l).toArray listed := by
     by_cases hin : i = n
     ·subst hin
      refine ready_late ?_ hi
      cases hp : listed.getD p false with
      | true => rfl
      | false => exact absurd ⟨hi, hp⟩ hc
     ·exact (ready_ne hin).2 hi
    exact wpOp_mono (fun a' w' h' => ih _ a' w' (hd.set hi) (by simpa using hsz) h') (wpOp_late (h.2 i hi'))
/-- The region with that edge more. -/
theorem wp_region_late {id : Nat} {a : Act} {w : World} (n p : Nat) (hm : P.follows .mixedOrders = true) (hB : lateB l.toArray n p = true) (hQ : ∀ c a d v w, Q (.panic c) (Act.put a d v) w → Q (.panic c) a w)
  (h : wpAny P .any (late n p l).toArray Q l.length (Array.replicate l.length false) a w.drew) : (Code.region id l.toArray true).wp P Q a w := by
 obtain ⟨op, hL⟩ := lateOK hB
 refine wp_region_any hm ?_
 refine wpAny_late hL hQ _ _ _ _ ?_ (by simp) (by simpa using h)
 intro k o _ hk
 simp only [Array.getD, Array.size_replicate] at hk
 split at hk
 ·simp at hk
 ·cases hk
/-- Such a region by the walk in the order of the text; memory only grows ahead of its last operations. -/
theorem wp_region_late_in {id : Nat} {a : Act} {w : World} (n p m : Nat) (L : Tab) (hm : P.follows .mixedOrders = true) (hL : lateB l.toArray n p = true) (hn : tailB (late n p l).toArray m = true) (hB : Region.lexB .any (late n p l).toArray = true)
  (hQ : ∀ c a d v w, Q (.panic c) (Act.put a d v) w → Q (.panic c) a w) (hT : TabOK L)
  (h : wpRel P (late n p l).toArray (Ext w) Ext L.at m Q (late n p l) 0 a Facts.top) : (Code.region id l.toArray true).wp P Q a w := by
 refine wp_region_late n p hm hL hQ ?_
 have hlen : l.length = (late n p l).length := by simp [late]
 rw [hlen]
 simp only [Region.lexB, Bool.and_eq_true] at hB
 have hG : ∀ (j : Nat) (w w' : World), Ext w w' → Facts.top j w → Facts.top j w' := fun _ _ _ _ h => h
 have hd : Down (late n p l).toArray (Array.replicate (late n p l).length false) := by
  intro k o _ hk
  simp only [Array.getD, Array.size_replicate] at hk
  split at hk
  ·simp at hk
  ·cases hk
 refine wpAny_of_R (C := Ext w) (E := Ext) (T := L.at) (n := m) (Tab.stays hT) hn _ _ _ Facts.top _ hd (by simp) hG (Ext.refl w).drew (fun _ => trivial) ?_
 have := wpAnyR_lex (C := Ext w) (Tab.stays hT) hn hB.1 (late n p l) 0 (Array.replicate (late n p l).length false) a Facts.top hd hG ⟨_, (Ext.refl w).drew, fun _ => trivial⟩ (by simp) (by simpa using hB.2) h
 simpa using this
end
end Go.Proofs.YtolkhjdododdaaaGreatDoor

/- As XLate's region, where some operations make variables: these are apart. -/
namespace Go.Proofs.YtolkhjdododdaaaGreatDoor
open Go
section
variable {P : Program} {Q : Exit → Act → World → Prop} {l : List Oper}
end
section
variable {P : Program} {ops : Array Oper} {E : Nat → World → World → Prop} {T : Nat → Option (List Value → Value → World → Prop)} {n : Nat} {Q : Exit → Act → World → Prop} {w0 : World} {o : Oper} {rest : List Oper} {k : Nat} {a : Act} {G : Facts}
end
end Go.Proofs.YtolkhjdododdaaaGreatDoor
