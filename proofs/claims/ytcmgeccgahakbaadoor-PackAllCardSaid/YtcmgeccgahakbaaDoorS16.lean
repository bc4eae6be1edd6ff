/- clerestorylaw00's FewMuts, FewBatch: what they tell. -/
import Derived.Test.YtcmgeccgahakbaaDoorS15
import Derived.Test.YtcmgeccgahakbaaDoorS13
import Derived.Test.YtcmgeccgahakbaaDoorS11
import Derived.Test.YtcmgeccgahakbaaDoorS2
import Derived.Laws.OwnMore
import Derived.Laws.IdiomStrings
import Derived.Deep.Heap
set_option linter.unusedSimpArgs false
set_option linter.unusedVariables false
namespace Go.Proofs.YtcmgeccgahakbaaDoor
open Go Go.RowKit
attribute [local go_sem] yields yUpon

/-- Not too much of a mutation. -/
def FewM (rows : Int) (m : Mt) : Prop := m.table.size ≤ 300 ∧ (m.pa.ps.length : Int) ≤ rows ∧ ∀ p ∈ m.pa.ps, FewR p.1

set_option maxRecDepth 100000 in
set_option maxHeartbeats 4000000 in
theorem fewMuts_any (v : Value) (M : List Mt) (most rows : Int) (w : World) (hin : MtsIn w v M) :
    Calls Tryd.prog 53 #[v, .int .i64 most, .int .i64 rows] w fun e w' => ∃ b, e = .returned (.bool b) ∧ (b = true → (M.length : Int) ≤ most ∧ ∀ m ∈ M, FewM rows m) ∧ Ext w w' := by
  have HC := Lib.hid hin.rows
  obtain ⟨aa, ca, rfl, hca, hcma, hget⟩ := hin.get
  obtain ⟨n, hn⟩ : ∃ n, n = M.length := ⟨_, rfl⟩
  rw [← hn] at hca ⊢
  have HN := Lib.hid hn
  have HGET := Lib.hid hget
  clear hn hget hin
  go_enter Tryd.func53, Tryd.ntmps53
  go_wp2_with fail
  go_loopw [7] (fun i wr => ∃ k : Nat, k ≤ n ∧ i = .int .i64 k ∧ Ext w wr ∧ Hid (∀ j (h : j < M.length), j < k → FewM rows (M[j]'h))) (fun i _ => n - (intOf i).toNat)
  case atStart => exact ⟨0, Nat.zero_le _, rfl, Ext.refl w, Lib.hid fun j h hj => absurd hj (Nat.not_lt_zero _)⟩
  case round =>
    obtain ⟨k, hk, rfl, hE, HALL⟩ := hrel
    by_cases hlt : k < n
    · have hkp : k < M.length := by rw [← HN.out]; exact hlt
      obtain ⟨b, o, rfl, hat⟩ := HGET.out k hkp
      have hrw := (HC.out _ (List.getElem_mem hkp)).ext hE
      obtain ⟨m, hm⟩ : ∃ m, m = M[k] := ⟨_, rfl⟩
      rw [← hm] at hat hrw
      have HM := Lib.hid hm
      clear hm
      obtain ⟨t, ⟨ky, gn, rv, ps⟩⟩ := m
      simp only at hrw
      obtain ⟨y0, y1, y2, y3⟩ := hat.ext hE
      simp only at y0 y1 y2 y3
      clear hat
      have hki : decide ((k : Int) < (n : Int)) = true := by simpa using hlt
      by_cases hmost : (k : Int) < most
      · have hmd : decide ((k : Int) < most) = true := by simpa using hmost
        cases q1 : decide ((300 : Int) < (t.size : Int))
        · have hts : t.size ≤ 300 := by simp at q1; omega
          go_wp2_with fail
          refine (fewPart_any ky gn rv ps rows wr hrw).mono ?_
          rintro e w1 ⟨B, rfl, hB, hE1⟩
          have HB := Lib.hid hB
          clear hB y0 y1 y2 y3
          cases B
          · go_wp2_with fail
            go_ret
            exact ⟨false, rfl, nofun, hE.trans hE1⟩
          · go_wp2_with fail
            go_roundw
            case rel =>
              refine ⟨k + 1, by omega, by go_num, hE.trans hE1, Lib.hid fun j h hj => ?_⟩
              by_cases hjk : j < k
              · exact HALL.out j h hjk
              · obtain rfl : j = k := by omega
                rw [← HM.out]
                exact ⟨hts, (HB.out trivial).2.1, (HB.out trivial).2.2⟩
            case measure => simp [intOf] <;> omega
        · go_wp2_with fail
          go_ret
          exact ⟨false, rfl, nofun, hE⟩
      · have hmd : decide ((k : Int) < most) = false := by simpa using hmost
        have hq : decide ((n : Int) ≤ most) = false := by simp; omega
        go_wp2_with fail
        go_ret
        exact .inl ⟨rfl, hE⟩
    · obtain rfl : k = n := by omega
      have hki : decide ((k : Int) < (k : Int)) = false := by simp
      go_wp2_with fail
      go_ret
      refine ⟨_, rfl, fun hb => ⟨of_decide_eq_true hb, fun p hp => ?_⟩, hE⟩
      obtain ⟨j, hj, rfl⟩ := List.getElem_of_mem hp
      exact HALL.out j hj (by have := HN.out; omega)

set_option maxRecDepth 100000 in
set_option maxHeartbeats 4000000 in
theorem fewBatch_any (vm va vd : Value) (M : List Mt) (A : List Nt) (D : List Int) (w : World) (hM : MtsIn w vm M) (hA : NtsIn w va A) (hD : IntsIn w vd .i64 D) (hAb : ∀ a ∈ A, a.body.size ≤ maxLen) :
    Calls Tryd.prog 10 #[.agg #[vm, va, vd]] w fun e w' => ∃ b, e = .returned (.bool b) ∧ (b = true → (M.length : Int) ≤ 70 ∧ (∀ m ∈ M, FewM 20 m) ∧ A.length ≤ 310 ∧ D.length ≤ 310 ∧ ∀ a ∈ A, a.body.size ≤ 5000) ∧ Ext w w' := by
  have b0 := BoxAt.made w #[vm, va, vd] 29
  have hE0 := (Ext.refl w).alloc (.cells #[vm, va, vd] 29)
  have hM0 := hM.ext hE0
  obtain ⟨am, cm, rfl, _⟩ := hM.get
  obtain ⟨aa, ca, rfl, hca, hcma, hget⟩ := hA.get
  obtain ⟨ad, cd, rfl, hcd, hcmd, _⟩ := hD
  unfold maxLen at hcmd
  obtain ⟨n, hn⟩ : ∃ n, n = A.length := ⟨_, rfl⟩
  obtain ⟨dn, hdn⟩ : ∃ n, n = D.length := ⟨_, rfl⟩
  rw [← hn] at hca b0 hE0 hM0 ⊢
  rw [← hdn] at hcd b0 hE0 hM0 ⊢
  have HN := Lib.hid hn
  have HGET := Lib.hid hget
  have HAB := Lib.hid hAb
  clear hn hdn hget hM hA hAb
  go_enter Tryd.func10, Tryd.ntmps10
  go_wp2_with fail
  refine (fewMuts_any _ M 70 20 _ hM0).mono ?_
  rintro e w1 ⟨B, rfl, hB, hE1⟩
  have HB := Lib.hid hB
  have b1 := b0.ext hE1
  have hE01 := hE0.trans hE1
  clear hB b0
  have x1 : w1.cell? ⟨w.heap.size, 1, none⟩ = some (.slice aa n ca) := b1.cell 1
  have x2 : w1.cell? ⟨w.heap.size, 2, none⟩ = some (.slice ad dn cd) := b1.cell 2
  cases B
  · go_wp2_with fail
    go_ret
    exact ⟨false, rfl, nofun, hE01⟩
  · cases q1 : decide ((310 : Int) < (n : Int))
    · cases q2 : decide ((310 : Int) < (dn : Int))
      · have HQ : Hid (n ≤ 310 ∧ dn ≤ 310) := by
          simp at q1 q2
          exact ⟨by omega, by omega⟩
        go_wp2_with fail
        clear q1 q2
        go_loopw [3] (fun i wr => ∃ k : Nat, k ≤ n ∧ i = .int .i64 k ∧ BoxAt wr w.heap.size #[.slice am M.length cm, .slice aa n ca, .slice ad dn cd] 29 ∧ Ext w wr ∧ Hid (∀ j (h : j < A.length), j < k → (A[j]'h).body.size ≤ 5000)) (fun i _ => n - (intOf i).toNat)
        case atStart => exact ⟨0, Nat.zero_le _, rfl, b1, hE01, Lib.hid fun j h hj => absurd hj (Nat.not_lt_zero _)⟩
        case round =>
          obtain ⟨k, hk, rfl, hb, hE, HALL⟩ := hrel
          clear x1 x2
          have x1 : wr.cell? ⟨w.heap.size, 1, none⟩ = some (.slice aa n ca) := hb.cell 1
          by_cases hlt : k < n
          · have hkp : k < A.length := by rw [← HN.out]; exact hlt
            obtain ⟨b, o, rfl, y0, y1⟩ := HGET.out k hkp
            replace y0 := hE.cell y0
            replace y1 := hE.cell y1
            have hbs := HAB.out _ (List.getElem_mem hkp)
            unfold maxLen at hbs
            obtain ⟨s, hs⟩ : ∃ s, s = (A[k]).body := ⟨_, rfl⟩
            obtain ⟨x, hx⟩ : ∃ s, s = (A[k]).id := ⟨_, rfl⟩
            rw [← hs] at y1 hbs
            rw [← hx] at y0
            have HS := Lib.hid hs
            clear hs hx
            have hki : decide ((k : Int) < (n : Int)) = true := by simpa using hlt
            cases q3 : decide ((5000 : Int) < (s.size : Int))
            · have hs5 : s.size ≤ 5000 := by simp at q3; omega
              go_wp2_with fail
              go_roundw
              case rel =>
                refine ⟨k + 1, by omega, by go_num, hb, hE, Lib.hid fun j h hj => ?_⟩
                by_cases hjk : j < k
                · exact HALL.out j h hjk
                · obtain rfl : j = k := by omega
                  rw [← HS.out]
                  exact hs5
              case measure => simp [intOf] <;> omega
            · go_wp2_with fail
              go_ret
              exact ⟨false, rfl, nofun, hE⟩
          · obtain rfl : k = n := by omega
            have hki : decide ((k : Int) < (k : Int)) = false := by simp
            go_wp2_with fail
            go_ret
            refine ⟨true, rfl, fun _ => ⟨(HB.out trivial).1, (HB.out trivial).2, HQ.out.1, HQ.out.2, fun p hp => ?_⟩, hE⟩
            obtain ⟨j, hj, rfl⟩ := List.getElem_of_mem hp
            exact HALL.out j hj (by have := HN.out; omega)
      · go_wp2_with fail
        go_ret
        exact ⟨false, rfl, nofun, hE01⟩
    · go_wp2_with fail
      go_ret
      exact ⟨false, rfl, nofun, hE01⟩
end Go.Proofs.YtcmgeccgahakbaaDoor

/- pack.Batch: of what may not be, of a small one; clerestorylaw09.awake. -/
namespace Go.Proofs.YtcmgeccgahakbaaDoor
open Go Go.RowKit
attribute [local go_sem] yields yUpon

set_option maxRecDepth 100000 in
set_option maxHeartbeats 2000000 in
theorem batch_no (vm va vd : Value) (M : List Mu) (A : List Nt) (D : List Int) (w : World) (hT : TabU w) (hM : MusIn w vm M) (hA : NtsIn w va A) (hD : IntsIn w vd .i64 D) (hMb : ∀ x ∈ M, x.table.size ≤ 100 ∧ x.key.size ≤ 100 ∧ x.gone ≤ 1099511627776) (hAb : ∀ x ∈ A, x.body.size ≤ 1000000) (hc : cbB M A D = false) :
    Calls Tryd.prog 15 #[.agg #[vm, va, vd]] w fun e w' => e = .returned (.tuple #[.slice none 0 0, .int .i64 1]) ∧ Ext w w' := by
  have hE0 := (Ext.refl w).alloc (.cells #[vm, va, vd] 29)
  obtain ⟨am, cm, rfl, _⟩ := hM.get
  obtain ⟨aa, ca, rfl, _⟩ := hA.get
  have hD' := hD
  obtain ⟨ad, cd, rfl, _⟩ := hD'
  have HC := Lib.hid hc
  have HMb := Lib.hid hMb
  have HAb := Lib.hid hAb
  clear hc hMb hAb
  go_enter Tryd.func15, Tryd.ntmps15
  go_wp2_with (go_at_call 24; go_must (refine (cb_any _ _ _ M A D _ (hT.ext hE0) (hM.ext hE0) (hA.ext hE0) (hD.ext hE0) HMb.out HAb.out).mono ?_); rintro e w1 ⟨rfl, hE1⟩; rw [HC.out])
  go_ret2
  exact ⟨rfl, hE0.trans hE1⟩

set_option maxHeartbeats 2000000 in
theorem awake9_any (w : World) (hT : TabU w) : Calls Tryd.prog 11 #[] w fun e w' => e = .returned (.bool true) ∧ Ext w w' := by
  have hw0 : whole0 ⟨#[97]⟩ 0 = [1, 1, 97, 0, 0] := by decide
  go_enter Tryd.func11, Tryd.ntmps11
  go_wp2_with (first
    | (go_at_call 12; go_must (refine (part0_any ⟨#[97]⟩ (by decide) w).mono ?_); rintro e w1 ⟨v1, rfl, ho1, hE1⟩; rw [hw0] at ho1; have ho1' := ho1; obtain ⟨a1, n1, rfl⟩ := ownB_shape ho1')
    | ((guard_target =~ wpList _ _ _ (Oper.mk (some 12) _ _ _ _ _ :: _) _ _); go_must (refine wpList_convert_bytes rfl 33 9 5 (.tmp 11) rfl und_bytes und_u8 und_string (OwnB.bytes ho1) ?_))
    | (go_at_call 24; go_must (refine (cb_any _ _ _ [] [] [] _ (hT.ext hE1) (SliceIn.nil _) (SliceIn.nil _) (SliceIn.nil _) (by simp) (by simp)).mono ?_); rintro e w2 ⟨rfl, hE2⟩; rw [show cbB [] [] [] = true from by decide]))
  go_ret
  exact ⟨rfl, hE1.trans hE2⟩
end Go.Proofs.YtcmgeccgahakbaaDoor

/- 'append(b, x...)' of bytes from any slice, b a row of the call's own. -/
namespace Go.Proofs.YtcmgeccgahakbaaDoor
open Go Go.RowKit

theorem info_b8c : Tryd.prog.info? 5 = some (Tryd.prog.info? 5).get! ∧ (Tryd.prog.info? 5).get!.zero = some (.int .u8 0) ∧ (Tryd.prog.info? 5).get!.size = 1 ∧ (Tryd.prog.info? 5).get!.bytes = 1 := ⟨by kernel_rfl, by kernel_rfl, by kernel_rfl, by kernel_rfl⟩
theorem run_ownB {w : World} {B : Nat} {v u : Value} {l m : List UInt8} (hB : B ≤ w.heap.size) (hown : OwnB w B v l) (hin : BytesIn w u m) (hb : l.length + m.length ≤ 140737488355328) (ty : TypeId) :
    ∃ v' w', (Builtin.append_ #[33, 33] ty #[v, u]).run Tryd.prog w = .ok v' w' ∧ OwnB w' B v' (l ++ m) ∧ w.grownBy w' v.ownBlock := by
  obtain ⟨a, c, rfl, hc, hcm, ha, hcell⟩ := hin
  cases a with
  | none =>
    have h0 := ha rfl
    subst h0
    obtain rfl : m = [] := List.eq_nil_of_length_eq_zero (by omega)
    exact ⟨v, w, run_append_owned_none (P := Tryd.prog) w B 33 ty 5 _ 1 und_bytes info_b8c.1 v l.length (bcells l) hown, by simpa using hown, ⟨rfl, rfl, rfl, Nat.le_refl _, fun _ _ _ => rfl⟩⟩
  | some ad =>
    obtain ⟨v', w', h1, h2, h3, _⟩ := run_append_own (P := Tryd.prog) w B 33 ty 5 _ (.int .u8 0) 1 1 und_bytes info_b8c.1 info_b8c.2.1 info_b8c.2.2.1 info_b8c.2.2.2 rfl (by decide) v l.length (bcells l) hown ad m.length c (bcells m) (by simp) (fun j u hj => by
        obtain ⟨b', o', e', hc'⟩ := hcell j u hj
        cases e'
        rw [Addr.add_lit]
        exact hc') (fun u hu => by
        simp only [bcells, List.mem_map] at hu
        obtain ⟨b, _, rfl⟩ := hu
        rfl) (by unfold maxLen; omega) (by omega) hB
    refine ⟨v', w', h1, ?_, h3⟩
    unfold OwnB
    rw [List.length_append, bcells_append]
    exact h2
section
variable {ops : Array Oper} {Q : Exit → Act → World → Prop} {a : Act} {w : World} {rest : List Oper} {o : Oper}
theorem yields_ownB (s x : Operand) (hop : o.op = Op.call { callee := Callee.builtin Builtin.append, args := #[s, x], argTypes := #[33, 33] }) {B : Nat} {v u : Value} {l m : List UInt8} (hs : a.eval s = v) (hx : a.eval x = u) (hB : B ≤ w.heap.size) (hown : OwnB w B v l) (hin : BytesIn w u m)
    (hb : l.length + m.length ≤ 140737488355328) {R : Value → World → Prop} (hR : ∀ v' w', OwnB w' B v' (l ++ m) → w.grownBy w' v.ownBlock → R v' w') : yields Tryd.prog o a w R := by
  obtain ⟨v', w', h1, h2, h3⟩ := run_ownB hB hown hin hb o.type
  unfold yields execOp
  simp only [hop, resolve, invoke, builtin, Sem.run_bind, Sem.run_pure, Result.andThen_ok, List.map_toArray, List.map_cons, List.map_nil, hs, hx, h1]
  exact hR v' w' h2 h3
theorem wpList_ownB (hw : Region.wanted o (yielded ops a.tmps) = true) (s x : Operand) (hop : o.op = Op.call { callee := Callee.builtin Builtin.append, args := #[s, x], argTypes := #[33, 33] }) {B : Nat} {v u : Value} {l m : List UInt8} (hs : a.eval s = v) (hx : a.eval x = u) (hB : B ≤ w.heap.size) (hown : OwnB w B v l) (hin : BytesIn w u m)
    (hb : l.length + m.length ≤ 140737488355328) (hK : ∀ v' w', OwnB w' B v' (l ++ m) → w.grownBy w' v.ownBlock → wpList Tryd.prog ops Q rest (a.put o.dst v') w') : wpList Tryd.prog ops Q (o :: rest) a w := by
  unfold wpList
  rw [if_pos hw]
  exact .inl (yields_wp (yields_ownB (R := fun v w' => wpList Tryd.prog ops Q rest (a.put o.dst v) w') s x hop hs hx hB hown hin hb hK) fun v w' h => h)
/-- append([]byte(nil), x...). -/
theorem yields_cloneB (s x : Operand) (hop : o.op = Op.call { callee := Callee.builtin Builtin.append, args := #[s, x], argTypes := #[33, 33] }) {u : Value} {m : List UInt8} (hs : a.eval s = .slice none 0 0) (hx : a.eval x = u) (hin : BytesIn w u m)
    (hb : m.length ≤ 140737488355328) {R : Value → World → Prop} (hR : ∀ v' w', OwnB w' w.heap.size v' m → Ext w w' → R v' w') : yields Tryd.prog o a w R :=
  yields_ownB (l := []) s x hop hs hx (Nat.le_refl _) (World.ownsRow_nil _ _ _ _) hin (by simpa using hb) fun v' w' h1 h2 => hR v' w' h1 ((Ext.refl w).grown h2 nofun)
theorem wpList_cloneB (hw : Region.wanted o (yielded ops a.tmps) = true) (s x : Operand) (hop : o.op = Op.call { callee := Callee.builtin Builtin.append, args := #[s, x], argTypes := #[33, 33] }) {u : Value} {m : List UInt8} (hs : a.eval s = .slice none 0 0) (hx : a.eval x = u) (hin : BytesIn w u m)
    (hb : m.length ≤ 140737488355328) (hK : ∀ v' w', OwnB w' w.heap.size v' m → Ext w w' → wpList Tryd.prog ops Q rest (a.put o.dst v') w') : wpList Tryd.prog ops Q (o :: rest) a w :=
  wpList_ownB (l := []) hw s x hop hs hx (Nat.le_refl _) (World.ownsRow_nil _ _ _ _) hin (by simpa using hb) fun v' w' h1 h2 => hK v' w' h1 ((Ext.refl w).grown h2 nofun)
end
end Go.Proofs.YtcmgeccgahakbaaDoor

/- A text's bytes, in new memory. -/
namespace Go.Proofs.YtcmgeccgahakbaaDoor
open Go Go.RowKit

theorem conv_bytesB (w : World) (s : ByteArray) (hs : s.size ≤ maxLen) : ∃ c w', (convert 9 33 (.string s)).run Tryd.prog w = .ok (.slice (some ⟨w.heap.size, 0, none⟩) s.size c) w' ∧ BytesIn w' (.slice (some ⟨w.heap.size, 0, none⟩) s.size c) s.data.toList ∧ Ext w w' ∧ w'.heap.size = w.heap.size + 1 := by
  have hz : s.data.toList.length = s.size := by rw [Array.length_toList]; rfl
  refine ⟨_, _, run_bytes_of_string w 9 33 5 s und_string und_bytes und_u8, ?_, (Ext.refl w).drew.alloc _, by rw [Deep.nblk_alloc]; rfl⟩
  have h1 := grownCap_ge w s.size 0 5
  refine ⟨_, _, rfl, h1, grownCap_le_maxLen w s.size 0 5 hs, nofun, fun j u hj => ⟨w.heap.size, 0, rfl, ?_⟩⟩
  rw [Nat.zero_add, cell_of_row _ w.heap.size j _ _ _ (heap_alloc_new w.drew _)]
  simp only [bcells, List.getElem?_map] at hj
  unfold bytesRow
  rw [Array.getElem?_append_left (by have := (List.getElem?_eq_some_iff.1 (Option.map_eq_some_iff.1 hj).choose_spec.1).1; simpa using this)]
  simpa using hj
theorem yields_strB {a : Act} {w : World} {o : Oper} (x : Operand) (ho : o.op = .convert 9 33 x) {s : ByteArray} (hx : a.eval x = .string s) (hs : s.size ≤ maxLen) {R : Value → World → Prop}
    (hR : ∀ c w', BytesIn w' (.slice (some ⟨w.heap.size, 0, none⟩) s.size c) s.data.toList → Ext w w' → w'.heap.size = w.heap.size + 1 → R (.slice (some ⟨w.heap.size, 0, none⟩) s.size c) w') : yields Tryd.prog o a w R := by
  obtain ⟨c, w', h1, h2, h3, h4⟩ := conv_bytesB w s hs
  unfold yields execOp
  simp only [ho, Sem.run_bind, hx, h1, Result.andThen_ok, Sem.run_pure]
  exact hR c w' h2 h3 h4
theorem wpList_strB {ops : Array Oper} {rest : List Oper} {o : Oper} {a : Act} {w : World} {Q : Exit → Act → World → Prop} (hw : Region.wanted o (yielded ops a.tmps) = true) (x : Operand) (ho : o.op = .convert 9 33 x) {s : ByteArray} (hx : a.eval x = .string s) (hs : s.size ≤ maxLen)
    (hK : ∀ c w', BytesIn w' (.slice (some ⟨w.heap.size, 0, none⟩) s.size c) s.data.toList → Ext w w' → w'.heap.size = w.heap.size + 1 → wpList Tryd.prog ops Q rest (a.put o.dst (.slice (some ⟨w.heap.size, 0, none⟩) s.size c)) w') : wpList Tryd.prog ops Q (o :: rest) a w := by
  unfold wpList
  rw [if_pos hw]
  exact .inl (yields_wp (yields_strB (R := fun v w' => wpList Tryd.prog ops Q rest (a.put o.dst v) w') x ho hx hs hK) fun v w' h => h)
end Go.Proofs.YtcmgeccgahakbaaDoor
