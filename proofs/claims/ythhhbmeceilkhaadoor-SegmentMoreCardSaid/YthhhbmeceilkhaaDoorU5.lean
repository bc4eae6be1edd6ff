/- clerestorylaw00.SameStrings of two slices that read alike. -/
import Derived.Test.YthhhbmeceilkhaaDoorU4
import Derived.Test.YthhhbmeceilkhaaDoorU2
import Derived.Laws.OwnMore
import Derived.Test.YthhhbmeceilkhaaDoorU1
import Derived.Test.YthhhbmeceilkhaaDoorProg
set_option linter.unusedSimpArgs false
set_option linter.unusedVariables false
namespace Go.Proofs.YthhhbmeceilkhaaDoor
open Go Go.RowKit
attribute [local go_sem] yields yUpon

theorem StrsIn.ext {w w' : World} (hE : Ext w w') {v : Value} {l : List (List UInt8)} (h : StrsIn w v l) : StrsIn w' v l := SliceIn.ext hE h
theorem StrsIn.get {w : World} {v : Value} {l : List (List UInt8)} (h : StrsIn w v l) : ∃ a c, v = .slice a l.length c ∧ l.length ≤ c ∧ c ≤ maxLen ∧ ∀ k (h : k < l.length), ∃ b o, a = some ⟨b, o, none⟩ ∧ w.cell? ⟨b, o + k, none⟩ = some (.string (str l[k])) := by
  obtain ⟨a, c, rfl, hc, hcm, _, hcell⟩ := h
  exact ⟨a, c, rfl, hc, hcm, fun k hk => hcell k _ (by simp [scells, hk])⟩

set_option maxRecDepth 100000 in
set_option maxHeartbeats 2000000 in
theorem sameStr_any (v v' : Value) (l : List (List UInt8)) (w : World) (hin : StrsIn w v l) (hin' : StrsIn w v' l) :
    Calls Tryd.prog 13 #[v, v'] w fun e w' => e = .returned (.bool true) ∧ Ext w w' := by
  obtain ⟨a, c, rfl, hc, hcm, hcell⟩ := hin.get
  obtain ⟨a', c', rfl, hc', hcm', hcell'⟩ := hin'.get
  have HC := Lib.hid hcell
  have HC' := Lib.hid hcell'
  clear hcell hin hcell' hin'
  unfold maxLen at hcm hcm'
  go_enter Tryd.func13, Tryd.ntmps13
  go_wp2
  go_loopw [5] (fun i wr => ∃ k : Nat, k ≤ l.length ∧ i = .int .i64 k ∧ Ext w wr) (fun i _ => l.length - (intOf i).toNat)
  case atStart => exact ⟨0, Nat.zero_le _, rfl, Ext.refl w⟩
  case round =>
    obtain ⟨k, hk, rfl, hE⟩ := hrel
    by_cases hlt : k < l.length
    · obtain ⟨b, o, rfl, hco⟩ := HC.out k hlt
      obtain ⟨b', o', rfl, hco'⟩ := HC'.out k hlt
      obtain ⟨x, hx⟩ : ∃ x, x = str l[k] := ⟨_, rfl⟩
      rw [← hx] at hco hco'
      clear hx
      replace hco := hE.cell hco
      replace hco' := hE.cell hco'
      go_wp2
      go_quiet (fail)
      go_wp2
      go_roundw
      case rel => exact ⟨k + 1, by omega, by go_num, hE.drewN _⟩
      case measure => simp [intOf]; omega
    · obtain rfl : k = l.length := by omega
      go_wp2
      go_ret
      exact ⟨rfl, hE⟩
end Go.Proofs.YthhhbmeceilkhaaDoor

/- Plain law: behind what is good a record goes on; lengths of many records; prefixes of slices of texts. -/
namespace Go.Proofs.YthhhbmeceilkhaaDoor
open Go Go.RowKit

theorem scan_sound (s : List UInt8) : ∀ (m at_ : Nat), s.length - at_ ≤ m → s.drop at_ = puts at_ (scan s at_).1 ++ s.drop (scan s at_).2 ∧ (scan s at_).2 = at_ + (puts at_ (scan s at_).1).length := by
  intro m
  induction m with
  | zero =>
    intro at_ h
    have hr : rd s false at_ = none := by
      cases hr : rd s false at_ with
      | none => rfl
      | some p =>
        obtain ⟨b, e⟩ := p
        obtain ⟨_, _, h3, h4⟩ := rd_spec hr
        have := sput_pos false at_ b
        omega
    rw [scan_none hr]; simp [puts]
  | succ m ih =>
    intro at_ h
    cases hr : rd s false at_ with
    | none => rw [scan_none hr]; simp [puts]
    | some p =>
      obtain ⟨b, e⟩ := p
      obtain ⟨_, h2, h3, h4⟩ := rd_spec hr
      have hp := sput_pos false at_ b
      obtain ⟨i1, i2⟩ := ih e (by omega)
      rw [scan_some hr]
      simp only [puts, ← h3, List.append_assoc, List.length_append]
      refine ⟨by rw [← i1]; exact h2, by omega⟩
theorem scan_take (s : List UInt8) : s.take (scan s 0).2 = puts 0 (scan s 0).1 ∧ (scan s 0).2 = (puts 0 (scan s 0).1).length := by
  obtain ⟨h1, h2⟩ := scan_sound s _ 0 (Nat.le_refl _)
  rw [Nat.zero_add] at h2
  refine ⟨?_, h2⟩
  rw [List.drop_zero] at h1
  generalize (scan s 0).2 = g at h1 h2 ⊢
  generalize (scan s 0).1 = m at h1 h2 ⊢
  rw [h1]
  exact List.take_left' h2.symm
theorem scan_more (s body : List UInt8) : scan (s.take (scan s 0).2 ++ sput false (scan s 0).2 body) 0 = ((scan s 0).1 ++ [body], (scan s 0).2 + (sput false (scan s 0).2 body).length) := by
  obtain ⟨h1, h2⟩ := scan_take s
  have e : s.take (scan s 0).2 ++ sput false (scan s 0).2 body = puts 0 ((scan s 0).1 ++ [body]) := by
    rw [puts_append, h1, Nat.zero_add, ← h2]
    simp [puts]
  rw [e, scan_all, ← e, List.length_append, h1, ← h2]
theorem puts_le : ∀ (l : List (List UInt8)) (n : Nat), (∀ x ∈ l, x.length ≤ 400) → (puts n l).length ≤ l.length * 2812
  | [], _, _ => by simp [puts]
  | b :: l, n, h => by
    have h1 := puts_le l (n + (sput false n b).length) fun x hx => h x (List.mem_cons_of_mem _ hx)
    have h2 := lenS_le _ n b.length (Nat.le_refl _)
    have h3 := h b (List.mem_cons_self ..)
    have h4 := sput_lenS false n b
    simp only [puts, List.length_append, List.length_cons]
    omega
theorem puts_take {l : List (List UInt8)} {k : Nat} (hk : k < l.length) : puts 0 (l.take k) ++ sput false (puts 0 (l.take k)).length l[k] = puts 0 (l.take (k + 1)) := by
  rw [List.take_succ_eq_append_getElem hk, puts_append]
  simp [puts]
theorem take_le {l : List (List UInt8)} {k : Nat} (hk : k < l.length) (h : ∀ x ∈ l.take k, x.length ≤ 400) (hx : l[k].length ≤ 400) : ∀ x ∈ l.take (k + 1), x.length ≤ 400 := by
  rw [List.take_succ_eq_append_getElem hk]
  intro x hm
  rcases List.mem_append.1 hm with hm | hm
  · exact h x hm
  · rw [List.mem_singleton.1 hm]; exact hx
theorem StrsIn.pre {w : World} {a : Option Addr} {n c : Nat} {m r : List (List UInt8)} (h : StrsIn w (.slice a n c) (m ++ r)) : StrsIn w (.slice a m.length c) m := by
  obtain ⟨a', c', e, hc, hcm, ha, hcell⟩ := h
  injection e with e1 e2 e3
  subst e1 e2 e3
  refine ⟨_, _, rfl, by simp at hc; omega, hcm, ha, fun j u hj => hcell j u ?_⟩
  have hjl : j < m.length := by
    rcases Nat.lt_or_ge j m.length with h | h
    · exact h
    · rw [List.getElem?_eq_none (by simpa using h)] at hj; cases hj
  unfold scells at hj ⊢
  rw [List.map_append, List.getElem?_append_left (by simpa using hjl)]
  exact hj
theorem StrsIn.at {w : World} {v : Value} {m r : List (List UInt8)} {x : List UInt8} (h : StrsIn w v (m ++ x :: r)) : ∃ b o c, v = .slice (some ⟨b, o, none⟩) (m ++ x :: r).length c ∧ (m ++ x :: r).length ≤ c ∧ c ≤ maxLen ∧ w.cell? ⟨b, o + m.length, none⟩ = some (.string (str x)) := by
  obtain ⟨a, c, rfl, hc, hcm, hcell⟩ := h.get
  obtain ⟨b, o, rfl, hx⟩ := hcell m.length (by simp)
  exact ⟨b, o, c, rfl, hc, hcm, by simpa using hx⟩
end Go.Proofs.YthhhbmeceilkhaaDoor

/- 'append(b, x...)' of bytes from any slice, b a row of the call's own. -/
namespace Go.Proofs.YthhhbmeceilkhaaDoor
open Go Go.RowKit

theorem info_b8c : Tryd.prog.info? 5 = some (Tryd.prog.info? 5).get! ∧ (Tryd.prog.info? 5).get!.zero = some (.int .u8 0) ∧ (Tryd.prog.info? 5).get!.size = 1 ∧ (Tryd.prog.info? 5).get!.bytes = 1 := ⟨by kernel_rfl, by kernel_rfl, by kernel_rfl, by kernel_rfl⟩
theorem run_ownB {w : World} {B : Nat} {v u : Value} {l m : List UInt8} (hB : B ≤ w.heap.size) (hown : OwnB w B v l) (hin : BytesIn w u m) (hb : l.length + m.length ≤ 140737488355328) (ty : TypeId) :
    ∃ v' w', (Builtin.append_ #[22, 22] ty #[v, u]).run Tryd.prog w = .ok v' w' ∧ OwnB w' B v' (l ++ m) ∧ w.grownBy w' v.ownBlock := by
  obtain ⟨a, c, rfl, hc, hcm, ha, hcell⟩ := hin
  cases a with
  | none =>
    have h0 := ha rfl
    subst h0
    obtain rfl : m = [] := List.eq_nil_of_length_eq_zero (by omega)
    exact ⟨v, w, run_append_owned_none (P := Tryd.prog) w B 22 ty 5 _ 1 und_bytes info_b8c.1 v l.length (bcells l) hown, by simpa using hown, ⟨rfl, rfl, rfl, Nat.le_refl _, fun _ _ _ => rfl⟩⟩
  | some ad =>
    obtain ⟨v', w', h1, h2, h3, _⟩ := run_append_own (P := Tryd.prog) w B 22 ty 5 _ (.int .u8 0) 1 1 und_bytes info_b8c.1 info_b8c.2.1 info_b8c.2.2.1 info_b8c.2.2.2 rfl (by decide) v l.length (bcells l) hown ad m.length c (bcells m) (by simp) (fun j u hj => by
        obtain ⟨b', o', e', hc'⟩ := hcell j u hj
        cases e'
        rw [Addr.add_lit]
        exact hc') (fun u hu => by
        simp only [bcells, List.mem_map] at hu
        obtain ⟨b, _, rfl⟩ := hu
        rfl) (by unfold maxLen; omega) (by omega) hB
    refine ⟨v', w', h1, ?_, h3⟩
    unfold OwnB
    rw [List.length_append, bcells_append]
    exact h2
section
variable {ops : Array Oper} {Q : Exit → Act → World → Prop} {a : Act} {w : World} {rest : List Oper} {o : Oper}
theorem yields_ownB (s x : Operand) (hop : o.op = Op.call { callee := Callee.builtin Builtin.append, args := #[s, x], argTypes := #[22, 22] }) {B : Nat} {v u : Value} {l m : List UInt8} (hs : a.eval s = v) (hx : a.eval x = u) (hB : B ≤ w.heap.size) (hown : OwnB w B v l) (hin : BytesIn w u m)
    (hb : l.length + m.length ≤ 140737488355328) {R : Value → World → Prop} (hR : ∀ v' w', OwnB w' B v' (l ++ m) → w.grownBy w' v.ownBlock → R v' w') : yields Tryd.prog o a w R := by
  obtain ⟨v', w', h1, h2, h3⟩ := run_ownB hB hown hin hb o.type
  unfold yields execOp
  simp only [hop, resolve, invoke, builtin, Sem.run_bind, Sem.run_pure, Result.andThen_ok, List.map_toArray, List.map_cons, List.map_nil, hs, hx, h1]
  exact hR v' w' h2 h3
theorem wpList_ownB (hw : Region.wanted o (yielded ops a.tmps) = true) (s x : Operand) (hop : o.op = Op.call { callee := Callee.builtin Builtin.append, args := #[s, x], argTypes := #[22, 22] }) {B : Nat} {v u : Value} {l m : List UInt8} (hs : a.eval s = v) (hx : a.eval x = u) (hB : B ≤ w.heap.size) (hown : OwnB w B v l) (hin : BytesIn w u m)
    (hb : l.length + m.length ≤ 140737488355328) (hK : ∀ v' w', OwnB w' B v' (l ++ m) → w.grownBy w' v.ownBlock → wpList Tryd.prog ops Q rest (a.put o.dst v') w') : wpList Tryd.prog ops Q (o :: rest) a w := by
  unfold wpList
  rw [if_pos hw]
  exact .inl (yields_wp (yields_ownB (R := fun v w' => wpList Tryd.prog ops Q rest (a.put o.dst v) w') s x hop hs hx hB hown hin hb hK) fun v w' h => h)
/-- append([]byte(nil), x...). -/
theorem yields_cloneB (s x : Operand) (hop : o.op = Op.call { callee := Callee.builtin Builtin.append, args := #[s, x], argTypes := #[22, 22] }) {u : Value} {m : List UInt8} (hs : a.eval s = .slice none 0 0) (hx : a.eval x = u) (hin : BytesIn w u m)
    (hb : m.length ≤ 140737488355328) {R : Value → World → Prop} (hR : ∀ v' w', OwnB w' w.heap.size v' m → Ext w w' → R v' w') : yields Tryd.prog o a w R :=
  yields_ownB (l := []) s x hop hs hx (Nat.le_refl _) (World.ownsRow_nil _ _ _ _) hin (by simpa using hb) fun v' w' h1 h2 => hR v' w' h1 ((Ext.refl w).grown h2 nofun)
theorem wpList_cloneB (hw : Region.wanted o (yielded ops a.tmps) = true) (s x : Operand) (hop : o.op = Op.call { callee := Callee.builtin Builtin.append, args := #[s, x], argTypes := #[22, 22] }) {u : Value} {m : List UInt8} (hs : a.eval s = .slice none 0 0) (hx : a.eval x = u) (hin : BytesIn w u m)
    (hb : m.length ≤ 140737488355328) (hK : ∀ v' w', OwnB w' w.heap.size v' m → Ext w w' → wpList Tryd.prog ops Q rest (a.put o.dst v') w') : wpList Tryd.prog ops Q (o :: rest) a w :=
  wpList_ownB (l := []) hw s x hop hs hx (Nat.le_refl _) (World.ownsRow_nil _ _ _ _) hin (by simpa using hb) fun v' w' h1 h2 => hK v' w' h1 ((Ext.refl w).grown h2 nofun)
end
end Go.Proofs.YthhhbmeceilkhaaDoor

/- Place: any number as one below another. -/
namespace Go.Proofs.YthhhbmeceilkhaaDoor
open Go Go.RowKit

set_option maxHeartbeats 400000 in
theorem place_any (v n : Int) (h : 1 ≤ n) (hn : n ≤ 9223372036854775807) (w : World) :
    Calls Tryd.prog 14 #[.int .i64 v, .int .i64 n] w fun e w' => e = .returned (.int .i64 (v % n)) ∧ w = w' := by
  have hlo := (tmod_lo (v := v) h).1
  have hhi := (tmod_lo (v := v) h).2
  by_cases h0 : v.tmod n < 0
  · have HE := Lib.hid (tmod_neg h h0)
    go_enter Tryd.func14, Tryd.ntmps14
    go_wp2
    go_ret
    exact ⟨ret_int HE.out, rfl⟩
  · have h0' : 0 ≤ v.tmod n := by omega
    have HE := Lib.hid (tmod_pos h h0')
    go_enter Tryd.func14, Tryd.ntmps14
    go_wp2
    go_ret
    exact ⟨ret_int HE.out, rfl⟩

end Go.Proofs.YthhhbmeceilkhaaDoor
