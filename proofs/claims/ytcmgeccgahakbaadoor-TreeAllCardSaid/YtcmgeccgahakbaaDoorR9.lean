/- order.Num, for callers (a cut of the order's walks). -/
import Derived.Test.YtcmgeccgahakbaaDoorR4
import Derived.Test.YtcmgeccgahakbaaDoorR8
import Derived.Lib.ItoaNum
import Derived.Lib.AppendStr
import Derived.Test.YtcmgeccgahakbaaDoorR2
import Derived.Test.YtcmgeccgahakbaaDoorR7
import Derived.Laws.Entries
import Derived.Laws.OwnMore
set_option linter.unusedSimpArgs false
set_option linter.unusedVariables false
namespace Go.Proofs.YtcmgeccgahakbaaDoor
open Go Go.RowKit

theorem mod256 (X : Int) : 0 ≤ X % 256 ∧ X % 256 < 256 := ⟨Int.emod_nonneg _ (by decide), Int.emod_lt_of_pos _ (by decide)⟩
theorem nlen_int (x : Nat) : (((bitsOf x : Int) + 8 - 1) / 8).toNat = nlen x := by unfold nlen; omega
theorem num_step {w w0 : World} {v : Value} {l : List UInt8} {x j k : Nat} (h : j + (k + 1) = nlen x) (hown : OwnB w w0.heap.size v ((l ++ UInt8.ofNat (nlen x) :: (beB (nlen x) x).take j) ++ [UInt8.ofNat (((x : Int) / 2 ^ (8 * k) % 256).toNat)])) :
    OwnB w w0.heap.size v (l ++ UInt8.ofNat (nlen x) :: (beB (nlen x) x).take (j + 1)) := by
  have e : (l ++ UInt8.ofNat (nlen x) :: (beB (nlen x) x).take j) ++ [UInt8.ofNat (((x : Int) / 2 ^ (8 * k) % 256).toNat)] = l ++ UInt8.ofNat (nlen x) :: (beB (nlen x) x).take (j + 1) := by
    rw [List.append_assoc, List.cons_append, List.take_add_one, beB_get (by omega)]
    simp only [Option.toList_some]
    rw [show nlen x - 1 - j = k by omega, byte_shift]
  rw [← e]
  exact hown

set_option maxHeartbeats 400000 in
theorem num_any (v : Value) (l : List UInt8) (x : Nat) (hx : x < 18446744073709551616) (w : World) (hv : BytesIn w v l) (hl : l.length ≤ 140737488000000)
    (hlen : ∀ w', Calls Tryd.prog 144 #[.int .u64 x] w' fun e w'' => e = .returned (.int .i64 (bitsOf x)) ∧ w' = w'') :
    Calls Tryd.prog 113 #[v, .int .u64 x] w fun e w' => ∃ v', e = .returned v' ∧ OwnB w' w.heap.size v' (l ++ num x) ∧ Ext w w' := by
  obtain ⟨a, c, rfl, hc, hcm, ha, hcell⟩ := hv
  have hv : BytesIn w (.slice a l.length l.length) l := ⟨a, l.length, rfl, Nat.le_refl _, Nat.le_trans hc hcm, fun h => by have := ha h; omega, hcell⟩
  have hb : bitsOf x ≤ 64 := bitsOf_le64 hx
  clear hcell ha
  go_enter Tryd.func113, Tryd.ntmps113
  go_wp2_with (first
    | (go_at_call 144; refine (hlen _).mono ?_; rintro e w' ⟨rfl, rfl⟩)
    | (go_at_call 145; refine (own_any _ _ _ hc hcm _).mono ?_; rintro e w' ⟨rfl, rfl⟩)
    | (at_builtin; go_must (refine appB w rfl (.tmp 12) (.tmp 15) rfl w (Ext.refl w) _ _ _ _ (cs1 (by omega) (by omega)) (by simp) rfl (Tip.full hv) _ rfl rfl (by simp; omega) ?_); intro v1 w1 hown1 hE1))
  clear hv hc hcm
  go_loopw [0, 5] (fun v n wr => ∃ (j k : Nat), j + k = nlen x ∧ n = .int .i64 ((k : Int) - 1) ∧ OwnB wr w.heap.size v (l ++ UInt8.ofNat (nlen x) :: (beB (nlen x) x).take j) ∧ Ext w wr) (fun _ n _ => (intOf n + 1).toNat)
  case atStart => exact ⟨0, nlen x, by omega, by unfold nlen; go_num, by rw [nlen_int] at hown1; simpa using hown1, hE1⟩
  case round =>
    obtain ⟨j, k, hjk, rfl, hown, hE⟩ := hrel
    cases k with
    | zero =>
      go_wp2
      go_ret
      exact ⟨_, rfl, by rw [show j = nlen x by omega, List.take_of_length_le (by rw [beB_length]; omega)] at hown; exact hown, hE⟩
    | succ k =>
      have hk8 : k ≤ 7 := by unfold nlen at hjk; omega
      have hj8 : j ≤ 8 := by unfold nlen at hjk; omega
      go_wp2_with (at_builtin; go_must (refine appB wr rfl (.tmp 23) (.tmp 29) rfl w hE _ _ _ _ (cs1 (mod256 _).1 (mod256 _).2) (by simp) rfl (Tip.own hown) _ rfl rfl (by simp [beB_length]; omega) ?_); intro v2 w2 hown2 hE2)
      go_roundw
      case rel => exact ⟨j + 1, k, by omega, rfl, num_step hjk hown2, hE2⟩
      case measure => simp [intOf] <;> omega

theorem bitLen_bits (x : Nat) (hx : x < 18446744073709551616) : Lib.bitLen x = bitsOf x := by
  symm
  by_cases h : x = 0
  · subst h; rfl
  · have := Lib.bitLenAux_bounds 64 x (by simpa using hx) h
    exact bitsOf_unique this.2.2 (.inr this.2.1)

theorem len64_any (x : Nat) (hx : x < 18446744073709551616) (w : World) : Calls Tryd.prog 144 #[.int .u64 x] w fun e w' => e = .returned (.int .i64 (bitsOf x)) ∧ w = w' :=
  (Tryd.bits_Len64 x w (by omega) (by omega)).mono fun e w' h => ⟨by rw [h.1, Int.toNat_natCast, bitLen_bits x hx], h.2.symm⟩

/-- order.Num, for callers. -/
theorem Num_ok (v : Value) (l : List UInt8) (X : Int) (h0 : 0 ≤ X) (h1 : X < 18446744073709551616) (w : World) (hv : BytesIn w v l) (hl : l.length ≤ 140737488000000) :
    Calls Tryd.prog 113 #[v, .int .u64 X] w fun e w' => ∃ v', e = .returned v' ∧ OwnB w' w.heap.size v' (l ++ num X.toNat) ∧ Ext w w' := by
  obtain ⟨x, rfl⟩ := Int.eq_ofNat_of_zero_le h0
  have hx : x < 18446744073709551616 := by omega
  rw [Int.toNat_natCast]
  exact num_any v l x hx w hv hl (len64_any x hx)

end Go.Proofs.YtcmgeccgahakbaaDoor

/- 'append(b, s...)' of a text's bytes, b a row of the call's own or a slice without spare room. -/
namespace Go.Proofs.YtcmgeccgahakbaaDoor
open Go Go.RowKit

theorem strCells_bcells (s : ByteArray) : Lib.strCells s = bcells s.data.toList := rfl
theorem info_b8s : Tryd.prog.info? 5 = some (Tryd.prog.info? 5).get! ∧ (Tryd.prog.info? 5).get!.zero = some (.int .u8 0) ∧ (Tryd.prog.info? 5).get!.size = 1 ∧ (Tryd.prog.info? 5).get!.bytes = 1 := ⟨by kernel_rfl, by kernel_rfl, by kernel_rfl, by kernel_rfl⟩

/-- Onto a row of one's own, whatever the text. -/
theorem appBo {ops : Array Oper} {rest : List Oper} {o : Oper} {a : Act} {Q : Exit → Act → World → Prop} (w : World) (hg : o.guard = none) (s x : Operand)
    (hop : o.op = Op.call { callee := Callee.builtin Builtin.append, args := #[s, x], argTypes := #[33, 9] })
    (B : Nat) (hB : B ≤ w.heap.size) (v : Value) (l : List UInt8) (news : ByteArray) (hs : a.eval s = v) (hT : OwnB w B v l) (hx : a.eval x = .string news) (hb : l.length + news.size ≤ 140737488355328)
    (hK : ∀ v' w', OwnB w' B v' (l ++ news.data.toList) → w.grownBy w' v.ownBlock → wpList Tryd.prog ops Q rest (a.put o.dst v') w') : wpList Tryd.prog ops Q (o :: rest) a w := by
  refine Lib.wpList_append_own_string w hg s x 33 9 hop B 5 _ und_bytes und_string info_b8s.1 info_b8s.2.1 info_b8s.2.2.1 info_b8s.2.2.2 v l.length (bcells l) hs hT news hx (by unfold maxLen; omega) hb hB ?_
  intro v' w' h1 h2 _
  refine hK v' w' ?_ h2
  unfold OwnB
  rw [strCells_bcells, ← bcells_append] at h1
  have e : (l ++ news.data.toList).length = l.length + news.size := by rw [List.length_append]; rfl
  rw [e]
  exact h1

/-- Onto a slice without spare room, a text that is not empty: a new row. -/
theorem appBs {ops : Array Oper} {rest : List Oper} {o : Oper} {a : Act} {Q : Exit → Act → World → Prop} (w : World) (hg : o.guard = none) (s x : Operand)
    (hop : o.op = Op.call { callee := Callee.builtin Builtin.append, args := #[s, x], argTypes := #[33, 9] })
    (w0 : World) (hE : Ext w0 w) (v : Value) (l : List UInt8) (news : ByteArray) (hs : a.eval s = v) (hT : Tip w w0.heap.size v l) (hx : a.eval x = .string news) (hm : 0 < news.size) (hb : l.length + news.size ≤ 140737488355328)
    (hK : ∀ v' w', OwnB w' w0.heap.size v' (l ++ news.data.toList) → Ext w0 w' → wpList Tryd.prog ops Q rest (a.put o.dst v') w') : wpList Tryd.prog ops Q (o :: rest) a w := by
  have own : ∀ v, a.eval s = v → OwnB w w0.heap.size v l → wpList Tryd.prog ops Q (o :: rest) a w := fun v hs hown =>
    appBo w hg s x hop w0.heap.size hE.le v l news hs hown hx hb fun v' w' h1 h2 => hK v' w' h1 (hE.grown h2 fun k hk => (hown.lt k hk).1)
  rcases hT with hown | ⟨ao, rfl, hin⟩
  · exact own v hs hown
  · obtain ⟨a', c', he, hnc, hcm, hz, hcells⟩ := hin
    cases he
    cases ao with
    | none =>
      have h0 := hz rfl
      have hl : l = [] := List.eq_nil_of_length_eq_zero h0
      subst hl
      exact own _ hs (World.ownsRow_nil _ _ _ _)
    | some ad =>
      have hlen : (bcells l).length = l.length * (Tryd.prog.info? 5).get!.size := by rw [info_b8s.2.2.1]; simp
      have h1 := Lib.run_append_grow_string (P := Tryd.prog) w 33 9 o.type 5 _ _ und_bytes und_string info_b8s.1 info_b8s.2.1 ad l.length l.length (bcells l) hlen (fun j u hj => by
          obtain ⟨b', o', e', hc'⟩ := hcells j u hj
          cases e'
          rw [Addr.add_lit]
          exact hc') news (by omega) (by omega) (by rw [info_b8s.2.2.2]; exact growslice_fits (by omega) (by omega))
      refine wpList_plain hg fun K hK' => ?_
      unfold Oper.wp execOp
      simp only [hop, resolve, invoke, builtin, Sem.run_bind, Sem.run_pure, Result.andThen_ok, List.map_toArray, List.map_cons, List.map_nil, hs, hx, h1]
      refine hK' _ _ (hK _ _ ?_ ?_)
      · have e : (l ++ news.data.toList).length = l.length + news.size := by rw [List.length_append]; rfl
        have hge := grownCap_ge w (l.length + news.size) l.length 5
        have hcm2 : grownCap w (l.length + news.size) l.length 5 ≤ maxLen := grownCap_le_maxLen w (l.length + news.size) l.length 5 (by unfold maxLen; omega)
        unfold OwnB
        rw [e]
        refine ⟨by rw [bcells_length, e, Nat.mul_one], .inr ⟨w.heap.size, _, _, rfl, hE.le, heap_alloc_new w.drew _, hge, hcm2, ?_, ?_⟩⟩
        · have hz1 : (Value.int IntKind.u8 0).cells.size = 1 := rfl
          have e2 : (Lib.strCells news).length = news.size := Lib.strCells_length news
          simp only [Array.size_append, List.size_toArray, size_zeroCells, hz1, bcells_length, e2]
          omega
        · simp only [Array.toList_append, List.append_assoc]
          rw [← List.append_assoc, strCells_bcells, ← bcells_append]
          have e3 : (l.length + news.size) * 1 = (bcells (l ++ news.data.toList)).length := by rw [bcells_length, e, Nat.mul_one]
          rw [e3]
          exact List.take_left
      · exact hE.drew.alloc _
end Go.Proofs.YtcmgeccgahakbaaDoor

/- Package pack: number, text; whole and Part of a partition without rows. -/
namespace Go.Proofs.YtcmgeccgahakbaaDoor
open Go Go.RowKit
attribute [local go_sem] yields yUpon

theorem nlen_le8 {x : Nat} (hx : x < 18446744073709551616) : nlen x ≤ 8 := by have := bitsOf_le64 hx; unfold nlen; omega
theorem num_length {x : Nat} (hx : x < 18446744073709551616) : (num x).length ≤ 9 := by have := nlen_le8 hx; unfold num; simp [beB_length]; omega

set_option maxHeartbeats 400000 in
theorem pk_number (v : Value) (l : List UInt8) (X : Int) (h0 : 0 ≤ X) (h1 : X ≤ 9223372036854775807) (w : World) (hv : BytesIn w v l) (hl : l.length ≤ 140737488000000) :
    Calls Tryd.prog 58 #[v, .int .i64 X] w fun e w' => ∃ v', e = .returned v' ∧ OwnB w' w.heap.size v' (l ++ num X.toNat) ∧ Ext w w' := by
  have hw : IntKind.u64.wrap X = X := by rw [IntKind.wrap_u64]; omega
  go_enter Tryd.func58, Tryd.ntmps58
  go_wp2_with (go_at_call 113; go_must (refine (Num_ok v l X h0 (by omega) w hv hl).mono ?_); rintro e w1 ⟨v1, rfl, ho1, hE1⟩)
  go_ret
  exact ⟨_, rfl, ho1, hE1⟩

set_option maxHeartbeats 400000 in
theorem pk_text (v : Value) (l : List UInt8) (s : ByteArray) (hs : s.size ≤ 1000000000) (w : World) (hv : BytesIn w v l) (hl : l.length ≤ 1000000000) :
    Calls Tryd.prog 59 #[v, .string s] w fun e w' => ∃ v', e = .returned v' ∧ OwnB w' w.heap.size v' (l ++ num s.size ++ s.data.toList) ∧ Ext w w' := by
  have hn := num_length (x := s.size) (by omega)
  go_enter Tryd.func59, Tryd.ntmps59
  go_wp2_with (first
    | (go_at_call 58; go_must (refine (pk_number v l s.size (by omega) (by omega) w hv (by omega)).mono ?_); rintro e w1 ⟨v1, rfl, ho1, hE1⟩; rw [Int.toNat_natCast] at ho1)
    | ((guard_target =~ wpList _ _ _ (Oper.mk (some 10) _ _ _ _ _ :: _) _ _); go_must (refine appBo w1 rfl (.tmp 8) (.tmp 9) rfl w.heap.size hE1.le v1 _ s (by rfl) ho1 (by rfl) (by simp; omega) ?_); intro v2 w2 ho2 hg2))
  go_ret
  exact ⟨_, rfl, ho2, hE1.grown hg2 (fun k hk => (ho1.lt k hk).1)⟩
end Go.Proofs.YtcmgeccgahakbaaDoor

/- Appends to rows of one's own inside regions that draw their order: what an append does to the block it may write to, cell by cell. -/
namespace Go.Proofs.YtcmgeccgahakbaaDoor
open Go Go.RowKit

/-- An append of N to a row of one's own that holds X (k elements). -/
def AppE (T : TypeId) (size S k : Nat) (X N : List Value) (x y : World) : Prop :=
  ∃ vo, x.ownsRow S T size vo k X ∧ x.grownBy y vo.ownBlock ∧ ∀ g, vo.ownBlock = some g → ∀ cur, x.heap[g]? = some (.cells cur T (0, 0)) →
    ∃ cur2, y.heap[g]? = some (.cells cur2 T (0, 0)) ∧ cur2.size = cur.size ∧ ∀ i, cur2[i]? = cur[i]? ∨ (k * size ≤ i ∧ i < k * size + N.length ∧ cur2[i]? = N[i - k * size]?)
section
variable {T : TypeId} {size S k : Nat} {X N : List Value} {x y : World}
theorem AppE.to {w : World} (hS : w.heap.size ≤ S) (h : AppE T size S k X N x y) (hE : Ext w x) : Ext w y := by
  obtain ⟨vo, ho, hg, _⟩ := h
  exact hE.grown hg (fun q hq => by have := (ho.lt q hq).1; omega)
theorem AppE.le (h : AppE T size S k X N x y) : x.heap.size ≤ y.heap.size := by
  obtain ⟨vo, ho, hg, _⟩ := h
  exact hg.size
theorem AppE.keep (h : AppE T size S k X N x y) {S' : Nat} {v : Value} {m : Nat} {Y : List Value} (ho : x.ownsRow S' T size v m Y) (hY : ∀ i u, Y[i]? = some u → k * size ≤ i → i < k * size + N.length → N[i - k * size]? = some u) : y.ownsRow S' T size v m Y := by
  obtain ⟨vo, _, hg, hc⟩ := h
  refine ⟨ho.1, ho.2.imp id ?_⟩
  rintro ⟨g, cap, cur, rfl, hb, hh, hmc, hcm, hcs, ht⟩
  by_cases e : vo.ownBlock = some g
  · obtain ⟨cur2, h2, hs2, hi⟩ := hc g e cur hh
    refine ⟨g, cap, cur2, rfl, hb, h2, hmc, hcm, by rw [hs2, hcs], ?_⟩
    apply List.ext_getElem?
    intro i
    by_cases hlt : i < m * size
    · have hYi : Y[i]? = cur[i]? := by rw [← ht, List.getElem?_take, if_pos hlt, Array.getElem?_toList]
      rw [List.getElem?_take, if_pos hlt, Array.getElem?_toList]
      rcases hi i with h1 | ⟨h1, h1', h2⟩
      · rw [h1, hYi]
      · have hl : i < Y.length := by rw [ho.1]; exact hlt
        rw [h2, hY i _ (List.getElem?_eq_getElem hl) h1 h1', List.getElem?_eq_getElem hl]
    · rw [List.getElem?_take, if_neg hlt, List.getElem?_eq_none (by rw [ho.1]; omega)]
  · exact ⟨g, cap, cur, rfl, hb, by rw [hg.block g (Array.getElem?_eq_some_iff.1 hh).1 (fun h => e h.symm)]; exact hh, hmc, hcm, hcs, ht⟩
theorem AppE.keep_short (h : AppE T size S k X N x y) {S' : Nat} {v : Value} {m : Nat} {Y : List Value} (ho : x.ownsRow S' T size v m Y) (hm : m ≤ k) : y.ownsRow S' T size v m Y :=
  h.keep ho fun i u hu h1 _ => by
    have h2 := (List.getElem?_eq_some_iff.1 hu).1
    rw [ho.1] at h2
    have := Nat.mul_le_mul_right size hm
    omega
theorem AppE.keep_long (h : AppE T size S k X N x y) (hX : X.length = k * size) {S' : Nat} {v : Value} {m : Nat} {R : List Value} (ho : x.ownsRow S' T size v m (X ++ N ++ R)) : y.ownsRow S' T size v m (X ++ N ++ R) :=
  h.keep ho fun i u hu h1 h2 => by
    rw [List.append_assoc, List.getElem?_append_right (by omega), hX, List.getElem?_append_left (by omega)] at hu
    exact hu
/-- A variable of one element, of the row's type. -/
theorem AppE.box (h : AppE T size S k X N x y) {b : Nat} {cs : Array Value} {U : TypeId} (hb : BoxAt x b cs U) (hcs : U = T → ∀ i u, cs[i]? = some u → k * size ≤ i → i < k * size + N.length → N[i - k * size]? = some u) : BoxAt y b cs U := by
  obtain ⟨vo, ho, hg, hc⟩ := h
  by_cases e : vo.ownBlock = some b
  · rcases ho.2 with ⟨rfl, _⟩ | ⟨g, cap, cur, rfl, hb', hh, _⟩
    · cases e
    · have e' : g = b := Option.some.inj e
      subst e'
      have hb2 : x.heap[g]? = some (.cells cs U (0, 0)) := hb
      rw [hh] at hb2
      cases hb2
      obtain ⟨cur2, h2, hs2, hi⟩ := hc g rfl cs hh
      have e2 : cur2 = cs := by
        apply Array.ext_getElem?
        intro i
        rcases hi i with h1 | ⟨h1, h1', h3⟩
        · exact h1
        · by_cases hl : i < cs.size
          · rw [h3, hcs rfl i _ (Array.getElem?_eq_getElem hl) h1 h1', Array.getElem?_eq_getElem hl]
          · rw [Array.getElem?_eq_none (by omega), Array.getElem?_eq_none (by omega)]
      unfold BoxAt
      rw [h2, e2]
  · exact hb.grown hg (fun h => e h.symm)
end
/-- 'append' to a row of one's own, told cell by cell. -/
theorem run_append_cells {P : Program} (w : World) (base : Nat) (t ty e : TypeId) (i : TypeInfo) (z : Value) (size bytes : Nat) (ht : P.underlying t = some (.slice e)) (hi : P.info? e = some i) (hz : i.zero = some z)
    (hsize : i.size = size) (hby : i.bytes = bytes) (hzs : z.cells.size = size) (hsz : 0 < size)
    (v : Value) (n : Nat) (xs : List Value) (hown : w.ownsRow base e size v n xs)
    (a : Addr) (m c : Nat) (news : List Value) (hl : news.length = m * size) (hnews : ∀ j u, news[j]? = some u → w.cell? (a.add j) = some u) (h1 : ∀ u ∈ news, u.oneCell' = true)
    (h63 : n + m ≤ maxLen) (hbytes : (n + m) * bytes ≤ 140737488355328) (hbase : base ≤ w.heap.size) :
    ∃ v' w', (Builtin.append_ #[t, t] ty #[v, .slice (some a) m c]).run P w = .ok v' w' ∧ w'.ownsRow base e size v' (n + m) (xs ++ news) ∧ AppE e size base n xs news w w' ∧ w.grownBy w' v.ownBlock := by
  obtain ⟨v', w', hr, h2, h3, _⟩ := run_append_own (P := P) w base t ty e i z size bytes ht hi hz hsize hby hzs hsz v n xs hown a m c news hl hnews h1 h63 hbytes hbase
  refine ⟨v', w', hr, h2, ⟨v, hown, h3, ?_⟩, h3⟩
  subst hsize
  subst hby
  have hsmall : n + m ≤ 9223372036854775807 := by simp only [maxLen] at h63; omega
  rcases hown.2 with ⟨rfl, rfl⟩ | ⟨g, cap, cur, rfl, hbg, hg, hnc, hcm, hcs, htake⟩
  · intro g hgv; cases hgv
  · intro g' hgv cur' hc'
    have e' : g = g' := Option.some.inj hgv
    subst e'
    rw [hg] at hc'
    cases hc'
    by_cases hroom : n + m ≤ cap
    · have hfit : n * i.size + news.length ≤ cur.size := by rw [hl, hcs, ← Nat.add_mul]; exact Nat.mul_le_mul_right _ hroom
      have hr2 := run_append_room (P := P) w t ty e i ht hi g n cap cur hg a m c news hl hnews h1 hroom hfit
      rw [hr] at hr2
      cases hr2
      refine ⟨_, setRow_heap w g cur _ e (0, 0) hg, ?_, fun j => ?_⟩
      · simp; omega
      · simp only [List.getElem?_toArray]
        rcases Nat.lt_or_ge j (n * i.size) with hj | hj
        · left
          rw [List.append_assoc, List.getElem?_append_left (by simp; omega), List.getElem?_take, if_pos hj, Array.getElem?_toList]
        · rcases Nat.lt_or_ge j (n * i.size + news.length) with hj2 | hj2
          · right
            refine ⟨hj, hj2, ?_⟩
            have hl0 : (cur.toList.take (n * i.size)).length = n * i.size := by simp; omega
            rw [List.append_assoc, List.getElem?_append_right (by omega), hl0, List.getElem?_append_left (by omega)]
          · left
            have hl0 : (cur.toList.take (n * i.size) ++ news).length = n * i.size + news.length := by simp; omega
            rw [List.getElem?_append_right (by omega), hl0, List.getElem?_drop, show n * i.size + news.length + (j - (n * i.size + news.length)) = j by omega, Array.getElem?_toList]
    · have holds : ∀ j u, xs[j]? = some u → w.cell? ((⟨g, 0, none⟩ : Addr).add j) = some u := hown.cells (g := g) rfl
      have hr2 := run_append_grow (P := P) w t ty e i z ht hi hz ⟨g, 0, none⟩ n cap xs hown.1 holds a m c news hl hnews (by omega) (by omega) (growslice_fits (by omega) hbytes)
      rw [hr] at hr2
      cases hr2
      refine ⟨cur, ?_, rfl, fun _ => .inl rfl⟩
      have hlt := (Array.getElem?_eq_some_iff.1 hg).1
      exact (heap_alloc_old w.drew _ hlt).trans hg
theorem AppE.refl {T : TypeId} {size S k : Nat} {X N : List Value} {x : World} {v : Value} (h : x.ownsRow S T size v k X) : AppE T size S k X N x x :=
  ⟨v, h, ⟨rfl, rfl, rfl, Nat.le_refl _, fun _ _ _ => rfl⟩, fun _ _ cur hc => ⟨cur, hc, rfl, fun _ => .inl rfl⟩⟩
/-- Operations j with p j = some (k, X, N) append N to a row of one's own that holds X; the others let memory grow. -/
def NE (T : TypeId) (size S : Nat) (p : Nat → Option (Nat × List Value × List Value)) (j : Nat) (x y : World) : Prop :=
  (p j = none ∧ Ext x y) ∨ ∃ k X N, p j = some (k, X, N) ∧ AppE T size S k X N x y
theorem NE_ext {T : TypeId} {size S : Nat} {p : Nat → Option (Nat × List Value × List Value)} {j : Nat} {x y : World} (hj : p j = none) (h : Ext x y) : NE T size S p j x y := .inl ⟨hj, h⟩
theorem NE_app {T : TypeId} {size S : Nat} {p : Nat → Option (Nat × List Value × List Value)} {j : Nat} {x y : World} {k : Nat} {X N : List Value} (hj : p j = some (k, X, N)) (h : AppE T size S k X N x y) : NE T size S p j x y := .inr ⟨k, X, N, hj, h⟩
theorem NE_to {T : TypeId} {size S : Nat} {p : Nat → Option (Nat × List Value × List Value)} {j : Nat} {x y w : World} (hS : w.heap.size ≤ S) (h : NE T size S p j x y) (hE : Ext w x) : Ext w y := by
  rcases h with ⟨_, h⟩ | ⟨_, _, _, _, h⟩
  · exact hE.trans h
  · exact h.to hS hE
theorem NE_le {T : TypeId} {size S : Nat} {p : Nat → Option (Nat × List Value × List Value)} {j : Nat} {x y : World} (h : NE T size S p j x y) : x.heap.size ≤ y.heap.size := by
  rcases h with ⟨_, h⟩ | ⟨_, _, _, _, h⟩
  · exact h.le
  · exact h.le
theorem NE_own {T : TypeId} {size S : Nat} {p : Nat → Option (Nat × List Value × List Value)} {j : Nat} {x y : World} (h : NE T size S p j x y) {S' : Nat} {v : Value} {m : Nat} {Y : List Value} (ho : x.ownsRow S' T size v m Y)
    (hY : ∀ k X N, p j = some (k, X, N) → ∀ i u, Y[i]? = some u → k * size ≤ i → i < k * size + N.length → N[i - k * size]? = some u) : y.ownsRow S' T size v m Y := by
  rcases h with ⟨_, h⟩ | ⟨k, X, N, hj, h⟩
  · exact ownsRow_ext ho h
  · exact h.keep ho (hY k X N hj)
theorem NE_box {T : TypeId} {size S : Nat} {p : Nat → Option (Nat × List Value × List Value)} {j : Nat} {x y : World} (h : NE T size S p j x y) {b : Nat} {cs : Array Value} {U : TypeId} (hb : BoxAt x b cs U)
    (hY : ∀ k X N, p j = some (k, X, N) → U = T → ∀ i u, cs[i]? = some u → k * size ≤ i → i < k * size + N.length → N[i - k * size]? = some u) : BoxAt y b cs U := by
  rcases h with ⟨_, h⟩ | ⟨k, X, N, hj, h⟩
  · exact hb.ext h
  · exact h.box hb (hY k X N hj)
/-- 'append' of any slice to a row of one's own, as the region's walk meets it. -/
theorem yields_app {P : Program} {o : Oper} {a : Act} {Tt e : TypeId} {z : Value} {size bytes : Nat} (info : (P.info? e).map (fun i => (i.zero, i.size, i.bytes)) = some (some z, size, bytes)) (und : P.underlying Tt = some (.slice e)) (hzs : z.cells.size = size) (hsz : 0 < size) (s x : Operand)
    (hop : o.op = Op.call { callee := Callee.builtin Builtin.append, args := #[s, x], argTypes := #[Tt, Tt] }) {w : World}
    (B : Nat) (hB : B ≤ w.heap.size) (v : Value) (m : Nat) (xs : List Value) (hown : w.ownsRow B e size v m xs) (hs : a.eval s = v) {u : Value} {c : Nat} {news : List Value} (hin : SliceIn w u c news) (hx : a.eval x = u)
    (hl : news.length = c * size) (h1 : ∀ u ∈ news, u.oneCell' = true) (h63 : m + c ≤ maxLen) (hb : (m + c) * bytes ≤ 140737488355328) {R : Value → World → Prop}
    (hR : ∀ v' w', w'.ownsRow B e size v' (m + c) (xs ++ news) → AppE e size B m xs news w w' → w.grownBy w' v.ownBlock → R v' w') : yields P o a w R := by
  obtain ⟨i0, hi, hz0, hz1, hz2⟩ := info_parts info
  obtain ⟨ao, cp, rfl, hc, hcm, ha, hcell⟩ := hin
  cases ao with
  | none =>
    have hc0 := ha rfl
    obtain rfl : c = 0 := by omega
    obtain rfl : news = [] := List.eq_nil_of_length_eq_zero (by omega)
    subst hc0
    have hr := run_append_owned_none (P := P) (w := w) B Tt o.type e i0 size und hi v m xs hown
    unfold yields execOp
    simp only [hop, resolve, invoke, builtin, Sem.run_bind, Sem.run_pure, Result.andThen_ok, List.map_toArray, List.map_cons, List.map_nil, hs, hx, hr]
    exact hR _ _ (by rw [List.append_nil]; exact hown) (AppE.refl hown) ⟨rfl, rfl, rfl, Nat.le_refl _, fun _ _ _ => rfl⟩
  | some ad =>
    obtain ⟨v', w', hr, h2, h3, h4⟩ := run_append_cells (P := P) w B Tt o.type e i0 z size bytes und hi hz0 hz1 hz2 hzs hsz v m xs hown ad c cp news hl (fun j u hj => by
      obtain ⟨b, o, e, h⟩ := hcell j u hj
      cases e
      rw [Addr.add_lit]
      exact h) h1 h63 hb hB
    unfold yields execOp
    simp only [hop, resolve, invoke, builtin, Sem.run_bind, Sem.run_pure, Result.andThen_ok, List.map_toArray, List.map_cons, List.map_nil, hs, hx, hr]
    exact hR v' w' h2 h3 h4
end Go.Proofs.YtcmgeccgahakbaaDoor
