/- order.Num, for callers (a cut of the order's walks). -/
import Derived.Test.YtimbikbbbfpeeaaGreatDoorP6
import Derived.Test.YtimbikbbbfpeeaaGreatDoorP10
import Derived.Test.YtimbikbbbfpeeaaGreatDoorP27
import Derived.Lib.ItoaNum
import Derived.Lib.AppendStr
set_option linter.unusedSimpArgs false
set_option linter.unusedVariables false
namespace Go.Proofs.YtimbikbbbfpeeaaGreatDoor
open Go Go.RowKit

theorem mod256 (X : Int) : 0 ≤ X % 256 ∧ X % 256 < 256 := ⟨Int.emod_nonneg _ (by decide), Int.emod_lt_of_pos _ (by decide)⟩
theorem nlen_int (x : Nat) : (((bitsOf x : Int) + 8 - 1) / 8).toNat = nlen x := by unfold nlen; omega
theorem num_step {w w0 : World} {v : Value} {l : List UInt8} {x j k : Nat} (h : j + (k + 1) = nlen x) (hown : OwnB w w0.heap.size v ((l ++ UInt8.ofNat (nlen x) :: (beB (nlen x) x).take j) ++ [UInt8.ofNat (((x : Int) / 2 ^ (8 * k) % 256).toNat)])) :
    OwnB w w0.heap.size v (l ++ UInt8.ofNat (nlen x) :: (beB (nlen x) x).take (j + 1)) := by
  have e : (l ++ UInt8.ofNat (nlen x) :: (beB (nlen x) x).take j) ++ [UInt8.ofNat (((x : Int) / 2 ^ (8 * k) % 256).toNat)] = l ++ UInt8.ofNat (nlen x) :: (beB (nlen x) x).take (j + 1) := by
    rw [List.append_assoc, List.cons_append, List.take_add_one, beB_get (by omega)]
    simp only [Option.toList_some]
    rw [show nlen x - 1 - j = k by omega, byte_shift]
  rw [← e]
  exact hown

set_option maxHeartbeats 400000 in
theorem num_any (v : Value) (l : List UInt8) (x : Nat) (hx : x < 18446744073709551616) (w : World) (hv : BytesIn w v l) (hl : l.length ≤ 140737488000000)
    (hlen : ∀ w', Calls Tryz.prog 172 #[.int .u64 x] w' fun e w'' => e = .returned (.int .i64 (bitsOf x)) ∧ w' = w'') :
    Calls Tryz.prog 125 #[v, .int .u64 x] w fun e w' => ∃ v', e = .returned v' ∧ OwnB w' w.heap.size v' (l ++ num x) ∧ Ext w w' := by
  obtain ⟨a, c, rfl, hc, hcm, ha, hcell⟩ := hv
  have hv : BytesIn w (.slice a l.length l.length) l := ⟨a, l.length, rfl, Nat.le_refl _, Nat.le_trans hc hcm, fun h => by have := ha h; omega, hcell⟩
  have hb : bitsOf x ≤ 64 := bitsOf_le64 hx
  clear hcell ha
  go_enter Tryz.func125, Tryz.ntmps125
  go_wp2_with (first
    | (go_at_call 172; refine (hlen _).mono ?_; rintro e w' ⟨rfl, rfl⟩)
    | (go_at_call 176; refine (own_any _ _ _ hc hcm _).mono ?_; rintro e w' ⟨rfl, rfl⟩)
    | (at_builtin; go_must (refine appB w rfl (.tmp 12) (.tmp 15) rfl w (Ext.refl w) _ _ _ _ (cs1 (by omega) (by omega)) (by simp) rfl (Tip.full hv) _ rfl rfl (by simp; omega) ?_); intro v1 w1 hown1 hE1))
  clear hv hc hcm
  go_loopw [0, 5] (fun v n wr => ∃ (j k : Nat), j + k = nlen x ∧ n = .int .i64 ((k : Int) - 1) ∧ OwnB wr w.heap.size v (l ++ UInt8.ofNat (nlen x) :: (beB (nlen x) x).take j) ∧ Ext w wr) (fun _ n _ => (intOf n + 1).toNat)
  case atStart => exact ⟨0, nlen x, by omega, by unfold nlen; go_num, by rw [nlen_int] at hown1; simpa using hown1, hE1⟩
  case round =>
    obtain ⟨j, k, hjk, rfl, hown, hE⟩ := hrel
    cases k with
    | zero =>
      go_wp2
      go_ret
      exact ⟨_, rfl, by rw [show j = nlen x by omega, List.take_of_length_le (by rw [beB_length]; omega)] at hown; exact hown, hE⟩
    | succ k =>
      have hk8 : k ≤ 7 := by unfold nlen at hjk; omega
      have hj8 : j ≤ 8 := by unfold nlen at hjk; omega
      go_wp2_with (at_builtin; go_must (refine appB wr rfl (.tmp 23) (.tmp 29) rfl w hE _ _ _ _ (cs1 (mod256 _).1 (mod256 _).2) (by simp) rfl (Tip.own hown) _ rfl rfl (by simp [beB_length]; omega) ?_); intro v2 w2 hown2 hE2)
      go_roundw
      case rel => exact ⟨j + 1, k, by omega, rfl, num_step hjk hown2, hE2⟩
      case measure => simp [intOf] <;> omega

theorem bitLen_bits (x : Nat) (hx : x < 18446744073709551616) : Lib.bitLen x = bitsOf x := by
  symm
  by_cases h : x = 0
  · subst h; rfl
  · have := Lib.bitLenAux_bounds 64 x (by simpa using hx) h
    exact bitsOf_unique this.2.2 (.inr this.2.1)

theorem len64_any (x : Nat) (hx : x < 18446744073709551616) (w : World) : Calls Tryz.prog 172 #[.int .u64 x] w fun e w' => e = .returned (.int .i64 (bitsOf x)) ∧ w = w' :=
  (Tryz.bits_Len64 x w (by omega) (by omega)).mono fun e w' h => ⟨by rw [h.1, Int.toNat_natCast, bitLen_bits x hx], h.2.symm⟩

/-- order.Num, for callers. -/
theorem Num_ok (v : Value) (l : List UInt8) (X : Int) (h0 : 0 ≤ X) (h1 : X < 18446744073709551616) (w : World) (hv : BytesIn w v l) (hl : l.length ≤ 140737488000000) :
    Calls Tryz.prog 125 #[v, .int .u64 X] w fun e w' => ∃ v', e = .returned v' ∧ OwnB w' w.heap.size v' (l ++ num X.toNat) ∧ Ext w w' := by
  obtain ⟨x, rfl⟩ := Int.eq_ofNat_of_zero_le h0
  have hx : x < 18446744073709551616 := by omega
  rw [Int.toNat_natCast]
  exact num_any v l x hx w hv hl (len64_any x hx)

end Go.Proofs.YtimbikbbbfpeeaaGreatDoor

/- 'append(b, s...)' of a text's bytes, b a row of the call's own or a slice without spare room. -/
namespace Go.Proofs.YtimbikbbbfpeeaaGreatDoor
open Go Go.RowKit

theorem strCells_bcells (s : ByteArray) : Lib.strCells s = bcells s.data.toList := rfl
theorem info_b8s : Tryz.prog.info? 5 = some (Tryz.prog.info? 5).get! ∧ (Tryz.prog.info? 5).get!.zero = some (.int .u8 0) ∧ (Tryz.prog.info? 5).get!.size = 1 ∧ (Tryz.prog.info? 5).get!.bytes = 1 := ⟨by kernel_rfl, by kernel_rfl, by kernel_rfl, by kernel_rfl⟩

/-- Onto a row of one's own, whatever the text. -/
theorem appBo {ops : Array Oper} {rest : List Oper} {o : Oper} {a : Act} {Q : Exit → Act → World → Prop} (w : World) (hg : o.guard = none) (s x : Operand)
    (hop : o.op = Op.call { callee := Callee.builtin Builtin.append, args := #[s, x], argTypes := #[61, 9] })
    (B : Nat) (hB : B ≤ w.heap.size) (v : Value) (l : List UInt8) (news : ByteArray) (hs : a.eval s = v) (hT : OwnB w B v l) (hx : a.eval x = .string news) (hb : l.length + news.size ≤ 140737488355328)
    (hK : ∀ v' w', OwnB w' B v' (l ++ news.data.toList) → w.grownBy w' v.ownBlock → wpList Tryz.prog ops Q rest (a.put o.dst v') w') : wpList Tryz.prog ops Q (o :: rest) a w := by
  refine Lib.wpList_append_own_string w hg s x 61 9 hop B 5 _ und_bytes und_string info_b8s.1 info_b8s.2.1 info_b8s.2.2.1 info_b8s.2.2.2 v l.length (bcells l) hs hT news hx (by unfold maxLen; omega) hb hB ?_
  intro v' w' h1 h2 _
  refine hK v' w' ?_ h2
  unfold OwnB
  rw [strCells_bcells, ← bcells_append] at h1
  have e : (l ++ news.data.toList).length = l.length + news.size := by rw [List.length_append]; rfl
  rw [e]
  exact h1

/-- Onto a slice without spare room, a text that is not empty: a new row. -/
theorem appBs {ops : Array Oper} {rest : List Oper} {o : Oper} {a : Act} {Q : Exit → Act → World → Prop} (w : World) (hg : o.guard = none) (s x : Operand)
    (hop : o.op = Op.call { callee := Callee.builtin Builtin.append, args := #[s, x], argTypes := #[61, 9] })
    (w0 : World) (hE : Ext w0 w) (v : Value) (l : List UInt8) (news : ByteArray) (hs : a.eval s = v) (hT : Tip w w0.heap.size v l) (hx : a.eval x = .string news) (hm : 0 < news.size) (hb : l.length + news.size ≤ 140737488355328)
    (hK : ∀ v' w', OwnB w' w0.heap.size v' (l ++ news.data.toList) → Ext w0 w' → wpList Tryz.prog ops Q rest (a.put o.dst v') w') : wpList Tryz.prog ops Q (o :: rest) a w := by
  have own : ∀ v, a.eval s = v → OwnB w w0.heap.size v l → wpList Tryz.prog ops Q (o :: rest) a w := fun v hs hown =>
    appBo w hg s x hop w0.heap.size hE.le v l news hs hown hx hb fun v' w' h1 h2 => hK v' w' h1 (hE.grown h2 fun k hk => (hown.lt k hk).1)
  rcases hT with hown | ⟨ao, rfl, hin⟩
  · exact own v hs hown
  · obtain ⟨a', c', he, hnc, hcm, hz, hcells⟩ := hin
    cases he
    cases ao with
    | none =>
      have h0 := hz rfl
      have hl : l = [] := List.eq_nil_of_length_eq_zero h0
      subst hl
      exact own _ hs (World.ownsRow_nil _ _ _ _)
    | some ad =>
      have hlen : (bcells l).length = l.length * (Tryz.prog.info? 5).get!.size := by rw [info_b8s.2.2.1]; simp
      have h1 := Lib.run_append_grow_string (P := Tryz.prog) w 61 9 o.type 5 _ _ und_bytes und_string info_b8s.1 info_b8s.2.1 ad l.length l.length (bcells l) hlen (fun j u hj => by
          obtain ⟨b', o', e', hc'⟩ := hcells j u hj
          cases e'
          rw [Addr.add_lit]
          exact hc') news (by omega) (by omega) (by rw [info_b8s.2.2.2]; exact growslice_fits (by omega) (by omega))
      refine wpList_plain hg fun K hK' => ?_
      unfold Oper.wp execOp
      simp only [hop, resolve, invoke, builtin, Sem.run_bind, Sem.run_pure, Result.andThen_ok, List.map_toArray, List.map_cons, List.map_nil, hs, hx, h1]
      refine hK' _ _ (hK _ _ ?_ ?_)
      · have e : (l ++ news.data.toList).length = l.length + news.size := by rw [List.length_append]; rfl
        have hge := grownCap_ge w (l.length + news.size) l.length 5
        have hcm2 : grownCap w (l.length + news.size) l.length 5 ≤ maxLen := grownCap_le_maxLen w (l.length + news.size) l.length 5 (by unfold maxLen; omega)
        unfold OwnB
        rw [e]
        refine ⟨by rw [bcells_length, e, Nat.mul_one], .inr ⟨w.heap.size, _, _, rfl, hE.le, heap_alloc_new w.drew _, hge, hcm2, ?_, ?_⟩⟩
        · have hz1 : (Value.int IntKind.u8 0).cells.size = 1 := rfl
          have e2 : (Lib.strCells news).length = news.size := Lib.strCells_length news
          simp only [Array.size_append, List.size_toArray, size_zeroCells, hz1, bcells_length, e2]
          omega
        · simp only [Array.toList_append, List.append_assoc]
          rw [← List.append_assoc, strCells_bcells, ← bcells_append]
          have e3 : (l.length + news.size) * 1 = (bcells (l ++ news.data.toList)).length := by rw [bcells_length, e, Nat.mul_one]
          rw [e3]
          exact List.take_left
      · exact hE.drew.alloc _
end Go.Proofs.YtimbikbbbfpeeaaGreatDoor

/- Package pack: number, text; whole and Part of a partition without rows. -/
namespace Go.Proofs.YtimbikbbbfpeeaaGreatDoor
open Go Go.RowKit
attribute [local go_sem] yields yUpon

theorem nlen_le8 {x : Nat} (hx : x < 18446744073709551616) : nlen x ≤ 8 := by have := bitsOf_le64 hx; unfold nlen; omega
theorem num_length {x : Nat} (hx : x < 18446744073709551616) : (num x).length ≤ 9 := by have := nlen_le8 hx; unfold num; simp [beB_length]; omega

set_option maxHeartbeats 400000 in
theorem pk_number (v : Value) (l : List UInt8) (X : Int) (h0 : 0 ≤ X) (h1 : X ≤ 9223372036854775807) (w : World) (hv : BytesIn w v l) (hl : l.length ≤ 140737488000000) :
    Calls Tryz.prog 74 #[v, .int .i64 X] w fun e w' => ∃ v', e = .returned v' ∧ OwnB w' w.heap.size v' (l ++ num X.toNat) ∧ Ext w w' := by
  have hw : IntKind.u64.wrap X = X := by rw [IntKind.wrap_u64]; omega
  go_enter Tryz.func74, Tryz.ntmps74
  go_wp2_with (go_at_call 125; go_must (refine (Num_ok v l X h0 (by omega) w hv hl).mono ?_); rintro e w1 ⟨v1, rfl, ho1, hE1⟩)
  go_ret
  exact ⟨_, rfl, ho1, hE1⟩

set_option maxHeartbeats 400000 in
theorem pk_text (v : Value) (l : List UInt8) (s : ByteArray) (hs : s.size ≤ 1000000000) (w : World) (hv : BytesIn w v l) (hl : l.length ≤ 1000000000) :
    Calls Tryz.prog 75 #[v, .string s] w fun e w' => ∃ v', e = .returned v' ∧ OwnB w' w.heap.size v' (l ++ num s.size ++ s.data.toList) ∧ Ext w w' := by
  have hn := num_length (x := s.size) (by omega)
  go_enter Tryz.func75, Tryz.ntmps75
  go_wp2_with (first
    | (go_at_call 74; go_must (refine (pk_number v l s.size (by omega) (by omega) w hv (by omega)).mono ?_); rintro e w1 ⟨v1, rfl, ho1, hE1⟩; rw [Int.toNat_natCast] at ho1)
    | ((guard_target =~ wpList _ _ _ (Oper.mk (some 10) _ _ _ _ _ :: _) _ _); go_must (refine appBo w1 rfl (.tmp 8) (.tmp 9) rfl w.heap.size hE1.le v1 _ s (by rfl) ho1 (by rfl) (by simp; omega) ?_); intro v2 w2 ho2 hg2))
  go_ret
  exact ⟨_, rfl, ho2, hE1.grown hg2 (fun k hk => (ho1.lt k hk).1)⟩
end Go.Proofs.YtimbikbbbfpeeaaGreatDoor
