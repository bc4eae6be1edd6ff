/- TreeParts: the law's walk. -/
import Derived.Test.YtcmgeccgahakbaaDoorP14
import Derived.Test.YtcmgeccgahakbaaDoorP5
import Derived.Test.YtcmgeccgahakbaaDoorP19
import Derived.Test.YtcmgeccgahakbaaDoorP8
import Derived.Test.YtcmgeccgahakbaaDoorP15
import Derived.Test.YtcmgeccgahakbaaDoorP20
import Derived.Deep.CutBlock
import Derived.Test.YtcmgeccgahakbaaDoorP12
set_option linter.unusedSimpArgs false
set_option linter.unusedVariables false
namespace Go.Proofs.YtcmgeccgahakbaaDoor
open Go Go.RowKit
attribute [local go_sem] yields yUpon

/-- The key of a law's partition. -/
def key4 (k P : Nat) : List UInt8 := [UInt8.ofNat (97 + k), UInt8.ofNat (P % 256), UInt8.ofNat (P / 256 % 256), UInt8.ofNat (P / 65536)]
theorem key4_cells {k P : Nat} (hk : k < 30) (hP : P < 1048576) : (#[Value.int .u8 (97 + (k : Int)), Value.int .u8 ((P : Int) % 256), Value.int .u8 ((P : Int) / 256 % 256), Value.int .u8 ((P : Int) / 65536)] : Array Value).toList = bcells (key4 k P) := by
  simp only [key4, bcells, List.map_cons, List.map_nil, UInt8.toNat_ofNat']
  rw [show ((97 + k) % 2 ^ 8 : Nat) = 97 + k by omega, show (P % 256 % 2 ^ 8 : Nat) = P % 256 by omega, show (P / 256 % 256 % 2 ^ 8 : Nat) = P / 256 % 256 by omega, show (P / 65536 % 2 ^ 8 : Nat) = P / 65536 by omega]
  rfl
theorem key4_bytes {k P : Nat} (hk : k < 30) (hP : P < 1048576) (e : TypeId) (w : World) : BytesIn (w.alloc (.cells #[Value.int .u8 (97 + (k : Int)), Value.int .u8 ((P : Int) % 256), Value.int .u8 ((P : Int) / 256 % 256), Value.int .u8 ((P : Int) / 65536)] e)) (.slice (some ⟨w.heap.size, 0, none⟩) 4 4) (key4 k P) := by
  have h := SliceIn.made w #[Value.int .u8 (97 + (k : Int)), Value.int .u8 ((P : Int) % 256), Value.int .u8 ((P : Int) / 256 % 256), Value.int .u8 ((P : Int) / 65536)] e 4 (by decide)
  rw [key4_cells hk hP] at h
  exact h

/-- Two rows of one's own lie in blocks of their own. -/
def Apart (u v : Value) : Prop := ∀ k, u.ownBlock = some k → v.ownBlock = some k → False
theorem Apart.symm {u v : Value} (h : Apart u v) : Apart v u := fun k h1 h2 => h k h2 h1
theorem Apart.ne {u v : Value} (h : Apart u v) : v.ownBlock = none ∨ v.ownBlock ≠ u.ownBlock := by
  cases hv : v.ownBlock with
  | none => exact .inl rfl
  | some k => exact .inr fun e => h k e.symm hv
/-- Behind an append to the one. -/
theorem Apart.app {u v u' : Value} (h : Apart u v) {N : Nat} (hw : ∀ k, u'.ownBlock = some k → u.ownBlock = some k ∨ N ≤ k) (hv : ∀ k, v.ownBlock = some k → k < N) : Apart u' v := fun k h1 h2 => by
  rcases hw k h1 with h3 | h3
  · exact h k h3 h2
  · have := hv k h2
    omega

set_option maxRecDepth 100000 in
set_option maxHeartbeats 16000000 in
theorem law_treeParts (v0 : Value) (l : List Int) (nodes copies a b : Int) (w : World) (hin : IntsIn w v0 .i64 l) (hT : TabV w) :
    Calls Tryd.prog 7 #[v0, .int .i64 nodes, .int .i64 copies, .int .i64 a, .int .i64 b] w fun e w' => e = .returned (.bool true) ∧ Ext w w' := by
  have HI := Lib.hid hin
  have HT := Lib.hid hT
  obtain ⟨a0, c0, rfl, hc0, hcm0, hcell0⟩ := hin.getX
  have HC := Lib.hid hcell0
  clear hcell0 hin hT
  obtain ⟨n, hn⟩ : ∃ n, n = l.length := ⟨_, rfl⟩
  have HN := Lib.hid hn
  rw [← hn] at hc0 HI ⊢
  clear hn
  obtain ⟨N, hN⟩ : ∃ N : Nat, (N : Int) = 1 + nodes % 5 := ⟨(1 + nodes % 5).toNat, by omega⟩
  have hN1 : 1 ≤ N ∧ N ≤ 5 := by omega
  have HNN := Lib.hid hN.symm
  obtain ⟨C, hC⟩ : ∃ C : Nat, (C : Int) = 1 + copies % (N : Int) := ⟨(1 + copies % (N : Int)).toNat, by have := Int.emod_nonneg copies (show (N : Int) ≠ 0 by omega); omega⟩
  have hC1 : 1 ≤ C ∧ C ≤ N := by have := Int.emod_nonneg copies (show (N : Int) ≠ 0 by omega); have := Int.emod_lt_of_pos copies (show (0 : Int) < (N : Int) by omega); omega
  have HCC := Lib.hid hC.symm
  have hconf : confB N C 1 = true := by simp [confB]; omega
  have HCF := Lib.hid hconf
  obtain ⟨x, hx⟩ : ∃ x, x = a % (N : Int) := ⟨_, rfl⟩
  have HX := Lib.hid hx.symm
  obtain ⟨y, hy⟩ : ∃ y, y = b % (N : Int) := ⟨_, rfl⟩
  have HY := Lib.hid hy.symm
  clear hN hC hconf hx hy
  go_enter Tryd.func7, Tryd.ntmps7
  go_upto_block 0 with (first
    | (go_at_call 32; have q := m3; go_must (refine (place_any b N (by omega) (by omega) _).mono ?_); rintro e w4 ⟨rfl, rfl⟩; rw [HY.out])
    | (go_at_call 32; have q := m2; go_must (refine (place_any a N (by omega) (by omega) _).mono ?_); rintro e w4 ⟨rfl, rfl⟩; rw [HX.out]; have m3 := trivial)
    | (go_at_call 32; have q := m1; rw [HNN.out]; go_must (refine (place_any copies N (by omega) (by omega) _).mono ?_); rintro e w4 ⟨rfl, rfl⟩)
    | (go_at_call 32; go_must (refine (place_any nodes 5 (by omega) (by omega) _).mono ?_); rintro e w4 ⟨rfl, rfl⟩; have m1 := trivial)
    | ((guard_target =~ wpList _ _ _ (Oper.mk none (Op.store _ (Operand.tmp 12) (Operand.tmp 33)) _ _ _ _ :: _) _ _); rw [HCC.out, show wrap64 (C : Int) = (C : Int) from by (unfold wrap64; omega)]; go_must (refine storeBox rfl 67 (.tmp 12) (.tmp 33) rfl (w.heap.size) _ _ _ (by rfl) (by rfl) (BoxAt.made w #[.int .i64 0, .int .i64 0, .int .i64 0] 67) (by kernel_rfl) (by rfl) (by simp [Value.oneCell']) ?_); intro w2 d2 g2; have m2 := trivial))
  have hE2 : Ext w w2 := ((Ext.refl w).alloc _).grown g2 (fun q hq => by cases hq; exact Nat.le_refl _)
  clear g2 m1 m2 m3
  go_cut [15, 16] from 17 (fun vl vw wc => ∃ (ul uw : Value) (L W : List Pa) (k : Nat), vl = ul ∧ vw = uw ∧ Hid (L.length = k) ∧ k ≤ 30 ∧ W.length ≤ k ∧ wc.ownsRow w2.heap.size 24 3 ul k (paCells L) ∧ wc.ownsRow w2.heap.size 24 3 uw W.length (paCells W) ∧ Hid ((∀ p ∈ L, p.rv = .slice none 0 0 ∧ p.ps = [] ∧ p.key.size = 4 ∧ 0 ≤ p.gone ∧ p.gone < 30) ∧ W = L.filter (bothP N C x y)) ∧ Ext w2 wc)
  case first =>
    go_wp2_with fail
    go_loopw [15, 16, 17] (fun vl vw i wr => ∃ (k : Nat) (ul uw : Value) (L W : List Pa), k ≤ n ∧ k ≤ 30 ∧ i = .int .i64 k ∧ vl = ul ∧ vw = uw ∧ Hid (L.length = k) ∧ W.length ≤ k ∧ wr.ownsRow w2.heap.size 24 3 ul k (paCells L) ∧ wr.ownsRow w2.heap.size 24 3 uw W.length (paCells W) ∧ Apart ul uw ∧ Hid ((∀ p ∈ L, p.rv = .slice none 0 0 ∧ p.ps = [] ∧ p.key.size = 4 ∧ 0 ≤ p.gone ∧ p.gone < 30) ∧ W = L.filter (bothP N C x y)) ∧ Ext w2 wr) (fun _ _ i _ => n - (intOf i).toNat)
    case atStart => exact ⟨0, _, _, [], [], Nat.zero_le _, Nat.zero_le _, rfl, rfl, rfl, Lib.hid rfl, Nat.le_refl _, World.ownsRow_nil _ _ _ _, World.ownsRow_nil _ _ _ _, (fun k h => by cases h), Lib.hid ⟨nofun, rfl⟩, Ext.refl _⟩
    case round =>
      obtain ⟨k, ul, uw, L, W, hk, hk30, rfl, rfl, rfl, hLk, hWk, hol, how, hne, HP, hE⟩ := hrel
      obtain ⟨al, cl, rfl⟩ := own_shapeX hol
      obtain ⟨aw, cw, rfl⟩ := own_shapeX how
      by_cases hkn : k < n
      · by_cases hk3 : k < 30
        · have hkl : k < l.length := by rw [← HN.out]; exact hkn
          obtain ⟨b0, o0, rfl, hco⟩ := HC.out k hkl
          replace hco := (hE2.trans hE).cell hco
          obtain ⟨P, hPd⟩ : ∃ P : Nat, (P : Int) = l[k] % 1048576 := ⟨(l[k] % 1048576).toNat, by omega⟩
          have HPD := Lib.hid hPd.symm
          have hP1 : P < 1048576 := by omega
          obtain ⟨z, hz⟩ : ∃ z, z = l[k] := ⟨_, rfl⟩
          rw [← hz] at hco HPD
          clear hPd hz
          go_wp2_with (go_at_call 32; go_must (refine (place_any z 1048576 (by omega) (by omega) _).mono ?_); rintro e w4 ⟨rfl, rfl⟩; rw [HPD.out])
          rw [run_convert_bytesIn _ 33 9 5 und_bytes und_u8 und_string (key4_bytes hk3 hP1 _ _)]
          simp only [Result.andThen]
          rw [Oper.upon_value]
          have hEa := (Ext.refl wr).alloc (.cells #[Value.int .u8 (97 + (k : Int)), Value.int .u8 ((P : Int) % 256), Value.int .u8 ((P : Int) / 256 % 256), Value.int .u8 ((P : Int) / 65536)] 5)
          generalize World.alloc wr _ = w3 at hEa ⊢
          obtain ⟨K, hKd⟩ : ∃ K : ByteArray, K = str (key4 k P) := ⟨_, rfl⟩
          have hK4 : K.size = 4 := by rw [hKd]; rfl
          rw [← hKd]
          have HKD := Lib.hid hKd
          have hol3 := ownsRow_ext hol hEa
          have how3 := ownsRow_ext how hEa
          have hE3 := hE.trans hEa
          have d3 := d2.ext hE3
          have HL1 : Hid ((L ++ [(⟨K, (k : Int), .slice none 0 0, []⟩ : Pa)]).length = k + 1) := Lib.hid (by rw [List.length_append, hLk.out]; rfl)
          have HP1 : Hid (∀ p ∈ L ++ [(⟨K, (k : Int), .slice none 0 0, []⟩ : Pa)], p.rv = .slice none 0 0 ∧ p.ps = [] ∧ p.key.size = 4 ∧ 0 ≤ p.gone ∧ p.gone < 30) := Lib.hid (fun p hp => by
            rcases List.mem_append.1 hp with hp | hp
            · exact HP.out.1 p hp
            · rw [List.mem_singleton.1 hp]
              exact ⟨rfl, rfl, hK4, by simp only; omega, by simp only; omega⟩)
          have HK4 : Hid (K.size ≤ maxLen) := Lib.hid (by rw [hK4]; unfold maxLen; decide)
          obtain ⟨A, hA⟩ : ∃ A, A = ownN N C (place1 K) x := ⟨_, rfl⟩
          obtain ⟨B, hB⟩ : ∃ B, B = ownN N C (place1 K) y := ⟨_, rfl⟩
          have HA := Lib.hid hA
          have HB := Lib.hid hB
          clear hKd hol how hE hA hB
          go_wp2_with (first
            | (((guard_target =~ wpList _ _ _ (Oper.mk none (Op.store _ (Operand.tmp 19) (Operand.tmp 69)) _ _ _ _ :: _) _ _); go_must (refine storeBox rfl 24 (.tmp 19) (.tmp 69) rfl (w3.heap.size) _ _ _ (by rfl) (by rfl) ((BoxAt.made w3 #[.string ⟨#[]⟩, .int .i64 0, .slice none 0 0] 24)) (by kernel_rfl) (by rfl) (by simp [Value.oneCell']) ?_); intro w4 d4 g4); have hE4 : Ext w3 w4 := (((Ext.refl w3).alloc _).grown g4 (fun q hq => by cases hq; exact Nat.le_refl _)); have q0 : w4.cell? ⟨w3.heap.size, 0, none⟩ = some (.string K) := d4.cell 0; have q1 : w4.cell? ⟨w3.heap.size, 1, none⟩ = some (.int .i64 (k : Int)) := d4.cell 1; have q2 : w4.cell? ⟨w3.heap.size, 2, none⟩ = some (.slice none 0 0) := d4.cell 2; have hol4 := ownsRow_ext hol3 hE4; have how4 := ownsRow_ext how3 hE4)
            | (at_builtin; have q := hE7; go_must (refine appRw info_Part und_Parts rfl (by decide) w7 rfl (.tmp 86) (.tmp 88) rfl w2.heap.size hX7.le (.slice aw W.length cw) W.length (paCells W) how7 rfl 1 (pa3 K (k : Int) (.slice none 0 0)) rfl rfl (by simp [pa3, Value.oneCell']) (by unfold maxLen; omega) (by omega) ?_); intro v8 w8 how8 hg8 hw8)
            | (at_builtin; go_must (refine appRw info_Part und_Parts rfl (by decide) w4 rfl (.tmp 70) (.tmp 72) rfl w2.heap.size (hE3.trans hE4).le (.slice al k cl) k (paCells L) hol4 rfl 1 (pa3 K (k : Int) (.slice none 0 0)) rfl rfl (by simp [pa3, Value.oneCell']) (by unfold maxLen; omega) (by omega) ?_); intro v5 w5 hol5 hg5 hw5; obtain ⟨a5, c5, rfl⟩ := own_shapeX hol5; have how5 := World.ownsRow.kept (how4.alloc _) hg5 (Apart.ne hne); have hX5 : Ext w2 w5 := ((hE3.trans hE4).alloc _).grown hg5 (fun q hq => (hol4.lt q hq).1); have z5 := d2.ext hX5; have x0 : w5.cell? ⟨w.heap.size, 0, none⟩ = some (.int .i64 (N : Int)) := z5.cell 0; have x1 : w5.cell? ⟨w.heap.size, 1, none⟩ = some (.int .i64 (C : Int)) := z5.cell 1; have x2 : w5.cell? ⟨w.heap.size, 2, none⟩ = some (.int .i64 1) := z5.cell 2; have d5 := (d4.ext ((Ext.refl w4).alloc _)).grown hg5 (fun e => by have := (hol3.lt _ e.symm).2; omega); have q0 : w5.cell? ⟨w3.heap.size, 0, none⟩ = some (.string K) := d5.cell 0)
            | (go_at_call 48; have q := hE6; go_must (refine (owns20_yes N C 1 HCF.out K HK4.out y _).mono ?_); rintro e w7 ⟨rfl, hE7⟩; rw [← HB.out]; have hX7 := hX6.trans hE7; have how7 := ownsRow_ext how6 hE7; have d7 := d6.ext hE7; have q0 : w7.cell? ⟨w3.heap.size, 0, none⟩ = some (.string K) := d7.cell 0; have q1 : w7.cell? ⟨w3.heap.size, 1, none⟩ = some (.int .i64 (k : Int)) := d7.cell 1; have q2 : w7.cell? ⟨w3.heap.size, 2, none⟩ = some (.slice none 0 0) := d7.cell 2; cases B)
            | (go_at_call 48; go_must (refine (owns20_yes N C 1 HCF.out K HK4.out x _).mono ?_); rintro e w6 ⟨rfl, hE6⟩; rw [← HA.out]; have hX6 := hX5.trans hE6; have how6 := ownsRow_ext how5 hE6; have z6 := d2.ext hX6; have x0 : w6.cell? ⟨w.heap.size, 0, none⟩ = some (.int .i64 (N : Int)) := z6.cell 0; have x1 : w6.cell? ⟨w.heap.size, 1, none⟩ = some (.int .i64 (C : Int)) := z6.cell 1; have x2 : w6.cell? ⟨w.heap.size, 2, none⟩ = some (.int .i64 1) := z6.cell 2; have d6 := d5.ext hE6; have q0 : w6.cell? ⟨w3.heap.size, 0, none⟩ = some (.string K) := d6.cell 0; cases A))
          · go_roundw
            case rel => exact ⟨k + 1, _, _, L ++ [⟨K, k, .slice none 0 0, []⟩], W, hkn, by omega, by go_num, rfl, rfl, HL1, by omega, by rw [paCells_append]; exact ownsRow_ext hol5 hE6, how6, Apart.app hne hw5 (fun q hq => Nat.lt_of_lt_of_le (how4.lt q hq).2 (Nat.le_refl _)), Lib.hid ⟨HP1.out, by rw [List.filter_append, ← HP.out.2]; simp [bothP, ← HA.out]⟩, hX6⟩
            case measure => simp [intOf]; omega
          · go_roundw
            case rel => exact ⟨k + 1, _, _, L ++ [⟨K, k, .slice none 0 0, []⟩], W, hkn, by omega, by go_num, rfl, rfl, HL1, by omega, by rw [paCells_append]; exact ownsRow_ext hol5 (hE6.trans hE7), how7, Apart.app hne hw5 (fun q hq => Nat.lt_of_lt_of_le (how4.lt q hq).2 (Nat.le_refl _)), Lib.hid ⟨HP1.out, by rw [List.filter_append, ← HP.out.2]; simp [bothP, ← HA.out, ← HB.out]⟩, hX7⟩
            case measure => simp [intOf]; omega
          · obtain ⟨a8, c8, rfl⟩ := own_shapeX how8
            have hol7 := ownsRow_ext hol5 (hE6.trans hE7)
            have hap : Apart (.slice a5 (k + 1) c5) (.slice aw W.length cw) := Apart.app hne hw5 (fun q hq => Nat.lt_of_lt_of_le (how4.lt q hq).2 (Nat.le_refl _))
            have hol8 := World.ownsRow.kept (hol7.alloc (.cells (pa3 K (k : Int) (.slice none 0 0)) 24)) hg8 (Apart.ne (Apart.symm hap))
            have hap8 : Apart (.slice a5 (k + 1) c5) (.slice a8 (W.length + 1) c8) := Apart.symm (Apart.app (Apart.symm hap) hw8 (fun q hq => (hol7.lt q hq).2))
            go_roundw
            case rel => exact ⟨k + 1, _, _, L ++ [⟨K, k, .slice none 0 0, []⟩], W ++ [⟨K, k, .slice none 0 0, []⟩], hkn, by omega, by go_num, rfl, rfl, HL1, by simp; omega, by rw [paCells_append]; exact hol8, by rw [paCells_append, List.length_append]; exact how8, hap8, Lib.hid ⟨HP1.out, by rw [List.filter_append, ← HP.out.2]; simp [bothP, ← HA.out, ← HB.out]⟩, ((hX7.alloc _).grown hg8 (fun q hq => (how7.lt q hq).1))⟩
            case measure => simp [intOf]; omega
        · go_wp2_with fail
          go_meet
          case rel => exact ⟨_, _, L, W, k, rfl, rfl, hLk, hk30, hWk, hol, how, HP, hE⟩
      · go_wp2_with fail
        go_meet
        case rel => exact ⟨_, _, L, W, k, rfl, rfl, hLk, hk30, hWk, hol, how, HP, hE⟩
  case rest =>
    obtain ⟨ul, uw, L, W, m, rfl, rfl, hLm, hm30, hWm, hol, how, HP, hE⟩ := hcut
    obtain ⟨al, cl, rfl⟩ := own_shapeX hol
    obtain ⟨aw, cw, rfl⟩ := own_shapeX how
    have HPI : Hid (PartsIn wc (.slice al m cl) L) := Lib.hid (by
      have h : TIn wc 24 (.slice al m cl) L.length (paCells L) := by rw [hLm.out]; exact TIn.own hol
      exact PartsT.parts ⟨h, fun p hp => by obtain ⟨e1, e2, _⟩ := HP.out.1 p hp; rw [e1, e2]; exact RowsT.nil _⟩)
    have HWI : Hid (PartsIn wc (.slice aw W.length cw) W) := Lib.hid (PartsT.parts ⟨TIn.own how, fun p hp => by
      have hp' : p ∈ L := by rw [HP.out.2] at hp; exact (List.mem_filter.1 hp).1
      obtain ⟨e1, e2, _⟩ := HP.out.1 p hp'; rw [e1, e2]; exact RowsT.nil _⟩)
    have HLl : Hid (L.length ≤ 1000000) := Lib.hid (by rw [hLm.out]; omega)
    have HKk : Hid (∀ p ∈ L, p.key.size ≤ maxLen) := Lib.hid (fun p hp => by have := (HP.out.1 p hp).2.2.1; rw [this]; unfold maxLen; decide)
    have HRr : Hid (∀ p ∈ L, p.ps.length ≤ 1000000 ∧ ∀ q ∈ p.ps, q.1.cols.length ≤ 1000000) := Lib.hid (fun p hp => by rw [(HP.out.1 p hp).2.1]; exact ⟨by simp, fun q hq => by cases hq⟩)
    have HRn : Hid (∀ p ∈ L, ∀ q ∈ p.ps, ∀ d ∈ q.1.cols, d.name.size ≤ 1000000) := Lib.hid (fun p hp q hq => by rw [(HP.out.1 p hp).2.1] at hq; cases hq)
    replace d2 := d2.ext hE
    replace hE2 := hE2.trans hE
    clear hE hol how
    go_wp2_with fail
    have hown0 : (wc.alloc (.cells #[] 3)).ownsRow wc.heap.size 3 1 (.slice (some ⟨wc.heap.size, 0, none⟩) 0 0) 0 (kcells .i64 (upL 0)) := ⟨by simp [upL], .inr ⟨wc.heap.size, 0, #[], rfl, Nat.le_refl _, heap_alloc_new wc _, Nat.le_refl _, Nat.zero_le _, rfl, rfl⟩⟩
    have hE00 := (Ext.refl wc).alloc (.cells #[] 3)
    go_loopw [20, 21, 22] (fun vl vn i wr => ∃ (j : Nat) (va : Value) (q : Nat), j ≤ 16 ∧ i = .int .i64 j ∧ vl = va ∧ vn = .int .i64 q ∧ wr.ownsRow wc.heap.size 3 1 va j (kcells .i64 (upL j)) ∧ Hid (q = (ofL N C x y (upL j) L).length) ∧ q ≤ 30 * j ∧ Ext wc wr) (fun _ _ i _ => 16 - (intOf i).toNat)
    case atStart => exact ⟨0, _, 0, by omega, rfl, rfl, rfl, hown0, Lib.hid (by rw [show upL 0 = [] from rfl, of_none]; rfl), by omega, hE00⟩
    case round =>
      clear hown0 hE00
      obtain ⟨j, va, q, hj, rfl, rfl, rfl, hown, HQ, hq, hE⟩ := hrel
      obtain ⟨aa, ca, rfl⟩ := own_shapeX hown
      by_cases hlt : j < 16
      · go_wp2_with (first
          | (at_builtin; go_must (refine appR info_intX und_intsX rfl (by decide) wr rfl (.tmp 95) (.tmp 97) rfl wc.heap.size hE.le (.slice aa j ca) j (kcells .i64 (upL j)) hown (by rfl) 1 _ (by rfl) (by rfl) (by simp [Value.oneCell']) (by unfold maxLen; omega) (by omega) ?_); intro v1 w1 ho1 hg1; obtain ⟨a1, c1, rfl⟩ := own_shapeX ho1; have hE1 : Ext wc w1 := (hE.alloc _).grown hg1 (fun k hk => (hown.lt k hk).1); have z := d2.ext hE1; have x0 : w1.cell? ⟨w.heap.size, 0, none⟩ = some (.int .i64 (N : Int)) := z.cell 0; have x1 : w1.cell? ⟨w.heap.size, 1, none⟩ = some (.int .i64 (C : Int)) := z.cell 1; have x2 : w1.cell? ⟨w.heap.size, 2, none⟩ = some (.int .i64 1) := z.cell 2)
          | (go_at_call 36; go_must (refine (of_yes N C 1 HCF.out _ L x y _ [(j : Int)] _ (HPI.out.ext (hE1.alloc _)) (ints_one w1 (j : Int) 3) HLl.out HKk.out HRr.out).mono ?_); rintro e w3 ⟨v3, M, ⟨⟨rfl, hE3⟩, hM⟩, hMd⟩; have HM := Lib.hid hM; have HMd := Lib.hid hMd; obtain ⟨am, cm, rfl, hcm1, hcm2, hget⟩ := hM.get; have HG := Lib.hid hget; have hr30 : M.length ≤ 30 := (by have h1 := congrArg List.length HMd.out; rw [List.length_map] at h1; rw [h1]; unfold ofL; rw [List.length_map]; have h2 := List.length_filter_le (ofB N C x y [(j : Int)]) L; rw [hLm.out] at h2; omega); obtain ⟨r, hr⟩ : ∃ r, r = M.length := ⟨_, rfl⟩; rw [← hr] at hcm1 hr30 ⊢; have HR := Lib.hid hr; clear hM hMd hget hr; have hX3 : Ext wc w3 := (hE1.alloc _).trans hE3))
        obtain ⟨wo, hwo⟩ : ∃ w', w' = wr := ⟨_, rfl⟩
        go_loopw [24] (fun i wx => ∃ k : Nat, k ≤ r ∧ i = .int .i64 k ∧ Ext w3 wx) (fun i _ => r - (intOf i).toNat)
        case atStart => exact ⟨0, Nat.zero_le _, rfl, Ext.refl _⟩
        case round =>
          clear hwo
          obtain ⟨k, hk, rfl, hEx⟩ := hrel
          by_cases hkr : k < r
          · have hkM : k < M.length := by rw [← HR.out]; exact hkr
            obtain ⟨bm, rfl, hpa⟩ := HG.out k hkM
            have hmem : (M[k]).data ∈ ofL N C x y [(j : Int)] L := by rw [← HMd.out]; exact List.mem_map_of_mem (List.getElem_mem hkM)
            obtain ⟨hbk, p0, hp0, hpd⟩ := of_mem hmem
            have hrow := HM.out.rows _ (List.getElem_mem hkM)
            obtain ⟨p, hp⟩ : ∃ p, p = M[k] := ⟨_, rfl⟩
            rw [← hp] at hpa hbk hpd hrow
            obtain ⟨f1, f2, f3, f4, f5⟩ := HP.out.1 p0 hp0
            obtain ⟨pk, pg, pv, ps⟩ := p
            obtain ⟨pk', pg', pv', ps'⟩ := p0
            simp only at f1 f2 f3 f4 f5
            subst f2
            unfold Pa.data at hpd
            simp only [List.map_nil, Prod.mk.injEq] at hpd
            obtain ⟨rfl, rfl, h0⟩ := hpd
            obtain rfl : ps = [] := by cases ps with
              | nil => rfl
              | cons _ _ => cases h0
            have hX4 := hEx
            replace hpa := hpa.ext hEx
            have p0 : wr.cell? ⟨bm, k * 3, none⟩ = some (.string pk') := hpa.c0
            have hbk' : bucket1 pk' = j := hbk
            have HBK := Lib.hid hbk'
            have HPA := Lib.hid hpa
            have hpk : pk'.size ≤ maxLen := by rw [f3]; unfold maxLen; decide
            have HPT : Hid (ptB pk' pg' [] = true) := Lib.hid (by simp [ptB, rsB]; omega)
            have HRO : Hid (RowsT wr pv []) := Lib.hid (hrow.ext hEx)
            obtain ⟨av, cv, rfl⟩ := HRO.out.shape
            clear h0 hp hmem hrow hbk hbk' hpa f3
            go_wp2_with (first
              | (go_at_call 49; go_must (refine (rbucket_any pk' hpk _).mono ?_); rintro e w4 ⟨rfl, hE4⟩; rw [show (bucket1 pk' : Int) = (j : Int) from by rw [← HBK.out]]; have h4 := HPA.out.ext hE4; have p0 : w4.cell? ⟨bm, k * 3, none⟩ = some (.string pk') := h4.c0; have p1 : w4.cell? ⟨bm, k * 3 + 1, none⟩ = some (.int .i64 pg') := h4.c1; have p2 : w4.cell? ⟨bm, k * 3 + 2, none⟩ = some (.slice av 0 cv) := h4.c2)
              | (go_at_call 50; go_must (refine (check8_any pk' pg' _ [] _ (HRO.out.ext hE4).rows nofun).mono ?_); rintro e w5 ⟨rfl, hE5⟩; rw [show ptB pk' pg' (([] : List (Ro × Value)).map (·.1)) = true from HPT.out]))
            go_roundw
            case rel => exact ⟨k + 1, by omega, by go_num, (hEx.trans hE4).trans hE5⟩
            case measure => simp [intOf]; omega
          · obtain rfl : k = r := by omega
            go_wp2_with fail
            go_roundw
            case rel => exact ⟨j + 1, _, q + k, by omega, by go_num, rfl, by go_num, by rw [upL_succ]; simp only [kcells, List.map_append]; exact ownsRow_ext (ownsRow_ext ho1 ((Ext.refl w1).alloc _)) (hE3.trans hEx), Lib.hid (by rw [of_split, ← HQ.out, ← HMd.out, List.length_map, ← HR.out]), by omega, hX3.trans hEx⟩
            case measure => simp [intOf]; omega
      · obtain rfl : j = 16 := by omega
        have hup : ofL N C x y (upL 16) L = W.map Pa.data := by rw [of_all, HP.out.2]
        have HUP := Lib.hid hup
        obtain rfl : q = W.length := by rw [HQ.out, hup, List.length_map]
        have HAL : Hid (IntsIn wr (.slice aa 16 ca) .i64 (upL 16)) := Lib.hid (SliceIn.of_owns hown)
        have HSI : Hid (∀ (u : World) (b : Nat), BoxAt u b (sumsA N C x y L) 150 → IntsIn u (.slice (some ⟨b, 0, none⟩) 16 16) .i64 (sumsL N C x y L)) := Lib.hid fun u b h => by
          refine ⟨some ⟨b, 0, none⟩, 16, by rw [show (sumsL N C x y L).length = 16 by simp [sumsL]], by simp [sumsL], by unfold maxLen; omega, nofun, fun j u hj => ⟨b, 0, rfl, ?_⟩⟩
          rw [Nat.zero_add, h.cell j]
          unfold sumsA
          simpa using hj
        have HSB : Hid (∀ v ∈ sumsL N C x y L, -9223372036854775808 ≤ v ∧ v ≤ 9223372036854775807) := Lib.hid fun v hv => by
          unfold sumsL at hv
          obtain ⟨b, _, rfl⟩ := List.mem_map.1 hv
          have := sumAt_lt N C x y L b
          omega
        have HSL : Hid ((oth (stxs (sumsL N C x y L)) [] (sumsL N C x y L).length).length = 16) := Lib.hid (by
          have h := oth_nil (stxs (sumsL N C x y L))
          have e : (stxs (sumsL N C x y L)).length = (sumsL N C x y L).length := by simp [stxs]
          rw [e] at h
          rw [h]
          simp [sumsL])
        have z := d2.ext hE
        have x0 : wr.cell? ⟨w.heap.size, 0, none⟩ = some (.int .i64 (N : Int)) := z.cell 0
        have x1 : wr.cell? ⟨w.heap.size, 1, none⟩ = some (.int .i64 (C : Int)) := z.cell 1
        have x2 : wr.cell? ⟨w.heap.size, 2, none⟩ = some (.int .i64 1) := z.cell 2
        have hX0 := hE2.trans hE
        clear hown hup hq
        go_wp2_with (first
          | (go_at_call 36; have q := hX2; go_must (refine (of_yes N C 1 HCF.out _ L x y _ [] _ (HPI.out.ext hX2) (SliceIn.nil _) HLl.out HKk.out HRr.out).mono ?_); rintro e w3 ⟨v3, M3, ⟨⟨rfl, hE3⟩, hM3⟩, hMd3⟩; rw [of_none] at hMd3; obtain rfl : M3 = [] := List.map_eq_nil_iff.1 hMd3; obtain ⟨a3, c3, rfl, _⟩ := hM3.get; clear hM3 hMd3; have hX3 := hX2.trans hE3; have z := d2.ext hX3; have x0 : w3.cell? ⟨w.heap.size, 0, none⟩ = some (.int .i64 (N : Int)) := z.cell 0; have x1 : w3.cell? ⟨w.heap.size, 1, none⟩ = some (.int .i64 (C : Int)) := z.cell 1; have x2 : w3.cell? ⟨w.heap.size, 2, none⟩ = some (.int .i64 1) := z.cell 2)
          | (go_at_call 36; go_must (refine (of_yes N C 1 HCF.out _ L x y _ (upL 16) _ (HPI.out.ext hE) HAL.out HLl.out HKk.out HRr.out).mono ?_); rintro e w1 ⟨v1, M1, ⟨⟨rfl, hE1⟩, hM1⟩, hMd1⟩; rw [HUP.out] at hMd1; have HM1 := Lib.hid hM1; have HMd1 := Lib.hid hMd1; clear hM1 hMd1; have hX1 := hE.trans hE1)
          | (go_at_call 47; go_must (refine (sameParts_any _ _ M1 W HMd1.out _ HM1.out.parts (HWI.out.ext hX1)).mono ?_); rintro e w2' ⟨rfl, hE2'⟩; have hX2 := hX1.trans hE2'; have z := d2.ext hX2; have x0 : w2'.cell? ⟨w.heap.size, 0, none⟩ = some (.int .i64 (N : Int)) := z.cell 0; have x1 : w2'.cell? ⟨w.heap.size, 1, none⟩ = some (.int .i64 (C : Int)) := z.cell 1; have x2 : w2'.cell? ⟨w.heap.size, 2, none⟩ = some (.int .i64 1) := z.cell 2)
          | (go_at_call 40; go_must (refine (sums_yes N C 1 HCF.out _ L x y _ (HPI.out.ext hX3) HLl.out HKk.out HRn.out (HT.out.u.ext (hE2.trans hX3))).mono ?_); rintro e w4 ⟨b4, ⟨rfl, hE4⟩, hb4⟩; have hX4 := hX3.trans hE4)
          | (go_at_call 45; go_must (refine (other_any _ _ (sumsL N C x y L) [] _ (HSI.out _ _ hb4) (SliceIn.nil _) HSB.out (by simp [sumsL]) (pow10_ext HT.out.p (hE2.trans hX4))).mono ?_); rintro e w5 ⟨v5, ⟨rfl, hE5⟩, ho5⟩; obtain ⟨a5, c5, e5, _⟩ := ho5; rw [HSL.out] at e5; subst e5; have hX5 := hX4.trans hE5)
          | (go_at_call 35; go_must (refine (awake23_any _ (pow10_ext HT.out.p (hE2.trans hX5))).mono ?_); rintro e w6 ⟨rfl, hE6⟩))
        go_ret
        exact ⟨rfl, (hE2.trans hX5).trans hE6⟩
theorem walk_treeParts (v0 : Value) (a1 a2 a3 a4 : Int) (W : World) (w0 : ∃ l : List Int, IntsIn W v0 .i64 l ∧ ∀ n ∈ l, (Lit.int .i64 n).wf = true) (_ : (Lit.int .i64 a1).wf = true) (_ : (Lit.int .i64 a2).wf = true) (_ : (Lit.int .i64 a3).wf = true) (_ : (Lit.int .i64 a4).wf = true) (hT : TabV W) :
    Calls Tryd.prog 7 #[v0, .int .i64 a1, .int .i64 a2, .int .i64 a3, .int .i64 a4] W fun e w' => e = .returned (.bool true) ∧ Ext W w' := by
  obtain ⟨l, hl, _⟩ := w0
  exact law_treeParts v0 l a1 a2 a3 a4 W hl hT
end Go.Proofs.YtcmgeccgahakbaaDoor
