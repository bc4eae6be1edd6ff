/- Batches as plain data: what pack's reader makes of bytes; what may be; the bytes of it. -/
import Derived.Test.YtfagnbofnaoncaaGreatDoorP13
import Derived.Test.YtfagnbofnaoncaaGreatDoorP14
import Derived.Test.YtfagnbofnaoncaaGreatDoorP6
import Derived.Test.YtfagnbofnaoncaaGreatDoorP10
import Derived.Test.YtfagnbofnaoncaaGreatDoorP12
set_option linter.unusedSimpArgs false
set_option linter.unusedVariables false
namespace Go.Proofs.YtfagnbofnaoncaaGreatDoor
open Go Go.RowKit

/-- A mutation, whatever its memory. -/
structure Mq where
  table : ByteArray
  pt : Pt
def Mt.q (m : Mt) : Mq := ⟨m.table, ⟨m.pa.key, m.pa.gone, m.pa.ps.map (·.1)⟩⟩
def mutR (B : List UInt8) (s : Nat × Int) : Mq × (Nat × Int) :=
  (⟨(txtR B s).1, (prtR (txtR B (txtR B s).2).1.data.toList (0, (txtR B (txtR B s).2).2.2)).1⟩, failR (prtR (txtR B (txtR B s).2).1.data.toList (0, (txtR B (txtR B s).2).2.2)).2.2 (txtR B (txtR B s).2).2)
def noteR (B : List UInt8) (s : Nat × Int) : Nt × (Nat × Int) := (⟨((numR B s).1 : Int), (txtR B (numR B s).2).1⟩, (txtR B (numR B s).2).2)
def numIR (B : List UInt8) (s : Nat × Int) : Int × (Nat × Int) := (((numR B s).1 : Int), (numR B s).2)
structure Bt where
  muts : List Mq
  add : List Nt
  drop : List Int
def btR (B : List UInt8) (s : Nat × Int) : Bt × (Nat × Int) :=
  (⟨(listR B (mutR B) s).1, (listR B (noteR B) (listR B (mutR B) s).2).1, (listR B (numIR B) (listR B (noteR B) (listR B (mutR B) s).2).2).1⟩,
   endR B (listR B (numIR B) (listR B (noteR B) (listR B (mutR B) s).2).2).2)
def okMq (x : Mq) : Bool := nameB x.table && ptB x.pt.key x.pt.gone x.pt.rows
def cbQ (b : Bt) : Bool := decide (b.muts.length ≤ 64) && decide (b.add.length ≤ 300) && decide (b.drop.length ≤ 300) && b.muts.all okMq && b.add.all okNt && b.drop.all idB
theorem cbG_q (M : List Mt) (A : List Nt) (D : List Int) : cbG M A D = cbQ ⟨M.map Mt.q, A, D⟩ := by
  unfold cbG cbQ
  simp only [List.length_map, List.all_map]
  rfl
def mutE (x : Mq) : List UInt8 := mutQ x.table x.pt.key x.pt.gone x.pt.rows
def batQ (b : Bt) : List UInt8 := num b.muts.length ++ b.muts.flatMap mutE ++ num b.add.length ++ b.add.flatMap notP ++ num b.drop.length ++ b.drop.flatMap fun d => num d.toNat
theorem batP_q (M : List Mt) (A : List Nt) (D : List Int) : batP M A D = batQ ⟨M.map Mt.q, A, D⟩ := by
  unfold batP batQ
  simp only [List.length_map, List.flatMap_map]
  rfl
/-- What GetBatch answers. -/
def gB (l : List UInt8) : Bt × (Nat × Int) := btR l (0, if l.length ≤ 262144 then 0 else 2)
def gbErr (l : List UInt8) : Int := if (gB l).2.2 = 0 then (if cbQ (gB l).1 then 0 else 1) else (gB l).2.2
def gbBt (l : List UInt8) : Bt := if gbErr l = 0 then (gB l).1 else ⟨[], [], []⟩

theorem mutR_low (B : List UInt8) (s : Nat × Int) : (mutR B s).1.table.size ≤ B.length ∧ ∀ r ∈ (mutR B s).1.pt.rows, ∀ c ∈ r.cols, c.name.size ≤ B.length := by
  refine ⟨txtR_size B s, fun r hr c hc => ?_⟩
  have h1 := prtR_low (txtR B (txtR B s).2).1.data.toList (0, (txtR B (txtR B s).2).2.2) r hr c hc
  have h2 := txtR_size B (txtR B s).2
  rw [dat_size] at h1
  omega
theorem btR_low (B : List UInt8) (s : Nat × Int) : (∀ x ∈ (btR B s).1.muts, x.table.size ≤ B.length ∧ ∀ r ∈ x.pt.rows, ∀ c ∈ r.cols, c.name.size ≤ B.length) ∧ ∀ n ∈ (btR B s).1.add, n.body.size ≤ B.length :=
  ⟨manyR_all (P := fun x : Mq => x.table.size ≤ B.length ∧ ∀ r ∈ x.pt.rows, ∀ c ∈ r.cols, c.name.size ≤ B.length) (fun s => mutR_low B s) _ _, manyR_all (P := fun n : Nt => n.body.size ≤ B.length) (fun s => txtR_size B (numR B s).2) _ _⟩
end Go.Proofs.YtfagnbofnaoncaaGreatDoor

/- wire: the texts' and the mutations' put, of any. -/
namespace Go.Proofs.YtfagnbofnaoncaaGreatDoor
open Go Go.RowKit
attribute [local go_sem] yields yUpon

def tb (s : ByteArray) : List UInt8 := num s.size ++ s.data.toList

set_option maxRecDepth 100000 in
set_option maxHeartbeats 4000000 in
theorem textsputG (q i : Nat) (vk : Value) (K : List ByteArray) (v : Value) (l : List UInt8) (w : World) (hc : w.cell? ⟨q, i, none⟩ = some vk) (hK : TxIn w vk K) (hKb : ∀ s ∈ K, s.size ≤ 1000) (hn : K.length ≤ 100) (hv : BytesIn w v l) (hl : l.length ≤ 400000000) :
    Calls Tryz.prog 245 #[.agg #[.pointer (some ⟨q, i, none⟩)], v] w fun e w' => ∃ v', e = .returned v' ∧ OwnB w' w.heap.size v' (l ++ num K.length ++ K.flatMap tb) ∧ Ext w w' := by
  obtain ⟨ak, ck, rfl, hck, hckm, hget⟩ := hK.get
  obtain ⟨n, hnn⟩ : ∃ n, n = K.length := ⟨_, rfl⟩
  have HN := Lib.hid hnn
  rw [← hnn] at hc hck hn ⊢
  have HG := Lib.hid hget
  have HB := Lib.hid hKb
  clear hnn hget hKb hK
  have hw : IntKind.u64.wrap (n : Int) = (n : Int) := by rw [IntKind.wrap_u64]; omega
  have hE0 := (Ext.refl w).alloc (.cells #[.pointer (some ⟨q, i, none⟩)] 151)
  have hbx := BoxAt.made w #[.pointer (some ⟨q, i, none⟩)] 151
  have c0 := hE0.cell hc
  have hln := num_length (x := n) (by omega)
  go_enter Tryz.func245, Tryz.ntmps245
  go_wp2_with (go_at_call 214; go_must (refine (Num_ok v l (n : Int) (by omega) (by omega) _ (SliceIn.ext hE0 hv) (by omega)).mono ?_); rintro e w1 ⟨v1, rfl, ho1, hE1⟩; rw [Int.toNat_natCast] at ho1; have d0 := hE1.cell c0; have p0 : w1.cell? ⟨w.heap.size, 0, none⟩ = some (.pointer (some ⟨q, i, none⟩)) := (hbx.ext hE1).cell 0)
  have hE01 := hE0.trans hE1
  replace ho1 := ho1.base hE0.le
  obtain ⟨L0, hL0⟩ : ∃ L, L = l ++ num n := ⟨_, rfl⟩
  have hL0l : L0.length ≤ 400000009 := by rw [hL0, List.length_append]; omega
  rw [← hL0] at ho1
  have HL0 := Lib.hid hL0
  clear hL0 d0 p0 c0
  go_loopw [1, 20] (fun o i wr => ∃ k : Nat, k ≤ n ∧ i = .int .i64 (k : Int) ∧ OwnB wr w.heap.size o (L0 ++ (K.take k).flatMap tb) ∧ Hid ((L0 ++ (K.take k).flatMap tb).length ≤ 400000009 + k * 1009) ∧ Ext w1 wr) (fun _ i _ => n - (intOf i).toNat)
  case atStart => exact ⟨0, Nat.zero_le _, rfl, by simpa using ho1, Lib.hid (by simpa using hL0l), Ext.refl w1⟩
  case round =>
    obtain ⟨k, hk, rfl, hF, HL, hE⟩ := hrel
    have hEw := hE01.trans hE
    by_cases hlt : k < n
    · have hkF : k < K.length := by rw [← HN.out]; exact hlt
      obtain ⟨b, o, rfl, g0⟩ := HG.out k hkF
      replace g0 := hEw.cell g0
      have hs := HB.out _ (List.getElem_mem hkF)
      have HT : Hid (L0 ++ (K.take (k + 1)).flatMap tb = L0 ++ (K.take k).flatMap tb ++ num (K[k]).size ++ (K[k]).data.toList) := Lib.hid (by
        rw [List.take_succ_eq_append_getElem hkF, List.flatMap_append, ← List.append_assoc, List.append_assoc (L0 ++ (K.take k).flatMap tb)]; simp [tb])
      obtain ⟨s, hse⟩ : ∃ s, s = K[k] := ⟨_, rfl⟩
      rw [← hse] at g0 hs HT
      clear hse
      obtain ⟨L, hL⟩ : ∃ L, L = L0 ++ (K.take k).flatMap tb := ⟨_, rfl⟩
      rw [← hL] at hF HL HT
      clear hL
      have hLl := HL.out
      have hbs := num_length (x := s.size) (by omega)
      go_wp2_with (go_at_call 222; go_must (refine (wtext_any _ L s (by omega) wr (OwnB.bytes hF) (by omega)).mono ?_); rintro e w5 ⟨v5, rfl, ho5, hE5⟩)
      go_roundw
      case rel =>
        refine ⟨k + 1, by omega, by go_num, by rw [HT.out]; exact ho5.base hEw.le, Lib.hid ?_, hE.trans hE5⟩
        rw [HT.out, List.length_append, List.length_append, dat_size]
        omega
      case measure => simp [intOf]; omega
    · obtain rfl : k = n := by omega
      go_wp2_with fail
      go_ret
      refine ⟨_, rfl, ?_, hEw⟩
      rw [List.take_of_length_le (by rw [HN.out]; exact Nat.le_refl _)] at hF
      rw [← HL0.out]
      exact hF

set_option maxRecDepth 100000 in
set_option maxHeartbeats 8000000 in
theorem mutsputG (q i : Nat) (vm : Value) (M : List Mt) (v : Value) (l : List UInt8) (w : World) (hc : w.cell? ⟨q, i, none⟩ = some vm) (hT : TabU w) (hM : MtsIn w vm M) (hMb : ∀ x ∈ M, okMt x = true ∧ (wholeP x.pa.key x.pa.gone (x.pa.ps.map (·.1))).length ≤ 262144) (hn : M.length ≤ 100) (hv : BytesIn w v l) (hl : l.length ≤ 100000) :
    Calls Tryz.prog 218 #[.agg #[.pointer (some ⟨q, i, none⟩)], v] w fun e w' => ∃ v', e = .returned v' ∧ OwnB w' w.heap.size v' (l ++ num M.length ++ M.flatMap mutP) ∧ Ext w w' := by
  have HROW := Lib.hid hM.rows
  obtain ⟨ak, ck, rfl, hck, hckm, hget⟩ := hM.get
  obtain ⟨n, hnn⟩ : ∃ n, n = M.length := ⟨_, rfl⟩
  have HN := Lib.hid hnn
  rw [← hnn] at hc hck hn ⊢
  have HG := Lib.hid hget
  have HB := Lib.hid hMb
  clear hnn hget hMb hM
  have hw : IntKind.u64.wrap (n : Int) = (n : Int) := by rw [IntKind.wrap_u64]; omega
  have hE0 := (Ext.refl w).alloc (.cells #[.pointer (some ⟨q, i, none⟩)] 148)
  have hbx := BoxAt.made w #[.pointer (some ⟨q, i, none⟩)] 148
  have c0 := hE0.cell hc
  have hln := num_length (x := n) (by omega)
  go_enter Tryz.func218, Tryz.ntmps218
  go_wp2_with (go_at_call 214; go_must (refine (Num_ok v l (n : Int) (by omega) (by omega) _ (SliceIn.ext hE0 hv) (by omega)).mono ?_); rintro e w1 ⟨v1, rfl, ho1, hE1⟩; rw [Int.toNat_natCast] at ho1; have d0 := hE1.cell c0; have p0 : w1.cell? ⟨w.heap.size, 0, none⟩ = some (.pointer (some ⟨q, i, none⟩)) := (hbx.ext hE1).cell 0)
  have hE01 := hE0.trans hE1
  replace ho1 := ho1.base hE0.le
  obtain ⟨L0, hL0⟩ : ∃ L, L = l ++ num n := ⟨_, rfl⟩
  have hL0l : L0.length ≤ 100009 := by rw [hL0, List.length_append]; omega
  rw [← hL0] at ho1
  have HL0 := Lib.hid hL0
  clear hL0 d0 p0 c0
  go_loopw [1, 22] (fun o i wr => ∃ k : Nat, k ≤ n ∧ i = .int .i64 (k : Int) ∧ OwnB wr w.heap.size o (L0 ++ (M.take k).flatMap mutP) ∧ Hid ((L0 ++ (M.take k).flatMap mutP).length ≤ 100009 + k * 262300) ∧ Ext w1 wr) (fun _ i _ => n - (intOf i).toNat)
  case atStart => exact ⟨0, Nat.zero_le _, rfl, by simpa using ho1, Lib.hid (by simpa using hL0l), Ext.refl w1⟩
  case round =>
    obtain ⟨k, hk, rfl, hF, HL, hE⟩ := hrel
    have hEw := hE01.trans hE
    by_cases hlt : k < n
    · have hkF : k < M.length := by rw [← HN.out]; exact hlt
      obtain ⟨b, o, rfl, ⟨g0, g1, g2, g3⟩⟩ := HG.out k hkF
      obtain ⟨ra, rc, hrv⟩ : ∃ a c, (M[k]).pa.rv = .slice a (M[k]).pa.ps.length c := let ⟨a, c, e, _⟩ := (HROW.out _ (List.getElem_mem hkF)).get; ⟨a, c, e⟩
      have hrw := (HROW.out _ (List.getElem_mem hkF)).ext hEw
      rw [hrv] at g3 hrw
      replace g0 := hEw.cell g0
      replace g1 := hEw.cell g1
      replace g2 := hEw.cell g2
      replace g3 := hEw.cell g3
      obtain ⟨hok, hwl⟩ := HB.out _ (List.getElem_mem hkF)
      unfold okMt at hok
      simp only [Bool.and_eq_true] at hok
      have HT : Hid (L0 ++ (M.take (k + 1)).flatMap mutP = L0 ++ (M.take k).flatMap mutP ++ num (M[k]).table.size ++ (M[k]).table.data.toList ++ num (wholeP (M[k]).pa.key (M[k]).pa.gone ((M[k]).pa.ps.map (·.1))).length ++ wholeP (M[k]).pa.key (M[k]).pa.gone ((M[k]).pa.ps.map (·.1))) := Lib.hid (by
        rw [List.take_succ_eq_append_getElem hkF, List.flatMap_append]; simp [mutP, mutQ])
      obtain ⟨t, ht⟩ : ∃ t, t = (M[k]).table := ⟨_, rfl⟩
      obtain ⟨ky, hky⟩ : ∃ t, t = (M[k]).pa.key := ⟨_, rfl⟩
      obtain ⟨gn, hgn⟩ : ∃ t, t = (M[k]).pa.gone := ⟨_, rfl⟩
      obtain ⟨ps, hps⟩ : ∃ t, t = (M[k]).pa.ps := ⟨_, rfl⟩
      rw [← ht] at g0 hok HT
      rw [← hky] at g1 hok HT hwl
      rw [← hgn] at g2 hok HT hwl
      rw [← hps] at g3 hrw hok HT hwl
      have q1 := nameB_size hok.1
      have hpr : partR ky gn (ps.map (·.1)) = (wholeP ky gn (ps.map (·.1)), 0) := by unfold partR; rw [hok.2, if_pos rfl, if_pos hwl]
      have hlow : ∀ p ∈ ps, ∀ c ∈ p.1.cols, c.name.size ≤ 1000000 := fun q hq c hc => by
        have := (((ptB_ok hok.2).rows q.1 (List.mem_map_of_mem (f := (·.1)) hq)).cols c hc).name
        omega
      have HPR := Lib.hid hpr
      have HLOW := Lib.hid hlow
      obtain ⟨rn, hrn⟩ : ∃ n, n = ps.length := ⟨_, rfl⟩
      rw [← hrn] at g3 hrw
      clear ht hky hgn hps hrv hrn hok hpr hlow
      obtain ⟨L, hL⟩ : ∃ L, L = L0 ++ (M.take k).flatMap mutP := ⟨_, rfl⟩
      rw [← hL] at hF HL HT
      clear hL
      have hLl := HL.out
      have hbs := num_length (x := t.size) (by omega)
      obtain ⟨Wh, hWh⟩ : ∃ L, L = wholeP ky gn (ps.map (·.1)) := ⟨_, rfl⟩
      rw [← hWh] at hwl HT HPR
      clear hWh
      have hbw := num_length (x := Wh.length) (by omega)
      have hws : (str Wh).size = Wh.length := str_size _
      obtain ⟨L1, hL1⟩ : ∃ L', L' = L ++ num t.size ++ t.data.toList := ⟨_, rfl⟩
      obtain ⟨L2, hL2⟩ : ∃ L', L' = L1 ++ num Wh.length ++ Wh := ⟨_, rfl⟩
      have hL1l : L1.length ≤ L.length + 109 := by rw [hL1, List.length_append, List.length_append, dat_size]; omega
      have hL2l : L2.length ≤ L.length + 262300 := by rw [hL2, List.length_append, List.length_append]; omega
      have H1 := Lib.hid hL1
      have H2 := Lib.hid hL2
      have HT2 : Hid (L0 ++ (M.take (k + 1)).flatMap mutP = L2) := Lib.hid (by rw [HT.out, hL2, hL1])
      clear hL1 hL2 HT
      have hEb := (Ext.refl wr).alloc (.cells #[.string t, .string ky, .int .i64 gn, .slice ra rn rc] 106)
      have hbm := BoxAt.made wr #[.string t, .string ky, .int .i64 gn, .slice ra rn rc] 106
      have hTb := hT.ext (hEw.trans hEb)
      have hrb := hrw.ext hEb
      have t1 : decide ((k : Int) < (n : Int)) = true := by simp; omega
      go_wp2_with (go_at_call 221; go_must (refine (pk_part ky gn _ ps _ hrb HLOW.out hTb).mono ?_); rintro e w5 ⟨v5, rfl, ho5, hE5⟩; rw [HPR.out] at ho5 ⊢; simp only at ho5 ⊢; have ho5' := ho5; obtain ⟨a5, n5, rfl⟩ := ownB_shapeP ho5')
      have hE6 := hEb.trans hE5
      have hEw5 := hEw.trans hE6
      have hF5 := hF.ext hE6
      have x0 : w5.cell? ⟨wr.heap.size, 0, none⟩ = some (.string t) := (hbm.ext hE5).cell 0
      refine wp_region_tab 8 [(3, fun v x => OwnB x w.heap.size v L1), (5, fun v _ => v = .string (str Wh)), (6, fun v x => OwnB x w.heap.size v L2)] (by kernel_rfl) (by kernel_rfl) (by kernel_rfl) ⟨fun _ _ _ hE h => OwnB.ext h hE, stays_eq _, fun _ _ _ hE h => OwnB.ext h hE, trivial⟩ ?_
      replace x0 := held x0
      refine rg_quiet rfl rfl rfl rfl ?_; intro K hK; go_big_quiet_op; go_big_quiet_on
      refine rg_quiet rfl rfl rfl rfl ?_; intro K hK; go_big_quiet_op; go_big_quiet_on
      refine rg_quiet rfl rfl rfl rfl ?_; intro K hK; go_big_quiet_op; go_big_quiet_on
      refine rg_fact [] rfl rfl rfl (by kernel_rfl) (fun y hE hf => ?_) (fun v3 y3 hE3 hG3 h3 => ?_)
      · go_simp
        refine (wtext_any _ L t (by omega) y (OwnB.bytes (hF5.ext hE)) (by omega)).mono ?_
        rintro e w' ⟨v', rfl, ho, hw⟩
        exact ⟨_, rfl, rg_doneR hE hw (by rw [H1.out]; exact ho.base (hEw5.trans hE).le)⟩
      clear hE3 hG3 h3
      simp only [Act.put, List.setIfInBounds_toArray, List.set_cons_zero, List.set_cons_succ]
      refine rg_quiet rfl rfl rfl rfl ?_; intro K hK; go_big_quiet_op; go_big_quiet_on
      refine rg_text [] 79 9 5 (.tmp 36) Wh rfl rfl rfl rfl (by kernel_rfl) und_bytes und_u8 und_string (fun y hE hf => OwnB.bytes (ho5.ext hE)) ?_
      simp only [Act.put, List.setIfInBounds_toArray, List.set_cons_zero, List.set_cons_succ]
      refine rg_fact [3] rfl rfl rfl (by kernel_rfl) (fun y hE hf => ?_) (fun v6 y6 hE6' hG6 h6 => ?_)
      · have h3 := (hf 3 (by simp)).2 rfl
        go_simp
        refine (wtext_any _ L1 (str Wh) (by omega) y (OwnB.bytes h3) (by omega)).mono ?_
        rintro e w' ⟨v', rfl, ho, hw⟩
        refine ⟨_, rfl, rg_doneR hE hw ?_⟩
        rw [hws, str_toList] at ho
        rw [H2.out]
        exact ho.base (hEw5.trans hE).le
      clear hE6' hG6 h6
      simp only [Act.put, List.setIfInBounds_toArray, List.set_cons_zero, List.set_cons_succ]
      refine rg_quiet rfl rfl rfl rfl ?_; intro K hK; go_big_quiet_op; go_big_quiet_on
      refine rel_nil fun w7 hE7 hG => ?_
      have h6 := (hG 6).2 rfl
      clear x0 hG
      go_wp2_with fail
      go_roundw
      case rel => exact ⟨k + 1, by omega, by go_num, by rw [HT2.out]; exact h6, Lib.hid (by rw [HT2.out]; omega), (hE.trans hE6).trans hE7⟩
      case measure => simp [intOf]; omega
    · obtain rfl : k = n := by omega
      go_wp2_with fail
      go_ret
      refine ⟨_, rfl, ?_, hEw⟩
      rw [List.take_of_length_le (by rw [HN.out]; exact Nat.le_refl _)] at hF
      rw [← HL0.out]
      exact hF
end Go.Proofs.YtfagnbofnaoncaaGreatDoor

/- wire.Check of any message (printed by gwcg.py). -/
namespace Go.Proofs.YtfagnbofnaoncaaGreatDoor
open Go Go.RowKit
attribute [local go_sem] yields yUpon

set_option maxRecDepth 100000 in
set_option maxHeartbeats 16000000 in
theorem wcheck_gen (m : Hd) (vm vk : Value) (M : List Mt) (ks : List ByteArray) (w : World) (hT : TabU w) (hM : MtsIn w vm M) (hK : TxIn w vk ks) (hMb : ∀ x ∈ M, x.table.size ≤ 1000000 ∧ ∀ p ∈ x.pa.ps, ∀ c ∈ p.1.cols, c.name.size ≤ 1000000) (hKb : ∀ s ∈ ks, s.size ≤ 1000000) :
    Calls Tryz.prog 12 #[.agg (hd7 m vm vk)] w fun e w' => e = .returned (.bool (msB m M ks)) ∧ Ext w w' := by
  obtain ⟨kd, fr, to, id, nm⟩ := m
  have HMI := Lib.hid hM
  have HKI := Lib.hid hK
  obtain ⟨am, cm, rfl, _⟩ := hM.get
  obtain ⟨ak, ck, rfl, _⟩ := hK.get
  unfold hd7
  simp only
  have hE0 := (Ext.refl w).alloc (.cells #[.int .i64 kd, .int .i64 fr, .int .i64 to, .int .i64 id, .slice am M.length cm, .slice ak ks.length ck, .int .i64 nm] 25)
  have hbx := BoxAt.made w #[.int .i64 kd, .int .i64 fr, .int .i64 to, .int .i64 id, .slice am M.length cm, .slice ak ks.length ck, .int .i64 nm] 25
  have HMb := Lib.hid hMb
  have HKb := Lib.hid hKb
  obtain ⟨R, hR⟩ : ∃ R, R = msB ⟨kd, fr, to, id, nm⟩ M ks := ⟨_, rfl⟩
  rw [← hR]
  unfold msB at hR
  simp only at hR
  have HR := Lib.hid hR
  clear hMb hKb hM hK hR
  by_cases a1 : 1 ≤ kd
  rotate_left
  · have HF : Hid (R = false) := Lib.hid (by rw [HR.out, decide_eq_false (show ¬ 1 ≤ kd from a1)]; simp)
    have ta1 : decide (kd < 1) = true := by simp; omega
    go_enter Tryz.func12, Tryz.ntmps12
    go_wp2
    go_ret
    exact ⟨by rw [HF.out]; rfl, hE0⟩
  by_cases a2 : kd ≤ 8
  rotate_left
  · have HF : Hid (R = false) := Lib.hid (by rw [HR.out, decide_eq_false (show ¬ kd ≤ 8 from a2)]; simp)
    have ta1 : ¬ kd < 1 := by omega
    have ta2 : decide (8 < kd) = true := by simp; omega
    go_enter Tryz.func12, Tryz.ntmps12
    go_wp2
    go_ret
    exact ⟨by rw [HF.out]; rfl, hE0⟩
  cases b1 : inB fr 4
  · have HF : Hid (R = false) := Lib.hid (by rw [HR.out, b1]; simp)
    have ta1 : ¬ kd < 1 := by omega
    have ta2 : ¬ 8 < kd := by omega
    have tb1 := Lib.hid (show inB fr 4 = false from b1)
    clear b1
    go_enter Tryz.func12, Tryz.ntmps12
    go_wp2_with (go_at_call 44; go_must (refine (in_any _ _ _).mono ?_); rintro e w5 ⟨rfl, rfl⟩; first | rw [tb1.out])
    go_ret
    exact ⟨by rw [HF.out]; rfl, hE0⟩
  · skip
    cases c1 : inB to 4
    · have HF : Hid (R = false) := Lib.hid (by rw [HR.out, c1]; simp)
      have ta1 : ¬ kd < 1 := by omega
      have ta2 : ¬ 8 < kd := by omega
      have tb1 := Lib.hid (show inB fr 4 = true from b1)
      clear b1
      have tc1 := Lib.hid (show inB to 4 = false from c1)
      clear c1
      go_enter Tryz.func12, Tryz.ntmps12
      go_wp2_with (go_at_call 44; go_must (refine (in_any _ _ _).mono ?_); rintro e w5 ⟨rfl, rfl⟩; first | rw [tb1.out] | rw [tc1.out])
      go_ret
      exact ⟨by rw [HF.out]; rfl, hE0⟩
    · skip
      cases d1 : inB id 1099511627776
      · have HF : Hid (R = false) := Lib.hid (by rw [HR.out, d1]; simp)
        have ta1 : ¬ kd < 1 := by omega
        have ta2 : ¬ 8 < kd := by omega
        have tb1 := Lib.hid (show inB fr 4 = true from b1)
        clear b1
        have tc1 := Lib.hid (show inB to 4 = true from c1)
        clear c1
        have td1 := Lib.hid (show inB id 1099511627776 = false from d1)
        clear d1
        go_enter Tryz.func12, Tryz.ntmps12
        go_wp2_with (go_at_call 44; go_must (refine (in_any _ _ _).mono ?_); rintro e w5 ⟨rfl, rfl⟩; first | rw [tb1.out] | rw [tc1.out] | rw [td1.out])
        go_ret
        exact ⟨by rw [HF.out]; rfl, hE0⟩
      · skip
        cases e1 : inB nm 1099511627776
        · have HF : Hid (R = false) := Lib.hid (by rw [HR.out, e1]; simp)
          have ta1 : ¬ kd < 1 := by omega
          have ta2 : ¬ 8 < kd := by omega
          have tb1 := Lib.hid (show inB fr 4 = true from b1)
          clear b1
          have tc1 := Lib.hid (show inB to 4 = true from c1)
          clear c1
          have td1 := Lib.hid (show inB id 1099511627776 = true from d1)
          clear d1
          have te1 := Lib.hid (show inB nm 1099511627776 = false from e1)
          clear e1
          go_enter Tryz.func12, Tryz.ntmps12
          go_wp2_with (go_at_call 44; go_must (refine (in_any _ _ _).mono ?_); rintro e w5 ⟨rfl, rfl⟩; first | rw [tb1.out] | rw [tc1.out] | rw [td1.out] | rw [te1.out])
          go_ret
          exact ⟨by rw [HF.out]; rfl, hE0⟩
        · skip
          by_cases f1 : M.length ≤ 100
          rotate_left
          · have HF : Hid (R = false) := Lib.hid (by rw [HR.out, decide_eq_false (show ¬ M.length ≤ 100 from f1)]; simp)
            have ta1 : ¬ kd < 1 := by omega
            have ta2 : ¬ 8 < kd := by omega
            have tb1 := Lib.hid (show inB fr 4 = true from b1)
            clear b1
            have tc1 := Lib.hid (show inB to 4 = true from c1)
            clear c1
            have td1 := Lib.hid (show inB id 1099511627776 = true from d1)
            clear d1
            have te1 := Lib.hid (show inB nm 1099511627776 = true from e1)
            clear e1
            have tf1 : decide ((100 : Int) < (M.length : Int)) = true := by simp; omega
            go_enter Tryz.func12, Tryz.ntmps12
            go_wp2_with (go_at_call 44; go_must (refine (in_any _ _ _).mono ?_); rintro e w5 ⟨rfl, rfl⟩; first | rw [tb1.out] | rw [tc1.out] | rw [td1.out] | rw [te1.out])
            go_ret
            exact ⟨by rw [HF.out]; rfl, hE0⟩
          by_cases g1 : ks.length ≤ 40
          rotate_left
          · have HF : Hid (R = false) := Lib.hid (by rw [HR.out, decide_eq_false (show ¬ ks.length ≤ 40 from g1)]; simp)
            have ta1 : ¬ kd < 1 := by omega
            have ta2 : ¬ 8 < kd := by omega
            have tb1 := Lib.hid (show inB fr 4 = true from b1)
            clear b1
            have tc1 := Lib.hid (show inB to 4 = true from c1)
            clear c1
            have td1 := Lib.hid (show inB id 1099511627776 = true from d1)
            clear d1
            have te1 := Lib.hid (show inB nm 1099511627776 = true from e1)
            clear e1
            have tf1 : ¬ (100 : Int) < (M.length : Int) := by omega
            have tg1 : decide ((40 : Int) < (ks.length : Int)) = true := by simp; omega
            go_enter Tryz.func12, Tryz.ntmps12
            go_wp2_with (go_at_call 44; go_must (refine (in_any _ _ _).mono ?_); rintro e w5 ⟨rfl, rfl⟩; first | rw [tb1.out] | rw [tc1.out] | rw [td1.out] | rw [te1.out])
            go_ret
            exact ⟨by rw [HF.out]; rfl, hE0⟩
          have HT : Hid (R = (!ks.any longB && !M.any badG)) := Lib.hid (by rw [HR.out, decide_eq_true a1, decide_eq_true a2, b1, c1, d1, e1, decide_eq_true f1, decide_eq_true g1]; rfl)
          have ta1 : ¬ kd < 1 := by omega
          have ta2 : ¬ 8 < kd := by omega
          have tb1 := Lib.hid (show inB fr 4 = true from b1)
          clear b1
          have tc1 := Lib.hid (show inB to 4 = true from c1)
          clear c1
          have td1 := Lib.hid (show inB id 1099511627776 = true from d1)
          clear d1
          have te1 := Lib.hid (show inB nm 1099511627776 = true from e1)
          clear e1
          have tf1 : ¬ (100 : Int) < (M.length : Int) := by omega
          have tg1 : ¬ (40 : Int) < (ks.length : Int) := by omega
          cases hq : ks.any longB
          all_goals
            have HQ := Lib.hid hq
            clear hq
            go_enter Tryz.func12, Tryz.ntmps12
            go_wp2_with (first | (go_at_call 44; go_must (refine (in_any _ _ _).mono ?_); rintro e w5 ⟨rfl, rfl⟩; first | rw [tb1.out] | rw [tc1.out] | rw [td1.out] | rw [te1.out]) | (go_at_call 45; go_must (refine (containsT_any _ ks _ (HKI.out.ext hE0) HKb.out).mono ?_); rintro e w6 ⟨rfl, rfl⟩; rw [HQ.out]) | (go_at_call 47; go_must (refine (containsG_any _ M _ (hT.ext hE0) (HMI.out.ext hE0) HMb.out).mono ?_); rintro e w7 ⟨rfl, hE7⟩))
            go_ret
            first
              | exact ⟨by rw [HT.out, HQ.out]; cases M.any badG <;> rfl, hE0.trans hE7⟩
              | exact ⟨by rw [HT.out, HQ.out]; rfl, hE0⟩
end Go.Proofs.YtfagnbofnaoncaaGreatDoor

/- wire's reader: fail, any, number, count, text. -/
namespace Go.Proofs.YtfagnbofnaoncaaGreatDoor
open Go Go.RowKit
attribute [local go_sem] yields yUpon

/-- A reader in memory: its bytes (a slice v), the next place, what is wrong. -/
structure WdAt (w : World) (q : Nat) (v : Value) (B : List UInt8) (s : Nat × Int) : Prop where
  box : BoxAt w q #[v, .int .i64 (s.1 : Int), .int .i64 s.2] 91
  bytes : BytesIn w v B
  off : ∀ b o k c, v = .slice (some ⟨b, o, none⟩) k c → b ≠ q
  le : s.1 ≤ B.length
  big : B.length ≤ 900000
section
variable {w w' : World} {q : Nat} {v : Value} {B : List UInt8} {s : Nat × Int}
theorem WdAt.ext (h : WdAt w q v B s) (hE : Ext w w') : WdAt w' q v B s := ⟨h.box.ext hE, h.bytes.ext hE, h.off, h.le, h.big⟩
theorem WdAt.c0 (h : WdAt w q v B s) : w.cell? ⟨q, 0, none⟩ = some v := h.box.cell 0
theorem WdAt.c1 (h : WdAt w q v B s) : w.cell? ⟨q, 1, none⟩ = some (.int .i64 (s.1 : Int)) := h.box.cell 1
theorem WdAt.c2 (h : WdAt w q v B s) : w.cell? ⟨q, 2, none⟩ = some (.int .i64 s.2) := h.box.cell 2
theorem WdAt.f1 (h : WdAt w q v B s) : w.frozen? ⟨q, 1, none⟩ = false := h.box.free 1
theorem WdAt.f2 (h : WdAt w q v B s) : w.frozen? ⟨q, 2, none⟩ = false := h.box.free 2
theorem WdAt.lt (h : WdAt w q v B s) : q < w.heap.size := BoxAt.lt h.box
theorem WdAt.set1 (h : WdAt w q v B s) (i : Nat) (hi : i ≤ B.length) : WdAt (w.setCell ⟨q, 1, none⟩ (.int .i64 (i : Int))) q v B (i, s.2) := ⟨h.box.set 1 _, slice_off h.bytes h.off, h.off, hi, h.big⟩
theorem WdAt.set2 (h : WdAt w q v B s) (e : Int) : WdAt (w.setCell ⟨q, 2, none⟩ (.int .i64 e)) q v B (s.1, e) := ⟨h.box.set 2 _, slice_off h.bytes h.off, h.off, h.le, h.big⟩
theorem WdAt.shape (h : WdAt w q v B s) : ∃ a c, v = .slice a B.length c ∧ B.length ≤ c ∧ c ≤ 9223372036854775807 ∧ ∀ k (hk : k < B.length), ∃ b o, a = some ⟨b, o, none⟩ ∧ w.cell? ⟨b, o + k, none⟩ = some (.int .u8 (B[k].toNat : Int)) := by
  obtain ⟨a, c, rfl, h1, h2, _, h3⟩ := h.bytes
  unfold maxLen at h2
  refine ⟨a, c, rfl, h1, by omega, fun k hk => ?_⟩
  obtain ⟨b, o, e, hc⟩ := h3 k (.int .u8 (B[k].toNat : Int)) (by simp [bcells, hk])
  exact ⟨b, o, e, hc⟩
end

set_option maxHeartbeats 400000 in
theorem wd_fail {w : World} {q : Nat} {v : Value} {B : List UInt8} {s : Nat × Int} (k : Int) (h : WdAt w q v B s) :
    Calls Tryz.prog 36 #[.pointer (some ⟨q, 0, none⟩), .int .i64 k] w fun e w' => e = .returned (.tuple #[]) ∧ WdAt w' q v B (failR k s) ∧ Touch9 w w' q := by
  have c2 := h.c2
  have f2 := h.f2
  obtain ⟨i, e⟩ := s
  simp only at c2
  by_cases he : e = 0
  · subst he
    have hf : failR k (i, 0) = (i, k) := if_pos rfl
    rw [hf]
    go_enter Tryz.func36, Tryz.ntmps36
    go_wp2
    go_end0
    exact ⟨rfl, h.set2 k, Touch9.set w 2 _⟩
  · have hf : failR k (i, e) = (i, e) := if_neg he
    rw [hf]
    go_enter Tryz.func36, Tryz.ntmps36
    go_wp2
    go_end0
    exact ⟨rfl, h, Touch9.refl w q⟩


/-- The next number, at most so great, or the code. -/
def anyW (most : Nat) (code : Int) (B : List UInt8) (s : Nat × Int) : Nat × (Nat × Int) :=
  if s.2 = 0 then (if (getNum B s.1).2.2 = 0 then (if (getNum B s.1).1 ≤ most then ((getNum B s.1).1, ((getNum B s.1).2.1.toNat, 0)) else (0, ((getNum B s.1).2.1.toNat, code))) else (0, (s.1, (getNum B s.1).2.2))) else (0, s)
theorem anyW_num (B : List UInt8) (s : Nat × Int) : anyW 1099511627776 6 B s = numR B s := by
  unfold anyW numR anyR failR
  by_cases h1 : s.2 = 0
  · by_cases h2 : (getNum B s.1).2.2 = 0
    · by_cases h3 : (getNum B s.1).1 ≤ 1099511627776 <;> simp [h1, h2, h3]
    · simp [h1, h2]
  · simp [h1]
theorem anyW_cnt (B : List UInt8) (s : Nat × Int) (h : s.2 = 0) : anyW (B.length - (getNum B s.1).2.1.toNat) 8 B s = cntR B s := by
  unfold anyW cntR anyR failR
  by_cases h2 : (getNum B s.1).2.2 = 0
  · by_cases h3 : (getNum B s.1).1 ≤ B.length - (getNum B s.1).2.1.toNat <;> simp [h, h2, h3]
  · simp [h, h2]
theorem getNumN_at {B : List UInt8} {i : Nat} (hi : i ≤ 900000) : 0 ≤ (getNumN B i).2.1 ∧ (getNumN B i).2.1 ≤ 1000000 := by
  unfold getNumN
  repeat' split
  all_goals simp only
  all_goals omega
theorem cntR_no (B : List UInt8) (s : Nat × Int) (h : ¬ s.2 = 0) : cntR B s = (0, s) := by
  unfold cntR anyR
  simp [h]

set_option maxRecDepth 100000 in
set_option maxHeartbeats 2000000 in
theorem wd_any {w : World} {q : Nat} {v : Value} {B : List UInt8} {s : Nat × Int} (most : Nat) (code : Int) (hm : most < 9223372036854775808) (h : WdAt w q v B s) :
    Calls Tryz.prog 215 #[.pointer (some ⟨q, 0, none⟩), .int .u64 (most : Int), .int .i64 code] w fun e w' => e = .returned (.int .i64 ((anyW most code B s).1 : Int)) ∧ WdAt w' q v B (anyW most code B s).2 ∧ Touch9 w w' q := by
  have c0 := h.c0
  have c1 := h.c1
  have c2 := h.c2
  have f1 := h.f1
  have hle := h.le
  have hbig := h.big
  obtain ⟨a, c, rfl, _⟩ := h.shape
  obtain ⟨i, e⟩ := s
  simp only at c1 c2 hle
  by_cases he : e = 0
  · subst he
    have hlt := @getNumN_lt B i
    rw [← getNum_nat] at hlt
    obtain ⟨V, N, K, hg⟩ : ∃ V N K, getNum B (i : Int) = (V, N, K) := ⟨_, _, _, rfl⟩
    rw [hg] at hlt
    simp only at hlt
    have hcall : ∀ n, Calls Tryz.prog 216 #[.slice a B.length c, .int .i64 (i : Int)] (w.drewN n) fun e w'' => e = .returned (.tuple #[.int .u64 (V : Int), .int .i64 N, .int .i64 K]) ∧ w'' = w.drewN n := fun n => by
      have hx := getNum_any (.slice a B.length c) B (i : Int) (w.drewN n) (h.bytes.ext ((Ext.refl w).drewN n)) (by omega)
      rw [hg] at hx
      exact hx.mono fun e w'' hh => ⟨hh.1, hh.2.symm⟩
    by_cases hK : K = 0
    · subst hK
      have hn : N = ((N.toNat : Nat) : Int) ∧ N.toNat ≤ B.length := by
        have := @getNumN_next B i
        rw [← getNum_nat, hg] at this
        have := this rfl
        simp only at this
        omega
      have HC := Lib.hid hcall
      have HN := Lib.hid hn
      by_cases hV : V ≤ most
      · have e1 : Hid (anyW most code B (i, 0) = (V, (N.toNat, 0))) := Lib.hid (by unfold anyW; rw [if_pos rfl, hg]; simp [hV])
        have d : decide ((most : Int) < (V : Int)) = false := by simp; omega
        rw [e1.out]
        clear hcall hg hn e1
        go_enter Tryz.func215, Tryz.ntmps215
        go_wp2
        go_quiet (first | (go_at_call 216; go_must (refine Calls.quiet_of_same (HC.out _))))
        go_wp2
        go_ret
        rw [HN.out.1]
        exact ⟨ret_int (by omega), (h.ext ((Ext.refl w).drewN nq)).set1 _ HN.out.2, (Touch9.refl w q).drewN nq |>.put 1 _⟩
      · have e1 : Hid (anyW most code B (i, 0) = (0, (N.toNat, code))) := Lib.hid (by unfold anyW; rw [if_pos rfl, hg]; simp [hV])
        have d : decide ((most : Int) < (V : Int)) = true := by simp; omega
        have hf : Hid (failR code (N.toNat, 0) = (N.toNat, code)) := Lib.hid (if_pos rfl)
        have hs1 : ∀ n, WdAt ((w.drewN n).setCell ⟨q, 1, none⟩ (.int .i64 N)) q (.slice a B.length c) B (N.toNat, 0) := fun n => by
          have := (h.ext ((Ext.refl w).drewN n)).set1 N.toNat hn.2
          rw [← hn.1] at this
          exact this
        rw [e1.out]
        clear hcall hg hn e1
        go_enter Tryz.func215, Tryz.ntmps215
        go_wp2
        go_quiet (first | (go_at_call 216; go_must (refine Calls.quiet_of_same (HC.out _))))
        go_wp2_with (go_at_call 36; go_must (refine (wd_fail code (hs1 nq)).mono ?_); rintro e w1 ⟨rfl, h1, hT1⟩; rw [hf.out] at h1)
        go_ret
        exact ⟨rfl, h1, (((Touch9.refl w q).drewN nq).put 1 _).trans hT1⟩
    · have e1 : Hid (anyW most code B (i, 0) = (0, (i, K))) := Lib.hid (by unfold anyW; rw [if_pos rfl, hg, if_neg hK])
      have hf : Hid (failR K (i, 0) = (i, K)) := Lib.hid (if_pos rfl)
      have HC := Lib.hid hcall
      rw [e1.out]
      clear hcall hg e1
      go_enter Tryz.func215, Tryz.ntmps215
      go_wp2
      go_quiet (first | (go_at_call 216; go_must (refine Calls.quiet_of_same (HC.out _))))
      go_wp2_with (go_at_call 36; go_must (refine (wd_fail K (h.ext ((Ext.refl w).drewN nq))).mono ?_); rintro e w1 ⟨rfl, h1, hT1⟩; rw [hf.out] at h1)
      go_ret
      exact ⟨rfl, h1, ((Touch9.refl w q).drewN nq).trans hT1⟩
  · have e1 : anyW most code B (i, e) = (0, (i, e)) := by unfold anyW; rw [if_neg he]
    rw [e1]
    go_enter Tryz.func215, Tryz.ntmps215
    go_wp2
    go_ret
    exact ⟨rfl, h, Touch9.refl w q⟩

set_option maxHeartbeats 400000 in
theorem wd_number {w : World} {q : Nat} {v : Value} {B : List UInt8} {s : Nat × Int} (h : WdAt w q v B s) :
    Calls Tryz.prog 213 #[.pointer (some ⟨q, 0, none⟩)] w fun e w' => e = .returned (.int .i64 ((numR B s).1 : Int)) ∧ WdAt w' q v B (numR B s).2 ∧ Touch9 w w' q := by
  have k := wd_any 1099511627776 6 (by decide) h
  rw [anyW_num] at k
  have K := Lib.hid k
  clear k
  go_enter Tryz.func213, Tryz.ntmps213
  go_wp2_with (go_at_call 215; go_must (refine K.out.mono ?_); rintro e w1 ⟨rfl, h1, hT1⟩)
  go_ret
  exact ⟨rfl, h1, hT1⟩

set_option maxRecDepth 100000 in
set_option maxHeartbeats 1000000 in
theorem wd_count {w : World} {q : Nat} {v : Value} {B : List UInt8} {s : Nat × Int} (h : WdAt w q v B s) :
    Calls Tryz.prog 210 #[.pointer (some ⟨q, 0, none⟩)] w fun e w' => e = .returned (.int .i64 ((cntR B s).1 : Int)) ∧ WdAt w' q v B (cntR B s).2 ∧ Touch9 w w' q := by
  have c0 := h.c0
  have c1 := h.c1
  have c2 := h.c2
  have hle := h.le
  have hbig := h.big
  obtain ⟨a, c, rfl, _⟩ := h.shape
  obtain ⟨i, e⟩ := s
  simp only at c1 c2 hle
  by_cases he : e = 0
  · subst he
    have hcn := anyW_cnt B (i, 0) rfl
    simp only at hcn
    have hnx : ∀ V N K, getNum B (i : Int) = (V, N, K) → (max 0 ((B.length : Int) - N)) = ((max 0 ((B.length : Int) - N)).toNat : Int) := fun V N K _ => by omega
    obtain ⟨V, N, K, hg⟩ : ∃ V N K, getNum B (i : Int) = (V, N, K) := ⟨_, _, _, rfl⟩
    rw [hg] at hcn
    simp only at hcn
    have hcall : ∀ n, Calls Tryz.prog 216 #[.slice a B.length c, .int .i64 (i : Int)] (w.drewN n) fun e w'' => e = .returned (.tuple #[.int .u64 (V : Int), .int .i64 N, .int .i64 K]) ∧ w'' = w.drewN n := fun n => by
      have hx := getNum_any (.slice a B.length c) B (i : Int) (w.drewN n) (h.bytes.ext ((Ext.refl w).drewN n)) (by omega)
      rw [hg] at hx
      exact hx.mono fun e w'' hh => ⟨hh.1, hh.2.symm⟩
    have hN : 0 ≤ N ∧ N ≤ 9223372036854775807 := by
      have h2 := getNumN_at (B := B) (i := i) (by omega)
      rw [← getNum_nat, hg] at h2
      simp only at h2
      omega
    obtain ⟨mo, hmo⟩ : ∃ mo : Nat, (mo : Int) = max 0 ((B.length : Int) - N) := ⟨(max 0 ((B.length : Int) - N)).toNat, by omega⟩
    have hmo2 : mo < 9223372036854775808 := by omega
    have hw : IntKind.u64.wrap (mo : Int) = (mo : Int) := by rw [IntKind.wrap_u64]; omega
    have ec : Hid (anyW mo 8 B (i, 0) = cntR B (i, 0)) := Lib.hid (by
      by_cases hK : K = 0
      · have hn := @getNumN_next B i
        rw [← getNum_nat, hg] at hn
        have hn := hn hK
        simp only at hn
        rw [← hcn]
        congr 1
        omega
      · unfold anyW cntR anyR
        simp [hg, hK])
    have HC := Lib.hid hcall
    have HM := Lib.hid hmo
    clear hcall hg hcn hnx
    go_enter Tryz.func210, Tryz.ntmps210
    go_wp2
    go_quiet (first | (go_at_call 216; go_must (refine Calls.quiet_of_same (HC.out _))))
    have h3 := h.ext ((Ext.refl w).drewN nq)
    have c0 := h3.c0
    go_wp2_with fail
    all_goals
      first
        | (rw [show (max (0 : Int) ((B.length : Int) - N)) = (mo : Int) by omega]
           refine (wd_any mo 8 hmo2 h3).mono ?_)
        | (rw [show (max ((B.length : Int) - N) (0 : Int)) = (mo : Int) by omega]
           refine (wd_any mo 8 hmo2 h3).mono ?_)
        | (have hm0 : mo = 0 := by omega
           subst hm0
           refine (wd_any 0 8 (by decide) h3).mono ?_)
        | (rw [show ((B.length : Int) - N) = (mo : Int) by omega]
           refine (wd_any mo 8 hmo2 h3).mono ?_)
      rintro e' w1 ⟨rfl, h1, hT1⟩
      rw [ec.out] at h1 ⊢
      go_wp2_with fail
      go_ret
      exact ⟨rfl, h1, ((Touch9.refl w q).drewN nq).trans hT1⟩
  · have e1 : cntR B (i, e) = (0, (i, e)) := cntR_no B (i, e) he
    have d0 : (e == 0) = false := by simpa using he
    rw [e1]
    clear e1
    go_enter Tryz.func210, Tryz.ntmps210
    go_wp2
    go_ret
    exact ⟨rfl, h, Touch9.refl w q⟩
set_option maxRecDepth 100000 in
set_option maxHeartbeats 2000000 in
theorem wd_text {w : World} {q : Nat} {v : Value} {B : List UInt8} {s : Nat × Int} (h : WdAt w q v B s) :
    Calls Tryz.prog 219 #[.pointer (some ⟨q, 0, none⟩)] w fun e w' => e = .returned (.string (txtR B s).1) ∧ WdAt w' q v B (txtR B s).2 ∧ Touch9 w w' q := by
  have hcl := cntR_le h.le
  have hA := wd_count h
  have hbig := h.big
  unfold txtR
  obtain ⟨N, i, e, hV⟩ : ∃ N i e, cntR B s = (N, i, e) := ⟨_, _, _, rfl⟩
  rw [hV] at hA hcl ⊢
  simp only at hA hcl ⊢
  have HA := Lib.hid hA
  obtain ⟨a, c, rfl, hlc, hcm, _⟩ := h.shape
  obtain ⟨X, hX⟩ : ∃ X, X = str ((B.drop i).take N) := ⟨_, rfl⟩
  rw [← hX]
  have HX := Lib.hid hX
  obtain ⟨j, hj⟩ : ∃ j : Nat, (i : Int) + (N : Int) = (j : Int) ∧ j = i + N := ⟨i + N, by omega, rfl⟩
  have hj1 := hj.1
  have hj2 := Lib.hid hj.2
  clear hA hV hX hj
  go_enter Tryz.func219, Tryz.ntmps219
  go_wp2_with (go_at_call 210; go_must (refine HA.out.mono ?_); rintro e w1 ⟨rfl, h1, hT1⟩; have c0 := h1.c0; have c1 : w1.cell? ⟨q, 1, none⟩ = some (.int .i64 (i : Int)) := h1.c1)
  refine wp_region_tab 17 [(1, fun v _ => v = .pointer (some ⟨q, 0, none⟩)), (5, fun v _ => v = .pointer (some ⟨q, 0, none⟩)), (9, fun v _ => v = .pointer (some ⟨q, 0, none⟩)), (14, fun v _ => v = subV a c i j), (15, fun v _ => v = .string X)] (by kernel_rfl) (by kernel_rfl) (by kernel_rfl) ⟨stays_eq _, stays_eq _, stays_eq _, stays_eq _, stays_eq _, trivial⟩ ?_
  replace c0 := held c0
  replace c1 := held c1
  refine rg_quiet rfl rfl rfl rfl ?_; intro K hK; go_big_quiet_op; go_big_quiet_on
  refine rg_val [] rfl rfl rfl (by kernel_rfl) (fun w1 hE hf => ?_) ?_
  · go_simp
    exact rg_done hE (Ext.refl w1) rfl
  simp only [Act.put, List.setIfInBounds_toArray, List.set_cons_zero, List.set_cons_succ]
  refine rg_quiet rfl rfl rfl rfl ?_; intro K hK; go_big_quiet_op; go_big_quiet_on
  refine rg_quiet rfl rfl rfl rfl ?_; intro K hK; go_big_quiet_op; go_big_quiet_on
  refine rg_quiet rfl rfl rfl rfl ?_; intro K hK; go_big_quiet_op; go_big_quiet_on
  refine rg_val [] rfl rfl rfl (by kernel_rfl) (fun w1 hE hf => ?_) ?_
  · go_simp
    exact rg_done hE (Ext.refl w1) rfl
  simp only [Act.put, List.setIfInBounds_toArray, List.set_cons_zero, List.set_cons_succ]
  refine rg_quiet rfl rfl rfl rfl ?_; intro K hK; go_big_quiet_op; go_big_quiet_on
  refine rg_quiet rfl rfl rfl rfl ?_; intro K hK; go_big_quiet_op; go_big_quiet_on
  refine rg_quiet rfl rfl rfl rfl ?_; intro K hK; go_big_quiet_op; go_big_quiet_on
  refine rg_val [] rfl rfl rfl (by kernel_rfl) (fun w1 hE hf => ?_) ?_
  · go_simp
    exact rg_done hE (Ext.refl w1) rfl
  simp only [Act.put, List.setIfInBounds_toArray, List.set_cons_zero, List.set_cons_succ]
  refine rg_quiet rfl rfl rfl rfl ?_; intro K hK; go_big_quiet_op; go_big_quiet_on
  refine rg_quiet rfl rfl rfl rfl ?_; intro K hK; go_big_quiet_op; go_big_quiet_on
  refine rg_quiet rfl rfl rfl rfl ?_; intro K hK; go_big_quiet_op; go_big_quiet_on
  refine rg_quiet rfl rfl rfl rfl ?_; intro K hK; go_big_quiet_op; go_big_quiet_on
  refine rg_val [] rfl rfl rfl (by kernel_rfl) (fun w1 hE hf => ?_) ?_
  · exact yields_sub (.tmp 10) (.tmp 14) (.tmp 20) rfl (n := B.length) (by rfl) (by rfl) (by rfl) (by rw [hj2.out]; omega) (by rw [hj2.out]; omega) hlc (rg_done hE (Ext.refl w1) rfl)
  simp only [Act.put, List.setIfInBounds_toArray, List.set_cons_zero, List.set_cons_succ]
  refine rg_val [] rfl rfl rfl (by kernel_rfl) (fun w1 hE hf => ?_) ?_
  · refine yields_convert_bytes 79 9 5 (.tmp 21) rfl und_bytes und_u8 und_string (l := (B.drop i).take N) ?_ ?_
    · have := sub_bytes (h1.bytes.ext hE) (lo := i) (hi := j) (by rw [hj2.out]; omega) (by rw [hj2.out]; omega)
      rw [show j - i = N by rw [hj2.out]; omega] at this
      exact this
    · rw [← HX.out]
      exact rg_done hE (Ext.refl w1) rfl
  simp only [Act.put, List.setIfInBounds_toArray, List.set_cons_zero, List.set_cons_succ]
  refine rg_quiet rfl rfl rfl rfl ?_; intro K hK; go_big_quiet_op; go_big_quiet_on
  refine rel_nil fun w2 hE2 hG => ?_
  clear hG c0 c1
  have h2 := h1.ext hE2
  have c1 : w2.cell? ⟨q, 1, none⟩ = some (.int .i64 (i : Int)) := h2.c1
  have f1 := h2.f1
  go_wp2_with fail
  go_ret
  rw [← hj2.out]
  exact ⟨rfl, h2.set1 j (by rw [hj2.out]; omega), (hT1.more hE2).put 1 _⟩

end Go.Proofs.YtfagnbofnaoncaaGreatDoor
