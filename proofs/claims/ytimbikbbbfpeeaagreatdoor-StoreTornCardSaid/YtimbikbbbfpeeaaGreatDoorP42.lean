/- store: (*Store).log: a record behind the log. -/
import Derived.Test.YtimbikbbbfpeeaaGreatDoorP38
import Derived.Test.YtimbikbbbfpeeaaGreatDoorP35
import Derived.Test.YtimbikbbbfpeeaaGreatDoorP41
import Derived.Test.YtimbikbbbfpeeaaGreatDoorP31
set_option linter.unusedSimpArgs false
set_option linter.unusedVariables false
namespace Go.Proofs.YtimbikbbbfpeeaaGreatDoor
open Go Go.RowKit
attribute [local go_sem] yields yUpon

section
variable {W0 w w' : World} {C : Nat} {s : Sto}
theorem StoAt.shelfT (h : StoAt W0 w C s) {log : ByteArray} {good : Nat} {F : Fl} {man : ByteArray} (hT : Touch w w' [s.pd, s.mf]) (hs : ShelfAt w' s.pd s.mf log good F man) : StoAt W0 w' C { s with log := log, good := good, F := F, man := man } := by
  have ha := h.apart
  have hno : ∀ e, 72 ≠ e → NoBox w [s.pd, s.mf] e := fun e he => (NoBox.box h.shelf.box he).cons (NoBox.files h.shelf.files e)
  refine ⟨h.tab, h.ext_touch hT fun b hb => .inl ?_, h.low, hT.box h.box ?_, hs, h.notes.touch hT ?_ ?_, h.tabs.touch hT (fun b hb hb' => ?_) (hno _ (by decide)) (hno _ (by decide)), hT.tin (hno _ (by decide)) h.fl, h.gn, h.full, h.len8, h.mfn, h.mft, h.mnt⟩
  · simp only [List.mem_cons, List.not_mem_nil, or_false] at hb
    unfold Sto.blocks
    rcases hb with rfl | rfl <;> simp
  · simp only [List.mem_cons, List.not_mem_nil, or_false, not_or]
    exact ⟨ha.1, ha.2.1⟩
  · simp only [List.mem_cons, List.not_mem_nil, or_false, not_or]
    exact ⟨fun e => ha.2.2.2.2.1 e.symm, ha.2.2.2.2.2.2.1⟩
  · simp only [List.mem_cons, List.not_mem_nil, or_false, not_or]
    exact ⟨fun e => ha.2.2.2.2.2.1 e.symm, fun e => h.mfn e.symm⟩
  · simp only [List.mem_cons, List.not_mem_nil, or_false] at hb'
    rcases hb' with rfl | rfl
    · exact ha.2.2.2.2.2.2.2.2.1 hb
    · exact h.mft hb
end
theorem Sto.pd_mem (s : Sto) : s.pd ∈ s.blocks := by unfold Sto.blocks; simp
theorem Sto.mf_mem (s : Sto) : s.mf ∈ s.blocks := by unfold Sto.blocks; simp
def PutF (n : Nat) (L : List UInt8) (v : Value) (y : World) : Prop := ∃ (a : Option Addr) (c : Nat), v = .slice a n c ∧ BytesIn y v L
theorem PutF.ext {n : Nat} {L : List UInt8} {v : Value} {x y : World} (hE : Ext x y) (h : PutF n L v x) : PutF n L v y := let ⟨a, c, e, h⟩ := h; ⟨a, c, e, h.ext hE⟩
theorem yields_subFrom {o : Oper} {a : Act} {w : World} {R : Value → World → Prop} (s x : Operand) (hop : o.op = Op.slice 61 s (some x) none none) {ad : Option Addr} {c lo : Nat} {l : List UInt8} (hs : a.eval s = .slice ad l.length c) (hx : a.eval x = .int .i64 (lo : Int))
    (h : BytesIn w (.slice ad l.length c) l) (h1 : lo ≤ l.length) (hR : ∀ u, BytesIn w u (l.drop lo) → R u w) : yields Tryz.prog o a w R := by
  have hlc : l.length ≤ c := by obtain ⟨a', c', e, hc, _⟩ := h; cases e; exact hc
  obtain ⟨v, hr, rfl⟩ := run_subFrom (ad := ad) h1 hlc w
  unfold yields execOp
  simp only [hop, Option.map_some, Option.map_none, hs, hx, Sem.run_bind, hr, Result.andThen_ok, Sem.run_pure]
  exact hR _ (by have := sub_bytes (hi := l.length) h h1 (Nat.le_refl _); rwa [List.take_of_length_le (by simp)] at this)
theorem yields_text {o : Oper} {a : Act} {w : World} {R : Value → World → Prop} (x : Operand) (hop : o.op = .convert 61 9 x) {l : List UInt8} (h : BytesIn w (a.eval x) l) (hR : R (.string (str l)) w) : yields Tryz.prog o a w R := by
  unfold yields execOp
  simp only [hop, Sem.run_bind, run_convert_bytesIn w 61 9 5 und_bytes und_u8 und_string h, Result.andThen_ok, Sem.run_pure]
  exact hR

set_option maxRecDepth 100000 in
set_option maxHeartbeats 4000000 in
theorem stlog_any (W0 w : World) (C : Nat) (s : Sto) (h : StoAt W0 w C s) (body : ByteArray) (hfit : s.log.size + (sput false s.log.size body.data.toList).length ≤ 262144) :
    Calls Tryz.prog 39 #[.pointer (some ⟨s.ps, 0, none⟩), .string body] w fun e w' => e = .returned (.int .i64 0) ∧ StoAt W0 w' C { s with log := s.log ++ str (sput false s.log.size body.data.toList) } ∧ Touch w w' [s.pd, s.mf] := by
  have hll : s.log.data.toList.length = s.log.size := by rw [Array.length_toList]; rfl
  have hp0 : w.cell? ⟨s.ps, 0, none⟩ = some (.pointer (some ⟨s.pd, 0, none⟩)) := by rw [h.box.cell]; rfl
  have hls := h.shelf.log_le
  obtain ⟨X, hX⟩ : ∃ X, X = sput false s.log.size body.data.toList := ⟨_, rfl⟩
  have hpos : 6 + body.data.toList.length ≤ X.length := by rw [hX]; exact sput_pos _ _ _
  have hbz : body.size ≤ 262144 := by
    have : body.data.toList.length = body.size := by rw [Array.length_toList]; rfl
    rw [← hX] at hfit; omega
  rw [← hX] at hfit ⊢
  obtain ⟨L, hL⟩ : ∃ L, L = s.log.data.toList ++ X := ⟨_, rfl⟩
  have hLl : L.length = s.log.size + X.length := by rw [hL, List.length_append, hll]
  have hLd : L.drop s.log.size = X := by rw [hL, ← hll, List.drop_left]
  have K1 : ∀ v w', BytesIn w' v s.log.data.toList → Calls Tryz.prog 68 #[v, .string body] w' fun e w'' => ∃ v', (e = .returned v' ∧ Ext w' w'') ∧ PutF L.length L v' w'' := fun v w' hv => by
    refine (put_gen v s.log.data.toList (by rw [hll]; omega) body (by omega) w' hv).mono ?_
    rintro e w'' ⟨v', ⟨he, hx⟩, ho⟩
    rw [hll, ← hX, ← hL] at ho
    obtain ⟨a, c, e2, _⟩ := ho.bytes
    exact ⟨v', ⟨he, hx⟩, a, c, e2, ho.bytes⟩
  have HK1 := Lib.hid K1
  have HLD := Lib.hid hLd
  have hsh := h.shelf
  obtain ⟨N, hN⟩ : ∃ N, N = L.length := ⟨_, rfl⟩
  have HN := Lib.hid hN
  have HLL := Lib.hid hLl
  clear K1 hX hL hll hLd hLl
  rw [← hN] at HK1
  clear hN
  have hlog := sh_log w hsh
  go_enter Tryz.func39, Tryz.ntmps39
  go_wp2_with (first
    | (go_at_call 13; go_must (refine hlog.mono ?_); rintro e w1 ⟨rfl, rfl⟩)
    | ((guard_target =~ wpList _ _ _ (Oper.mk (some 11) _ _ _ _ _ :: _) _ _); go_must (refine wpList_strB (by rfl) (.tmp 10) rfl rfl (by unfold maxLen; omega) ?_); intro c2 w2 hby hE2 hsz2))
  have HS := Lib.hid (h.ext hE2)
  have hp2 := hE2.cell hp0
  have hlz : s.log.size ≤ N := by rw [HN.out, HLL.out]; omega
  have HF := Lib.hid hfit
  have HLZ := Lib.hid hlz
  clear hsh hlog h hfit hpos hlz hp0
  obtain ⟨ln, hln⟩ : ∃ n, n = s.log.size := ⟨_, rfl⟩
  have HLN := Lib.hid hln
  rw [← hln] at hby HLD HLL HLZ hls ⊢
  clear hln
  refine wp_region_tab 11 [(1, fun v _ => v = .pointer (some ⟨s.ps, 0, none⟩)), (6, fun v y => PutF N L v y), (9, fun v y => BytesIn y v X), (10, fun v _ => v = .string (str X))] (by kernel_rfl) (by kernel_rfl) (by kernel_rfl) ⟨stays_eq _, (fun _ _ _ hE h => h.ext hE), (fun _ _ _ hE h => h.ext hE), stays_eq _, trivial⟩ ?_
  have z0 := held hp2
  refine rg_quiet rfl rfl rfl rfl ?_; intro K hK; go_big_quiet_op; go_big_quiet_on
  refine rg_val [] rfl rfl rfl (by kernel_rfl) (fun w1 hE hf => ?_) ?_
  · go_simp
    exact rg_done hE (Ext.refl w1) rfl
  simp only [Act.put, List.setIfInBounds_toArray, List.set_cons_zero, List.set_cons_succ]
  refine rg_quiet rfl rfl rfl rfl ?_; intro K hK; go_big_quiet_op; go_big_quiet_on
  refine rg_quiet rfl rfl rfl rfl ?_; intro K hK; go_big_quiet_op; go_big_quiet_on
  refine rg_quiet rfl rfl rfl rfl ?_; intro K hK; go_big_quiet_op; go_big_quiet_on
  refine rg_quiet rfl rfl rfl rfl ?_; intro K hK; go_big_quiet_op; go_big_quiet_on
  refine rg_fact [] rfl rfl rfl (by kernel_rfl) (fun y hY hf => ?_) (fun v6 y6 hE6 hG6 h6 => ?_)
  · go_simp
    exact (HK1.out _ y (hby.ext hY)).mono fun e w' ⟨v', ⟨he, hx⟩, hp⟩ => ⟨v', he, rg_doneR hY hx hp⟩
  obtain ⟨a6, c6, rfl, _⟩ := h6
  clear hE6 hG6
  simp only [Act.put, List.setIfInBounds_toArray, List.set_cons_zero, List.set_cons_succ]
  refine rg_quiet rfl rfl rfl rfl ?_; intro K hK; go_big_quiet_op; go_big_quiet_on
  refine rg_quiet rfl rfl rfl rfl ?_; intro K hK; go_big_quiet_op; go_big_quiet_on
  refine rg_fact [6] rfl rfl rfl (by kernel_rfl) (fun y hY hf => ?_) (fun v9 y9 hE9 hG9 h9 => ?_)
  · obtain ⟨a', c', e', hb'⟩ := (hf 6 (by simp)).2 rfl
    cases e'
    refine yields_subFrom (.tmp 18) (.tmp 20) rfl (l := L) (lo := ln) (congrArg (fun q => Value.slice a6 q c6) HN.out) rfl (by rw [← HN.out]; exact hb') (by rw [← HN.out]; exact HLZ.out) (fun u hu => ?_)
    rw [HLD.out] at hu
    exact rg_doneR hY (Ext.refl y) hu
  clear hE9 hG9 h9
  simp only [Act.put, List.setIfInBounds_toArray, List.set_cons_zero, List.set_cons_succ]
  refine rg_val [9] rfl rfl rfl (by kernel_rfl) (fun y hY hf => ?_) ?_
  · have hb' := (hf 9 (by simp)).2 rfl
    exact yields_text (.tmp 21) rfl hb' (rg_done hY (Ext.refl y) rfl)
  simp only [Act.put, List.setIfInBounds_toArray, List.set_cons_zero, List.set_cons_succ]
  refine rel_tail rfl rfl fun w3 hE3 hG => ?_
  clear hG z0
  have hS3 := HS.out.ext hE3
  have hX : (str X).size = X.length := str_size X
  have HXS := Lib.hid hX
  clear hX
  have hap := sh_append (str X) (by rw [HXS.out]; have := HF.out; unfold maxLen; omega) w3 hS3.shelf
  rw [if_pos (by rw [HXS.out]; exact HF.out), if_pos (by rw [HXS.out]; exact HF.out)] at hap
  go_wp2_with (go_at_call 14; go_must (refine hap.mono ?_); rintro e w4 ⟨⟨rfl, ht4⟩, hs4⟩)
  go_ret
  refine ⟨rfl, hS3.shelfT (ht4.mono (by simp)) hs4, ((Touch.of_ext (hE2.trans hE3) []).trans ht4).mono (by simp)⟩
end Go.Proofs.YtimbikbbbfpeeaaGreatDoor

/- pack.Batch of any batch. -/
namespace Go.Proofs.YtimbikbbbfpeeaaGreatDoor
open Go Go.RowKit
attribute [local go_sem] yields yUpon
set_option maxRecDepth 100000 in
set_option maxHeartbeats 2000000 in
theorem batch_bad (vm va vd : Value) (M : List Mt) (A : List Nt) (D : List Int) (w : World) (hT : TabU w) (hM : MtsIn w vm M) (hA : NtsIn w va A) (hD : IntsIn w vd .i64 D) (hMb : ∀ x ∈ M, x.table.size ≤ 1000000 ∧ ∀ p ∈ x.pa.ps, ∀ c ∈ p.1.cols, c.name.size ≤ 1000000) (hAb : ∀ x ∈ A, x.body.size ≤ 1000000) (hc : cbG M A D = false) :
    Calls Tryz.prog 37 #[.agg #[vm, va, vd]] w fun e w' => e = .returned (.tuple #[.slice none 0 0, .int .i64 1]) ∧ Ext w w' := by
  have hE0 := (Ext.refl w).alloc (.cells #[vm, va, vd] 37)
  obtain ⟨am, cm, rfl, _⟩ := hM.get
  obtain ⟨aa, ca, rfl, _⟩ := hA.get
  have hD' := hD
  obtain ⟨ad, cd, rfl, _⟩ := hD'
  have HC := Lib.hid hc
  have HMb := Lib.hid hMb
  have HAb := Lib.hid hAb
  clear hc hMb hAb
  go_enter Tryz.func37, Tryz.ntmps37
  go_wp2_with (go_at_call 36; go_must (refine (cb_gen _ _ _ M A D _ (hT.ext hE0) (hM.ext hE0) (hA.ext hE0) (hD.ext hE0) HMb.out HAb.out).mono ?_); rintro e w1 ⟨rfl, hE1⟩; rw [HC.out])
  go_ret2
  exact ⟨rfl, hE0.trans hE1⟩

set_option maxRecDepth 100000 in
set_option maxHeartbeats 8000000 in
theorem batch_good (vm va vd : Value) (M : List Mt) (A : List Nt) (D : List Int) (w : World) (hT : TabU w) (hM : MtsIn w vm M) (hA : NtsIn w va A) (hD : IntsIn w vd .i64 D) (hMb : ∀ x ∈ M, x.table.size ≤ 1000000 ∧ ∀ p ∈ x.pa.ps, ∀ c ∈ p.1.cols, c.name.size ≤ 1000000) (hAb : ∀ x ∈ A, x.body.size ≤ 1000000) (hc : cbG M A D = true) :
    Calls Tryz.prog 37 #[.agg #[vm, va, vd]] w fun e w' => ∃ v', e = .returned (.tuple #[v', .int .i64 (batR M A D).2]) ∧ OwnB w' w.heap.size v' (batR M A D).1 ∧ Ext w w' := by
  have hE0 := (Ext.refl w).alloc (.cells #[vm, va, vd] 37)
  have hbx := BoxAt.made w #[vm, va, vd] 37
  have HROW := Lib.hid hM.rows
  obtain ⟨am, cm, rfl, hcm, hcmm, hgm⟩ := hM.get
  obtain ⟨aa, ca, rfl, hca, hcma, hga⟩ := hA.get
  have hD' := hD
  obtain ⟨ad, cd, rfl, hcd, hcmd, _, hgd⟩ := hD'
  unfold maxLen at hcmd
  have hcp := hc
  unfold cbG at hcp
  simp only [Bool.and_eq_true, decide_eq_true_eq, List.all_eq_true] at hcp
  obtain ⟨⟨⟨⟨⟨z1, z2⟩, z3⟩, hMo⟩, hAo⟩, hDo⟩ := hcp
  have HGM := Lib.hid hgm
  have HGA := Lib.hid hga
  have HGD := Lib.hid hgd
  have HC := Lib.hid hc
  have HMB := Lib.hid hMo
  have HAB := Lib.hid hAo
  have HDB := Lib.hid hDo
  have HCB := fun (w1 : World) (hE : Ext w w1) => Lib.hid (cb_gen _ _ _ M A D w1 (hT.ext hE) (hM.ext hE) (hA.ext hE) (hD.ext hE) hMb hAb)
  obtain ⟨RB, hRB⟩ : ∃ R, R = batR M A D := ⟨_, rfl⟩
  rw [← hRB]
  have HBR : Hid (RB = if (batP M A D).length ≤ 262144 then (batP M A D, 0) else ([], 2)) := Lib.hid (by rw [hRB]; unfold batR; rw [hc]; rfl)
  clear hRB
  clear hgm hga hgd hc hMb hAb hMo hAo hDo hT hM hA hD
  obtain ⟨mn, hmn⟩ : ∃ n, n = M.length := ⟨_, rfl⟩
  obtain ⟨an, han⟩ : ∃ n, n = A.length := ⟨_, rfl⟩
  obtain ⟨dn, hdn⟩ : ∃ n, n = D.length := ⟨_, rfl⟩
  rw [← hmn] at hcm z1 hbx hE0 ⊢
  rw [← han] at hca z2 hbx hE0 ⊢
  rw [← hdn] at hcd z3 hbx hE0 ⊢
  rw [← hmn, ← han, ← hdn] at HCB
  have HMN := Lib.hid hmn
  have HAN := Lib.hid han
  have HDN := Lib.hid hdn
  have HMT := Lib.hid (fun k (hk : k ≤ 64) => flat_takeLe (f := mutP) (l := M) (k := k) (m := 64) (fun m hm => mutP_le (HMB.out m hm)) hk)
  have HAT := Lib.hid (fun k (hk : k ≤ 300) => flat_takeLe (f := notP) (l := A) (k := k) (m := 300) (fun m hm => notP_le (HAB.out m hm)) hk)
  have HDT := Lib.hid (fun k (hk : k ≤ 300) => flat_takeLe (f := fun d : Int => num d.toNat) (l := D) (k := k) (m := 300) (n := 9) (fun d hd => num_length (by have := HDB.out d hd; unfold idB at this; simp at this; omega)) hk)
  obtain ⟨B0, hB0⟩ : ∃ B, B = num mn := ⟨_, rfl⟩
  have hB0l : B0.length ≤ 9 := by rw [hB0]; exact num_length (by omega)
  obtain ⟨B1, hB1⟩ : ∃ B, B = B0 ++ M.flatMap mutP ++ num an := ⟨_, rfl⟩
  have hB1l : B1.length ≤ 123000000 := by
    have h1 := HMT.out 64 (Nat.le_refl _)
    rw [List.take_of_length_le (by omega)] at h1
    have h2 := num_length (x := an) (by omega)
    rw [hB1]; simp only [List.length_append]; omega
  obtain ⟨B2, hB2⟩ : ∃ B, B = B1 ++ A.flatMap notP ++ num dn := ⟨_, rfl⟩
  have hB2l : B2.length ≤ 125000000 := by
    have h1 := HAT.out 300 (Nat.le_refl _)
    rw [List.take_of_length_le (by omega)] at h1
    have h2 := num_length (x := dn) (by omega)
    rw [hB2]; simp only [List.length_append]; omega
  have HBP : Hid (batP M A D = B2 ++ D.flatMap fun d => num d.toNat) := Lib.hid (by rw [hB2, hB1, hB0, hmn, han, hdn]; unfold batP; simp only [List.append_assoc])
  have H0 := Lib.hid hB0
  have H1 := Lib.hid hB1
  have H2 := Lib.hid hB2
  clear hmn han hdn hB0 hB1 hB2
  go_enter Tryz.func37, Tryz.ntmps37
  go_wp2_with (first
    | (go_at_call 36; go_must (refine (HCB _ hE0).out.mono ?_); rintro e w1 ⟨rfl, hE1⟩; rw [HC.out]; have hb1 := hbx.ext hE1; have c0 : w1.cell? ⟨w.heap.size, 0, none⟩ = some (.slice am mn cm) := hb1.cell 0)
    | (go_at_call 74; go_must (refine (pk_number _ [] (mn : Int) (by omega) (by omega) w1 (SliceIn.nil _) (by simp)).mono ?_); rintro e w2 ⟨v2, rfl, ho2, hE2⟩; rw [List.nil_append, Int.toNat_natCast, ← H0.out] at ho2; have hb2 := hb1.ext hE2; have d0 : w2.cell? ⟨w.heap.size, 0, none⟩ = some (.slice am mn cm) := hb2.cell 0))
  have hEw2 := (hE0.trans hE1).trans hE2
  clear c0 d0
  replace ho2 := OwnB.base ho2 (hE0.trans hE1).le
  go_loopw [4, 21] (fun o i wr => ∃ k : Nat, k ≤ mn ∧ i = .int .i64 (k : Int) ∧ OwnB wr w.heap.size o (B0 ++ (M.take k).flatMap mutP) ∧ Ext w2 wr) (fun _ i _ => mn - (intOf i).toNat)
  case atStart => exact ⟨0, Nat.zero_le _, rfl, by simpa using ho2, Ext.refl w2⟩
  case round =>
    rename_i o0 _ _
    obtain ⟨k, hk, rfl, hF, hE⟩ := hrel
    have hEw := hEw2.trans hE
    by_cases hlt : k < mn
    · have hkF : k < M.length := by rw [← HMN.out]; exact hlt
      obtain ⟨b, o, rfl, ⟨g0, g1, g2, g3⟩⟩ := HGM.out k hkF
      obtain ⟨ra, rc, hrv⟩ : ∃ a c, (M[k]).pa.rv = .slice a (M[k]).pa.ps.length c := let ⟨a, c, e, _⟩ := (HROW.out _ (List.getElem_mem hkF)).get; ⟨a, c, e⟩
      have hrw := HROW.out _ (List.getElem_mem hkF)
      rw [hrv] at g3 hrw
      replace g0 := hEw.cell g0
      replace g1 := hEw.cell g1
      replace g2 := hEw.cell g2
      replace g3 := hEw.cell g3
      have hok := HMB.out _ (List.getElem_mem hkF)
      unfold okMt at hok
      simp only [Bool.and_eq_true] at hok
      have htl := HMT.out k (by omega)
      have htk : Hid (B0 ++ (M.take (k + 1)).flatMap mutP = B0 ++ (M.take k).flatMap mutP ++ num (M[k]).table.size ++ (M[k]).table.data.toList ++ num (wholeP (M[k]).pa.key (M[k]).pa.gone ((M[k]).pa.ps.map (·.1))).length ++ wholeP (M[k]).pa.key (M[k]).pa.gone ((M[k]).pa.ps.map (·.1))) := Lib.hid (by
        rw [flat_take (f := mutP) (List.drop_eq_getElem_cons hkF)]
        unfold mutP mutQ
        simp only [List.append_assoc])
      obtain ⟨N1, hN1⟩ : ∃ N, N = B0 ++ (M.take (k + 1)).flatMap mutP := ⟨_, rfl⟩
      rw [← hN1] at htk
      have HN1 := Lib.hid hN1
      clear hN1
      obtain ⟨t, ht⟩ : ∃ t, t = (M[k]).table := ⟨_, rfl⟩
      obtain ⟨ky, hky⟩ : ∃ t, t = (M[k]).pa.key := ⟨_, rfl⟩
      obtain ⟨gn, hgn⟩ : ∃ t, t = (M[k]).pa.gone := ⟨_, rfl⟩
      obtain ⟨ps, hps⟩ : ∃ t, t = (M[k]).pa.ps := ⟨_, rfl⟩
      rw [← ht] at g0 hok htk
      rw [← hky] at g1 hok htk
      rw [← hgn] at g2 hok htk
      rw [← hps] at g3 hrw hok htk
      obtain ⟨rn, hrn⟩ : ∃ n, n = ps.length := ⟨_, rfl⟩
      rw [← hrn] at g3 hrw
      have q1 := nameB_size hok.1
      have HOP := Lib.hid (ptB_ok hok.2)
      have hwl := wholeP_le8 hok.2
      clear ht hky hgn hps hrv hrn hok
      have hEb := (Ext.refl wr).alloc (.cells #[.string t, .string ky, .int .i64 gn, .slice ra rn rc] 54)
      have hbm := BoxAt.made wr #[.string t, .string ky, .int .i64 gn, .slice ra rn rc] 54
      have hFb := hF.ext hEb
      have hEwb := hEw.trans hEb
      obtain ⟨Wh, hWh⟩ : ∃ L, L = wholeP ky gn (ps.map (·.1)) := ⟨_, rfl⟩
      have hws : (str Wh).size = Wh.length := str_size _
      have HWH := Lib.hid hWh
      rw [← hWh] at hwl htk
      obtain ⟨L, hL⟩ : ∃ L, L = B0 ++ (M.take k).flatMap mutP := ⟨_, rfl⟩
      have hLl : L.length ≤ 123000000 := by rw [hL, List.length_append]; omega
      rw [← hL] at hFb htk
      obtain ⟨L1, hL1⟩ : ∃ X, X = L ++ num t.size ++ t.data.toList := ⟨_, rfl⟩
      have hL1l : L1.length ≤ 123000200 := by
        have := num_length (x := t.size) (by omega)
        rw [hL1]; simp only [List.length_append, dat_size]; omega
      have HL1 := Lib.hid hL1
      rw [← hL1] at htk
      have t1 : decide ((k : Int) < (mn : Int)) = true := by simp; omega
      clear hWh hL hL1 htl
      go_wp2_with fail
      refine wp_region_tab 10 [(3, fun v x => OwnB x w.heap.size v L1), (6, fun v x => OwnB x w.heap.size v Wh), (7, fun v _ => v = .string (str Wh)), (8, fun v x => OwnB x w.heap.size v N1)] (by kernel_rfl) (by kernel_rfl) (by kernel_rfl) ⟨fun _ _ _ hE h => OwnB.ext h hE, fun _ _ _ hE h => OwnB.ext h hE, stays_eq _, fun _ _ _ hE h => OwnB.ext h hE, trivial⟩ ?_
      have x0 := held (show (wr.alloc (.cells #[.string t, .string ky, .int .i64 gn, .slice ra rn rc] 54)).cell? ⟨wr.heap.size, 0, none⟩ = some (.string t) from hbm.cell 0)
      have x1 := held (show (wr.alloc (.cells #[.string t, .string ky, .int .i64 gn, .slice ra rn rc] 54)).cell? ⟨wr.heap.size, 1, none⟩ = some (.string ky) from hbm.cell 1)
      have x2 := held (show (wr.alloc (.cells #[.string t, .string ky, .int .i64 gn, .slice ra rn rc] 54)).cell? ⟨wr.heap.size, 2, none⟩ = some (.int .i64 gn) from hbm.cell 2)
      have x3 := held (show (wr.alloc (.cells #[.string t, .string ky, .int .i64 gn, .slice ra rn rc] 54)).cell? ⟨wr.heap.size, 3, none⟩ = some (.slice ra rn rc) from hbm.cell 3)
      refine rg_quiet rfl rfl rfl rfl ?_; intro K hK; go_big_quiet_op; go_big_quiet_on
      refine rg_quiet rfl rfl rfl rfl ?_; intro K hK; go_big_quiet_op; go_big_quiet_on
      refine rg_quiet rfl rfl rfl rfl ?_; intro K hK; go_big_quiet_op; go_big_quiet_on
      refine rg_fact [] rfl rfl rfl (by kernel_rfl) (fun y hE hf => ?_) (fun v3 y3 hE3 hG3 h3 => ?_)
      · go_simp
        refine (pk_text _ L t (by omega) y (OwnB.bytes (hFb.ext hE)) (by omega)).mono ?_
        rintro e w' ⟨v', rfl, ho, hw⟩
        exact ⟨_, rfl, rg_doneR hE hw (by rw [HL1.out]; exact ho.base (hEwb.trans hE).le)⟩
      obtain ⟨a3, n3, rfl⟩ := ownB_shapeP h3
      clear hE3 hG3 h3
      simp only [Act.put, List.setIfInBounds_toArray, List.set_cons_zero, List.set_cons_succ]
      refine rg_quiet rfl rfl rfl rfl ?_; intro K hK; go_big_quiet_op; go_big_quiet_on
      refine rg_quiet rfl rfl rfl rfl ?_; intro K hK; go_big_quiet_op; go_big_quiet_on
      refine rg_fact [] rfl rfl rfl (by kernel_rfl) (fun y hE hf => ?_) (fun v6 y6 hE6 hG6 h6 => ?_)
      · go_simp
        refine (pk_whole ky gn _ ps HOP.out y (hrw.ext (hEwb.trans hE))).mono ?_
        rintro e w' ⟨v', rfl, ho, hw⟩
        exact ⟨_, rfl, rg_doneR hE hw (by rw [HWH.out]; exact ho.base (hEwb.trans hE).le)⟩
      obtain ⟨a6, n6, rfl⟩ := ownB_shapeP h6
      clear hE6 hG6 h6
      simp only [Act.put, List.setIfInBounds_toArray, List.set_cons_zero, List.set_cons_succ]
      refine rg_text [6] 61 9 5 (.tmp 31) Wh rfl rfl rfl rfl (by kernel_rfl) und_bytes und_u8 und_string (fun y hE hf => OwnB.bytes ((hf 6 (by simp)).2 rfl)) ?_
      simp only [Act.put, List.setIfInBounds_toArray, List.set_cons_zero, List.set_cons_succ]
      refine rg_fact [3] rfl rfl rfl (by kernel_rfl) (fun y hE hf => ?_) (fun v8 y8 hE8 hG8 h8 => ?_)
      · have h3 := (hf 3 (by simp)).1.2 rfl
        go_simp
        refine (pk_text _ L1 (str Wh) (by omega) y (OwnB.bytes h3) (by omega)).mono ?_
        rintro e w' ⟨v', rfl, ho, hw⟩
        rw [hws] at ho
        exact ⟨_, rfl, rg_doneR hE hw (by rw [htk.out]; exact ho.base (hEwb.trans hE).le)⟩
      clear hE8 hG8 h8
      simp only [Act.put, List.setIfInBounds_toArray, List.set_cons_zero, List.set_cons_succ]
      refine rg_quiet rfl rfl rfl rfl ?_; intro K hK; go_big_quiet_op; go_big_quiet_on
      refine rel_nil fun w5 hE5 hG => ?_
      have h8 := (hG 8).2 rfl
      clear x0 x1 x2 x3 hG
      go_wp2_with fail
      go_roundw
      case rel => exact ⟨k + 1, by omega, by go_num, by rw [← HN1.out]; exact h8, (hE.trans hEb).trans hE5⟩
      case measure => simp [intOf]; omega
    · obtain rfl : k = mn := by omega
      have hb3 := hb2.ext hE
      have c1 : wr.cell? ⟨w.heap.size, 1, none⟩ = some (.slice aa an ca) := hb3.cell 1
      rw [List.take_of_length_le (by rw [HMN.out]; exact Nat.le_refl _)] at hF
      obtain ⟨L, hL⟩ : ∃ L, L = B0 ++ M.flatMap mutP := ⟨_, rfl⟩
      have hLl : L.length ≤ 123000000 := by
        have h1 := HMT.out 64 (Nat.le_refl _)
        rw [List.take_of_length_le (by rw [← HMN.out]; omega)] at h1
        rw [hL, List.length_append]; omega
      rw [← hL] at hF
      have HL := Lib.hid hL
      clear hL
      go_wp2_with (go_at_call 74; go_must (refine (pk_number _ L (an : Int) (by omega) (by omega) wr (OwnB.bytes hF) (by omega)).mono ?_); rintro e w3 ⟨v3, rfl, ho3, hE3⟩; rw [Int.toNat_natCast, HL.out, ← H1.out] at ho3; have hb4 := hb3.ext hE3; have d1 : w3.cell? ⟨w.heap.size, 1, none⟩ = some (.slice aa an ca) := hb4.cell 1)
      have hEw3 := hEw.trans hE3
      replace ho3 := OwnB.base ho3 hEw.le
      clear c1 d1
      go_loopw [4, 43] (fun o i wr => ∃ k : Nat, k ≤ an ∧ i = .int .i64 (k : Int) ∧ OwnB wr w.heap.size o (B1 ++ (A.take k).flatMap notP) ∧ Ext w3 wr) (fun _ i _ => an - (intOf i).toNat)
      case atStart => exact ⟨0, Nat.zero_le _, rfl, by simpa using ho3, Ext.refl w3⟩
      case round =>
        obtain ⟨j, hj, rfl, hF2, hE4⟩ := hrel
        have hEv := hEw3.trans hE4
        by_cases hlt2 : j < an
        · have hkF : j < A.length := by rw [← HAN.out]; exact hlt2
          obtain ⟨b, o, rfl, g0, g1⟩ := HGA.out j hkF
          replace g0 := hEv.cell g0
          replace g1 := hEv.cell g1
          have hok := HAB.out _ (List.getElem_mem hkF)
          unfold okNt idB at hok
          simp only [Bool.and_eq_true, decide_eq_true_eq] at hok
          have htl := HAT.out j (by omega)
          have htk : Hid (B1 ++ (A.take (j + 1)).flatMap notP = B1 ++ (A.take j).flatMap notP ++ num (A[j]).id.toNat ++ num (A[j]).body.size ++ (A[j]).body.data.toList) := Lib.hid (by
            rw [flat_take (f := notP) (List.drop_eq_getElem_cons hkF)]
            unfold notP
            simp only [List.append_assoc])
          obtain ⟨N1, hN1⟩ : ∃ N, N = B1 ++ (A.take (j + 1)).flatMap notP := ⟨_, rfl⟩
          rw [← hN1] at htk
          have HN1 := Lib.hid hN1
          clear hN1
          obtain ⟨x, hx⟩ : ∃ t, t = (A[j]).id := ⟨_, rfl⟩
          obtain ⟨bd, hbd⟩ : ∃ t, t = (A[j]).body := ⟨_, rfl⟩
          rw [← hx] at g0 hok htk
          rw [← hbd] at g1 hok htk
          clear hx hbd
          obtain ⟨⟨q1, q2⟩, q3⟩ := hok
          have hEb := (Ext.refl wr).alloc (.cells #[.int .i64 x, .string bd] 32)
          have hbn := BoxAt.made wr #[.int .i64 x, .string bd] 32
          have hFb := hF2.ext hEb
          have hEvb := hEv.trans hEb
          obtain ⟨L2, hL2⟩ : ∃ L, L = B1 ++ (A.take j).flatMap notP := ⟨_, rfl⟩
          have hL2l : L2.length ≤ 125000000 := by rw [hL2, List.length_append]; omega
          rw [← hL2] at hFb htk
          obtain ⟨L1, hL1⟩ : ∃ X, X = L2 ++ num x.toNat := ⟨_, rfl⟩
          have hL1l : L1.length ≤ 125000200 := by
            have := num_length (x := x.toNat) (by omega)
            rw [hL1]; simp only [List.length_append]; omega
          have HL1 := Lib.hid hL1
          rw [← hL1] at htk
          have t1 : decide ((j : Int) < (an : Int)) = true := by simp; omega
          clear hL2 hL1 htl
          go_wp2_with fail
          refine wp_region_tab 8 [(3, fun v x => OwnB x w.heap.size v L1), (6, fun v x => OwnB x w.heap.size v N1)] (by kernel_rfl) (by kernel_rfl) (by kernel_rfl) ⟨fun _ _ _ hE h => OwnB.ext h hE, fun _ _ _ hE h => OwnB.ext h hE, trivial⟩ ?_
          have x0 := held (show (wr.alloc (.cells #[.int .i64 x, .string bd] 32)).cell? ⟨wr.heap.size, 0, none⟩ = some (.int .i64 x) from hbn.cell 0)
          have x1 := held (show (wr.alloc (.cells #[.int .i64 x, .string bd] 32)).cell? ⟨wr.heap.size, 1, none⟩ = some (.string bd) from hbn.cell 1)
          refine rg_quiet rfl rfl rfl rfl ?_; intro K hK; go_big_quiet_op; go_big_quiet_on
          refine rg_quiet rfl rfl rfl rfl ?_; intro K hK; go_big_quiet_op; go_big_quiet_on
          refine rg_quiet rfl rfl rfl rfl ?_; intro K hK; go_big_quiet_op; go_big_quiet_on
          refine rg_fact [] rfl rfl rfl (by kernel_rfl) (fun y hE hf => ?_) (fun v3 y3 hE3 hG3 h3 => ?_)
          · go_simp
            refine (pk_number _ L2 x (by omega) (by omega) y (OwnB.bytes (hFb.ext hE)) (by omega)).mono ?_
            rintro e w' ⟨v', rfl, ho, hw⟩
            exact ⟨_, rfl, rg_doneR hE hw (by rw [HL1.out]; exact ho.base (hEvb.trans hE).le)⟩
          clear hE3 hG3 h3
          simp only [Act.put, List.setIfInBounds_toArray, List.set_cons_zero, List.set_cons_succ]
          refine rg_quiet rfl rfl rfl rfl ?_; intro K hK; go_big_quiet_op; go_big_quiet_on
          refine rg_quiet rfl rfl rfl rfl ?_; intro K hK; go_big_quiet_op; go_big_quiet_on
          refine rg_fact [3] rfl rfl rfl (by kernel_rfl) (fun y hE hf => ?_) (fun v6 y6 hE6 hG6 h6 => ?_)
          · have h3 := (hf 3 (by simp)).2 rfl
            go_simp
            refine (pk_text _ L1 bd (by omega) y (OwnB.bytes h3) (by omega)).mono ?_
            rintro e w' ⟨v', rfl, ho, hw⟩
            exact ⟨_, rfl, rg_doneR hE hw (by rw [htk.out]; exact ho.base (hEvb.trans hE).le)⟩
          clear hE6 hG6 h6
          simp only [Act.put, List.setIfInBounds_toArray, List.set_cons_zero, List.set_cons_succ]
          refine rg_quiet rfl rfl rfl rfl ?_; intro K hK; go_big_quiet_op; go_big_quiet_on
          refine rel_nil fun w5 hE5 hG => ?_
          have h6 := (hG 6).2 rfl
          clear x0 x1 hG
          go_wp2_with fail
          go_roundw
          case rel => exact ⟨j + 1, by omega, by go_num, by rw [← HN1.out]; exact h6, (hE4.trans hEb).trans hE5⟩
          case measure => simp [intOf]; omega
        · obtain rfl : j = an := by omega
          have hb5 := hb4.ext hE4
          have c2 : wr.cell? ⟨w.heap.size, 2, none⟩ = some (.slice ad dn cd) := hb5.cell 2
          rw [List.take_of_length_le (by rw [HAN.out]; exact Nat.le_refl _)] at hF2
          obtain ⟨L2, hL2⟩ : ∃ L, L = B1 ++ A.flatMap notP := ⟨_, rfl⟩
          have hL2l : L2.length ≤ 125000000 := by
            have h1 := HAT.out 300 (Nat.le_refl _)
            rw [List.take_of_length_le (by rw [← HAN.out]; omega)] at h1
            rw [hL2, List.length_append]; omega
          rw [← hL2] at hF2
          have HL2 := Lib.hid hL2
          clear hL2
          go_wp2_with (go_at_call 74; go_must (refine (pk_number _ L2 (dn : Int) (by omega) (by omega) wr (OwnB.bytes hF2) (by omega)).mono ?_); rintro e w4 ⟨v4, rfl, ho4, hE5⟩; rw [Int.toNat_natCast, HL2.out, ← H2.out] at ho4; have hb6 := hb5.ext hE5; have d2 : w4.cell? ⟨w.heap.size, 2, none⟩ = some (.slice ad dn cd) := hb6.cell 2)
          have hEw4 := hEv.trans hE5
          replace ho4 := OwnB.base ho4 hEv.le
          clear c2 d2
          go_loopw [4, 63] (fun o i wr => ∃ k : Nat, k ≤ dn ∧ i = .int .i64 (k : Int) ∧ OwnB wr w.heap.size o (B2 ++ (D.take k).flatMap fun d => num d.toNat) ∧ Ext w4 wr) (fun _ i _ => dn - (intOf i).toNat)
          case atStart => exact ⟨0, Nat.zero_le _, rfl, by simpa using ho4, Ext.refl w4⟩
          case round =>
            obtain ⟨d, hd, rfl, hF3, hE6⟩ := hrel
            have hEu := hEw4.trans hE6
            by_cases hlt3 : d < dn
            · have hkF : d < D.length := by rw [← HDN.out]; exact hlt3
              obtain ⟨b, o, rfl, g0⟩ := HGD.out d (.int .i64 D[d]) (by rw [kcells_get, List.getElem?_eq_getElem hkF]; rfl)
              replace g0 := hEu.cell g0
              have hok := HDB.out _ (List.getElem_mem hkF)
              unfold idB at hok
              simp only [Bool.and_eq_true, decide_eq_true_eq] at hok
              have htl := HDT.out d (by omega)
              have htk := Lib.hid (flat_takeD (f := fun d : Int => num d.toNat) hkF)
              obtain ⟨L3, hL3⟩ : ∃ L, L = B2 ++ (D.take d).flatMap fun d => num d.toNat := ⟨_, rfl⟩
              have hL3l : L3.length ≤ 125010000 := by rw [hL3, List.length_append]; omega
              rw [← hL3] at hF3
              have HL3 := Lib.hid hL3
              obtain ⟨x, hx⟩ : ∃ t, t = D[d] := ⟨_, rfl⟩
              rw [← hx] at g0 hok htk
              clear hx hL3 htl
              have t1 : decide ((d : Int) < (dn : Int)) = true := by simp; omega
              go_wp2_with (go_at_call 74; go_must (refine (pk_number _ L3 x (by omega) (by omega) wr (OwnB.bytes hF3) (by omega)).mono ?_); rintro e w7 ⟨v7, rfl, ho7, hE7⟩)
              go_roundw
              case rel =>
                refine ⟨d + 1, by omega, by go_num, ?_, hE6.trans hE7⟩
                rw [htk.out, ← List.append_assoc, ← HL3.out]
                exact OwnB.base ho7 hEu.le
              case measure => simp [intOf]; omega
            · obtain rfl : d = dn := by omega
              rw [List.take_of_length_le (by rw [HDN.out]; exact Nat.le_refl _), ← HBP.out] at hF3
              obtain ⟨L, hL⟩ : ∃ L, L = batP M A D := ⟨_, rfl⟩
              rw [← hL] at hF3
              have hF4 := hF3
              obtain ⟨ax, cx, rfl⟩ := ownB_shapeP hF4
              by_cases hlen : L.length ≤ 262144
              · have hlt : ¬ (262144 : Int) < (L.length : Int) := by omega
                have e1 : Hid (RB = (L, 0)) := Lib.hid (by rw [HBR.out, ← hL, if_pos hlen])
                clear hL
                go_wp2_with fail
                go_ret2
                exact ⟨.slice ax L.length cx, by rw [e1.out]; rfl, by rw [e1.out]; exact hF3, hEu⟩
              · have hlt : decide ((262144 : Int) < (L.length : Int)) = true := decide_eq_true (by omega)
                have e1 : Hid (RB = ([], 2)) := Lib.hid (by rw [HBR.out, ← hL, if_neg hlen])
                clear hL
                go_wp2_with fail
                go_ret2
                exact ⟨.slice none 0 0, by rw [e1.out]; rfl, by rw [e1.out]; exact World.ownsRow_nil _ _ _ _, hEu⟩

theorem batch_gen (vm va vd : Value) (M : List Mt) (A : List Nt) (D : List Int) (w : World) (hT : TabU w) (hM : MtsIn w vm M) (hA : NtsIn w va A) (hD : IntsIn w vd .i64 D) (hMb : ∀ x ∈ M, x.table.size ≤ 1000000 ∧ ∀ p ∈ x.pa.ps, ∀ c ∈ p.1.cols, c.name.size ≤ 1000000) (hAb : ∀ x ∈ A, x.body.size ≤ 1000000) :
    Calls Tryz.prog 37 #[.agg #[vm, va, vd]] w fun e w' => ∃ v', e = .returned (.tuple #[v', .int .i64 (batR M A D).2]) ∧ OwnB w' w.heap.size v' (batR M A D).1 ∧ Ext w w' := by
  cases hc : cbG M A D
  · have e : batR M A D = ([], 1) := by unfold batR; rw [hc]; rfl
    rw [e]
    refine (batch_bad vm va vd M A D w hT hM hA hD hMb hAb hc).mono ?_
    rintro e w' ⟨rfl, hE⟩
    exact ⟨_, rfl, World.ownsRow_nil _ _ _ _, hE⟩
  · exact batch_good vm va vd M A D w hT hM hA hD hMb hAb hc
end Go.Proofs.YtimbikbbbfpeeaaGreatDoor

/- store: (*Store).Apply of a batch that may be. -/
namespace Go.Proofs.YtimbikbbbfpeeaaGreatDoor
open Go Go.RowKit
attribute [local go_sem] yields yUpon

theorem Sto.sub_shelf (s : Sto) : ∀ b ∈ [s.pd, s.mf], b ∈ s.blocks := fun b hb => by
  simp only [List.mem_cons, List.not_mem_nil, or_false] at hb
  rcases hb with rfl | rfl
  · exact s.pd_mem
  · exact s.mf_mem
theorem csB_mem : ∀ {l : List Co} {p : Option ByteArray}, csB p l = true → ∀ c ∈ l, nameB c.name = true
  | [], _, _, _, h => by cases h
  | x :: l, p, h, c, hc => by
    simp only [csB, Bool.and_eq_true] at h
    rcases List.mem_cons.1 hc with e | hc
    · rw [e]; exact h.1.1.1.1
    · exact csB_mem h.2 c hc
theorem okMq_names {x : Mq} (h : okMq x = true) : ∀ r ∈ x.pt.rows, ∀ c ∈ r.cols, c.name.size ≤ 100 := fun r hr c hc => by
  unfold okMq at h
  simp only [Bool.and_eq_true] at h
  have h2 := h.2
  unfold ptB at h2
  simp only [Bool.and_eq_true] at h2
  have := rsB_mem h2.2 r hr
  unfold rwB at this
  simp only [Bool.and_eq_true] at this
  have hn := csB_mem this.2 c hc
  unfold nameB at hn
  simp only [Bool.and_eq_true, decide_eq_true_eq] at hn
  exact hn.2.2
theorem cbQ_names {ms : List Mt} {A : List Nt} {D : List Int} (h : cbQ ⟨ms.map Mt.q, A, D⟩ = true) : (∀ x ∈ ms, x.table.size ≤ 1000000 ∧ ∀ p ∈ x.pa.ps, ∀ c ∈ p.1.cols, c.name.size ≤ 1000000) ∧ ∀ x ∈ A, x.body.size ≤ 1000000 := by
  refine ⟨fun x hx => ?_, fun x hx => ?_⟩
  · have hm := (cbQ_muts h).2 x.q (List.mem_map_of_mem hx)
    have h1 := (okMq_few hm).1
    refine ⟨by have : x.table.size ≤ 100 := h1; omega, fun p hp c hc => ?_⟩
    have := okMq_names hm p.1 (List.mem_map_of_mem hp) c hc
    omega
  · have := ((cbQ_notes h).1 x hx).2.2
    omega
theorem batR_ok {ms : List Mt} {A : List Nt} {D : List Int} (h : cbQ ⟨ms.map Mt.q, A, D⟩ = true) (hl : (batQ ⟨ms.map Mt.q, A, D⟩).length ≤ 262144) : batR ms A D = (batQ ⟨ms.map Mt.q, A, D⟩, 0) := by
  unfold batR
  rw [cbG_q, h, batP_q, if_pos rfl, if_pos hl]

set_option maxRecDepth 100000 in
set_option maxHeartbeats 8000000 in
theorem apply_any (W0 w : World) (C : Nat) (s : Sto) (h : StoAt W0 w C s) (vm va vd : Value) (ms : List Mt) (A : List Nt) (D : List Int) (hg : Got w vm va vd ms A D) (hC : C + 512 ≤ 400000) (hcb : cbQ ⟨ms.map Mt.q, A, D⟩ = true) (B : List UInt8) (hB : B = batQ ⟨ms.map Mt.q, A, D⟩)
    (hroom : s.log.size + (sput false s.log.size B).length ≤ 262144) :
    Calls Tryz.prog 12 #[.pointer (some ⟨s.ps, 0, none⟩), .agg #[vm, va, vd]] w fun e w' =>
      (stFits s.q ⟨ms.map Mt.q, A, D⟩ = true ∧ e = .returned (.int .i64 0) ∧ ∃ ts N, StoAt W0 w' (C + 512) { s with log := s.log ++ str (sput false s.log.size B), ts := ts, N := N } ∧ (⟨ts.map Tb.q, N⟩ : Sq) = stPut s.q ⟨ms.map Mt.q, A, D⟩ ∧ Turned w w' s { s with log := s.log ++ str (sput false s.log.size B), ts := ts, N := N })
      ∨ (stFits s.q ⟨ms.map Mt.q, A, D⟩ = false ∧ e = .returned (.int .i64 2) ∧ Ext w w') := by
  obtain ⟨hMb, hAb⟩ := cbQ_names hcb
  have hpos := sput_pos false s.log.size B
  have hBl : B.length ≤ 262144 := by omega
  have hR := batR_ok hcb (by rw [← hB]; exact hBl)
  rw [← hB] at hR
  obtain ⟨W, hW⟩ : ∃ W, W = w.alloc (.cells #[vm, va, vd] 37) := ⟨_, rfl⟩
  have hE : Ext w W := by rw [hW]; exact (Ext.refl w).alloc _
  have hbx : BoxAt W w.heap.size #[vm, va, vd] 37 := by rw [hW]; exact BoxAt.made w _ _
  obtain ⟨am, cm, rfl⟩ := hg.mt.shape
  obtain ⟨aa, ca, rfl⟩ := hg.nt.shape
  obtain ⟨ad, cd, rfl⟩ := hg.it.shape
  have K1 : ∀ w', Ext w w' → Calls Tryz.prog 36 #[.agg #[.slice am ms.length cm, .slice aa A.length ca, .slice ad D.length cd]] w' fun e w'' => e = .returned (.bool true) ∧ Ext w' w'' := fun w' hx => by
    have := cb_gen _ _ _ ms A D w' ((h.ext hx).tabU) ⟨(hg.ext hx).mt.slice, fun m hm => ((hg.ext hx).rows m hm).rows⟩ (nts_of (hg.ext hx).nt) (ints_of (hg.ext hx).it) hMb hAb
    rw [cbG_q, hcb] at this
    exact this
  have K2 : ∀ w', Ext w w' → Calls Tryz.prog 37 #[.agg #[.slice am ms.length cm, .slice aa A.length ca, .slice ad D.length cd]] w' fun e w'' => ∃ v', e = .returned (.tuple #[v', .int .i64 0]) ∧ BytesIn w'' v' B ∧ Ext w' w'' := fun w' hx => by
    have := batch_gen _ _ _ ms A D w' ((h.ext hx).tabU) ⟨(hg.ext hx).mt.slice, fun m hm => ((hg.ext hx).rows m hm).rows⟩ (nts_of (hg.ext hx).nt) (ints_of (hg.ext hx).it) hMb hAb
    rw [hR] at this
    exact this.mono fun e w'' ⟨v', he, ho, hx⟩ => ⟨v', he, ho.bytes, hx⟩
  have K3 : ∀ w', Ext w w' → Calls Tryz.prog 38 #[.pointer (some ⟨s.ps, 0, none⟩), .agg #[.slice am ms.length cm, .slice aa A.length ca, .slice ad D.length cd]] w' fun e w'' => e = .returned (.bool (stFits s.q ⟨ms.map Mt.q, A, D⟩)) ∧ Ext w' w'' := fun w' hx =>
    stfits_any W0 w' C s (h.ext hx) _ _ _ ms A D (hg.ext hx) hC hMb hAb
  have K4 : ∀ w' body, Ext w w' → Hid (body.data.toList = B) → Calls Tryz.prog 39 #[.pointer (some ⟨s.ps, 0, none⟩), .string body] w' fun e w'' => e = .returned (.int .i64 0) ∧ StoAt W0 w'' C { s with log := s.log ++ str (sput false s.log.size B) } ∧ Touch w' w'' [s.pd, s.mf] := fun w' body hx hb => by
    have := stlog_any W0 w' C s (h.ext hx) body (by rw [hb.out]; exact hroom)
    rw [hb.out] at this
    exact this
  obtain ⟨ok, hok⟩ : ∃ b, b = stFits s.q ⟨ms.map Mt.q, A, D⟩ := ⟨_, rfl⟩
  have HOK := Lib.hid hok
  have HPUT : Hid (ok = true → ∀ w1 s1, StoAt W0 w1 C s1 → s1.q = s.q → Got w1 (.slice am ms.length cm) (.slice aa A.length ca) (.slice ad D.length cd) ms A D → Calls Tryz.prog 40 #[.pointer (some ⟨s1.ps, 0, none⟩), .agg #[.slice am ms.length cm, .slice aa A.length ca, .slice ad D.length cd]] w1 fun e w' => e = .returned (.tuple #[]) ∧ ∃ ts N, StoAt W0 w' (C + 512) { s1 with ts := ts, N := N } ∧ ({ s1 with ts := ts, N := N } : Sto).q = stPut s.q ⟨ms.map Mt.q, A, D⟩ ∧ Turned w1 w' s1 { s1 with ts := ts, N := N }) := Lib.hid fun h1 w1 s1 hs1 hq hg1 => by
    have := stput_any W0 w1 C s1 hs1 _ _ _ ms A D hg1 hC (by rw [hq, ← hok]; exact h1)
    rw [hq] at this
    exact this.mono fun e w' ⟨he, ts, N, h1, h2, h3, _⟩ => ⟨he, ts, N, h1, h2, h3⟩
  have HG := Lib.hid hg
  have HH := Lib.hid h
  have HE := Lib.hid hE
  have HK1 := Lib.hid K1
  have HK2 := Lib.hid K2
  have HK3 := Lib.hid K3
  have HK4 := Lib.hid K4
  obtain ⟨nm, hnm⟩ : ∃ n, n = ms.length := ⟨_, rfl⟩
  obtain ⟨na, hna⟩ : ∃ n, n = A.length := ⟨_, rfl⟩
  obtain ⟨nd, hnd⟩ : ∃ n, n = D.length := ⟨_, rfl⟩
  rw [← hok] at HK3 ⊢
  rw [← hnm, ← hna, ← hnd] at HK1 HK2 HK3 HPUT HG hbx hW
  rw [← hnm, ← hna, ← hnd]
  have hNB : ∀ T, T ≠ 72 → NoBox w [s.pd, s.mf] T := fun T hT => (NoBox.box h.shelf.box (fun e => hT e.symm)).cons (NoBox.files h.shelf.files T)
  have HNB := Lib.hid hNB
  have hlt1 := (h.lt s.pd s.pd_mem)
  have hlt2 := (h.lt s.mf s.mf_mem)
  clear hnm hna hnd K1 K2 K3 K4 hok hg h hMb hAb hpos hroom hB hcb hR hE hNB
  cases ok
  all_goals
    go_enter Tryz.func12, Tryz.ntmps12
    obtain ⟨b0, b1, b2⟩ : W.cell? ⟨w.heap.size, 0, none⟩ = some (.slice am nm cm) ∧ W.cell? ⟨w.heap.size, 1, none⟩ = some (.slice aa na ca) ∧ W.cell? ⟨w.heap.size, 2, none⟩ = some (.slice ad nd cd) := ⟨by rw [hbx.cell]; rfl, by rw [hbx.cell]; rfl, by rw [hbx.cell]; rfl⟩
  case false =>
    go_wp2_with (first
      | (go_at_call 36; rw [← hW]; go_must (refine (HK1.out W HE.out).mono ?_); rintro e w1 ⟨rfl, hx1⟩; have hE1 := HE.out.trans hx1; replace b0 := hx1.cell b0; replace b1 := hx1.cell b1; replace b2 := hx1.cell b2)
      | (go_at_call 37; go_must (refine (HK2.out w1 hE1).mono ?_); rintro e w2 ⟨v2, rfl, hby, hx2⟩; have hE2 := hE1.trans hx2; replace b0 := hx2.cell b0; replace b1 := hx2.cell b1; replace b2 := hx2.cell b2)
      | (go_at_call 38; go_must (refine (HK3.out w2 hE2).mono ?_); rintro e w3 ⟨rfl, hx3⟩; have hE3 := hE2.trans hx3; replace b0 := hx3.cell b0; replace b1 := hx3.cell b1; replace b2 := hx3.cell b2; replace hby := hby.ext hx3))
    go_ret
    exact .inr ⟨trivial, rfl, hE3⟩
  case true =>
    go_wp2_with (first
      | (go_at_call 36; rw [← hW]; go_must (refine (HK1.out W HE.out).mono ?_); rintro e w1 ⟨rfl, hx1⟩; have hE1 := HE.out.trans hx1; replace b0 := hx1.cell b0; replace b1 := hx1.cell b1; replace b2 := hx1.cell b2)
      | (go_at_call 37; go_must (refine (HK2.out w1 hE1).mono ?_); rintro e w2 ⟨v2, rfl, hby, hx2⟩; have hE2 := hE1.trans hx2; replace b0 := hx2.cell b0; replace b1 := hx2.cell b1; replace b2 := hx2.cell b2)
      | (go_at_call 38; go_must (refine (HK3.out w2 hE2).mono ?_); rintro e w3 ⟨rfl, hx3⟩; have hE3 := hE2.trans hx3; replace b0 := hx3.cell b0; replace b1 := hx3.cell b1; replace b2 := hx3.cell b2; replace hby := hby.ext hx3)
      | ((guard_target =~ wpList _ _ _ (Oper.mk (some 25) _ _ _ _ _ :: _) _ _); go_must (refine wpList_text (by rfl) (.tmp 24) rfl hby ?_); intro s25 hs25 hz25)
      | (go_at_call 39; go_must (refine (HK4.out w3 s25 hE3 hs25).mono ?_); rintro e w4 ⟨rfl, hS4, ht4⟩; have hn4 := (HNB.out 37 (by decide)); have hbk : w.heap.size ∉ [s.pd, s.mf] := (fun hb => by simp only [List.mem_cons, List.not_mem_nil, or_false] at hb; omega); replace b0 := ht4.cell b0 hbk; replace b1 := ht4.cell b1 hbk; replace b2 := ht4.cell b2 hbk)
      | (go_at_call 40; go_must (refine (HPUT.out trivial w4 { s with log := s.log ++ str (sput false s.log.size B) } hS4 rfl ((HH.out.ext hE3).got (HG.out.ext hE3) ht4 (fun b hb => .inl (s.sub_shelf b hb)))).mono ?_); rintro e w5 ⟨rfl, ts, N, hS5, hq5, hT5⟩))
    go_ret
    refine .inl ⟨trivial, rfl, ts, N, hS5, hq5, ?_⟩
    have hTT : Turned w w4 s { s with log := s.log ++ str (sput false s.log.size B) } := ⟨((Touch.of_ext hE3 []).trans ht4).mono (fun k hk _ => s.sub_shelf k hk), fun b hb => .inl hb⟩
    exact hTT.trans hT5
end Go.Proofs.YtimbikbbbfpeeaaGreatDoor
