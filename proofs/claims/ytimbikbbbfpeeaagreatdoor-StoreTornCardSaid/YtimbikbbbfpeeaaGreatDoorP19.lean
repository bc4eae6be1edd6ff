/- store: (*Store).some: a store with those tables alone that mutations turn, in new maps. -/
import Derived.Test.YtimbikbbbfpeeaaGreatDoorP17
import Derived.Test.YtimbikbbbfpeeaaGreatDoorP18
import Derived.LaidEqlPtr
import Derived.Test.YtimbikbbbfpeeaaGreatDoorP1
import Derived.Test.YtimbikbbbfpeeaaGreatDoorP6
import Derived.Test.YtimbikbbbfpeeaaGreatDoorP10
set_option linter.unusedSimpArgs false
set_option linter.unusedVariables false
namespace Go.Proofs.YtimbikbbbfpeeaaGreatDoor
open Go Go.RowKit
attribute [local go_sem] yields yUpon

theorem und_ptab : Tryz.prog.underlying 94 = some (.pointer 99) := by kernel_rfl
theorem info_tab : Tryz.prog.info? 99 = some (Tryz.prog.info? 99).get! ∧ (Tryz.prog.info? 99).get!.size = 2 := ⟨by kernel_rfl, by kernel_rfl⟩
theorem SMapAt.len_eq {w : World} {m : Nat} {L K : Sm} (h : SMapAt w m L) (h' : SMapAt w m K) {T e : TypeId} (ht : Tryz.prog.underlying T = some (.map 9 e)) : L.length = K.length := by
  have h1 := (smap_len h ht 3).symm.trans (smap_len h' ht 3)
  simp only [Result.ok.injEq, Value.int.injEq, true_and, and_true] at h1
  omega
def tbP (t : Tb) : ByteArray × List Pa := (t.name, t.parts)
theorem tbP_find (k : ByteArray) (ts : List Tb) : (kfind Tb.name k ts).map tbP = kfind Prod.fst k (ts.map tbP) := (kfind_map (key := Tb.name) (key' := Prod.fst) (f := tbP) (fun _ => rfl) k ts).symm
structure SomeI (w0 wr : World) (C mc cb : Nat) (ts tsc : List Tb) (done : List ByteArray) : Prop where
  at_ : TbsAt wr C mc tsc
  ext : Ext w0 wr
  mc0 : w0.heap.size ≤ mc
  p : tsc.map tbP = ts.map tbP
  was : ∀ t ∈ tsc, t ∈ ts ∨ ∀ b ∈ t.blocks, w0.heap.size ≤ b
  done_ : ∀ t ∈ tsc, t.name ∈ done → ∀ b ∈ t.blocks, w0.heap.size ≤ b
  box : BoxAt wr cb #[.pointer none, .map (some mc), .pointer none, .slice none 0 0, .int .i64 0] 77
section
variable {w0 wr x : World} {C mc cb : Nat} {ts tsc : List Tb} {done : List ByteArray}
theorem SomeI.ext_ (h : SomeI w0 wr C mc cb ts tsc done) (hE : Ext wr x) : SomeI w0 x C mc cb ts tsc done := ⟨h.at_.ext hE, h.ext.trans hE, h.mc0, h.p, h.was, h.done_, h.box.ext hE⟩
theorem SomeI.find (h : SomeI w0 wr C mc cb ts tsc done) (k : ByteArray) : (kfind Tb.name k tsc).map tbP = (kfind Tb.name k ts).map tbP := by rw [tbP_find, tbP_find, h.p]
/-- Nothing is to be done for a name. -/
theorem SomeI.skip (h : SomeI w0 wr C mc cb ts tsc done) {k : ByteArray} (hk : ∀ t, kfind Tb.name k tsc = some t → ∀ b ∈ t.blocks, w0.heap.size ≤ b) : SomeI w0 wr C mc cb ts tsc (done ++ [k]) :=
  ⟨h.at_, h.ext, h.mc0, h.p, h.was, fun t ht hn => by
    rcases List.mem_append.1 hn with hn | hn
    · exact h.done_ t ht hn
    · refine hk t ?_
      rw [← List.mem_singleton.1 hn]
      exact kfind_of_mem h.at_.rises ht, h.box⟩
/-- A table in new maps. -/
theorem SomeI.swap (h : SomeI w0 wr C mc cb ts tsc done) {t n : Tb} {w1 w2 : World} (hE : Ext wr w1) (hn : TbAt w1 C n) (hf : kfind Tb.name n.name tsc = some t) (hp : n.parts = t.parts) (hfr : ∀ b ∈ n.blocks, wr.heap.size ≤ b) (hT : Touch w1 w2 [mc]) (hm : SMapAt w2 mc (kput Prod.fst (tbE n) (tsc.map tbE))) (hk : n.name.size ≤ 1000000) :
    SomeI w0 w2 C mc cb ts (kput Tb.name n tsc) (done ++ [n.name]) := by
  have hsz := h.ext.size
  have hE2 : Ext w0 w2 := hT.ext (h.ext.trans hE) fun k hk => by rw [List.mem_singleton.1 hk]; exact h.mc0
  have hb1 := h.box.ext hE
  refine ⟨h.at_.add hE hn hfr hk hT hm, hE2, h.mc0, ?_, fun u hu => ?_, fun u hu hun => ?_, hT.box hb1 fun hb => NoBox.smap (h.at_.map.ext hE) _ _ hb _ hb1⟩
  · rw [kput_map (key := Tb.name) (key' := Prod.fst) (f := tbP) (fun _ => rfl), ← h.p]
    have hr : KRises Prod.fst (tsc.map tbP) := KRises.map (key := Tb.name) (key' := Prod.fst) (f := tbP) (fun _ => rfl) h.at_.rises
    refine kput_same hr ?_
    obtain ⟨hm, hnm⟩ := kfind_some hf
    have e : tbP n = tbP t := by unfold tbP; rw [hp, hnm]
    rw [e]
    exact kfind_of_mem hr (List.mem_map_of_mem hm)
  · rcases kput_mem hu with rfl | hu
    · exact .inr fun b hb => Nat.le_trans hsz (hfr b hb)
    · exact h.was u hu
  · rcases kput_mem' h.at_.rises hu with rfl | ⟨hu, hne⟩
    · exact fun b hb => Nat.le_trans hsz (hfr b hb)
    · rcases List.mem_append.1 hun with hun | hun
      · exact h.done_ u hu hun
      · exact absurd (List.mem_singleton.1 hun) hne
end

set_option maxRecDepth 100000 in
set_option maxHeartbeats 8000000 in
theorem some_any (ps : Nat) (v : Value) (M : List Mt) (ts : List Tb) (C mt : Nat) (w : World) (hp : w.cell? ⟨ps, 1, none⟩ = some (.map (some mt))) (h : TbsAt w C mt ts) (hl : ts.length ≤ 8) (hM : MtsIn w v M) (hMo : ∀ x ∈ M, x.table.size ≤ 1000000) (hfull : ∀ t ∈ ts, t.parts ≠ []) :
    Calls Tryz.prog 77 #[.pointer (some ⟨ps, 0, none⟩), v] w fun e w' => e = .returned (.pointer (some ⟨w.heap.size + 1, 0, none⟩)) ∧ ∃ tsc, SomeI w w' C w.heap.size (w.heap.size + 1) ts tsc (M.map Mt.table) := by
  obtain ⟨am, cm, rfl, hcm, hcmm, hgm⟩ := hM.get
  obtain ⟨n, hn⟩ : ∃ n, n = M.length := ⟨_, rfl⟩
  rw [← hn] at hcm ⊢
  have HN := Lib.hid hn
  have HG := Lib.hid hgm
  have HMO := Lib.hid hMo
  have HH := Lib.hid h
  have HF := Lib.hid hfull
  have HR := Lib.hid hM.rows
  clear hn hgm hMo hfull hM
  have K1 := ck_tabs w h.map
  go_enter Tryz.func77, Tryz.ntmps77
  go_wp2_with (go_at_call 127; go_must (refine K1.mono ?_); rintro e w1 ⟨⟨rfl, hE1⟩, hm1, hs1⟩)
  obtain ⟨w2, hw2⟩ : ∃ w2, w2 = w1.alloc (.cells #[.pointer none, .map (some w.heap.size), .pointer none, .slice none 0 0, .int .i64 0] 77) := ⟨_, rfl⟩
  have hE2 : Ext w1 w2 := by rw [hw2]; exact (Ext.refl w1).alloc _
  have hbx : BoxAt w2 (w.heap.size + 1) #[.pointer none, .map (some w.heap.size), .pointer none, .slice none 0 0, .int .i64 0] 77 := by rw [hw2]; exact BoxAt.madeN _ _ hs1
  rw [← hw2]
  have hE12 := hE1.trans hE2
  have hst : SomeI w w2 C w.heap.size (w.heap.size + 1) ts ts [] :=
    ⟨⟨hm1.ext hE2, fun t ht => (HH.out.tabs t ht).ext hE12, HH.out.nd, HH.out.names, fun hb => by obtain ⟨t, ht, hb⟩ := mem_blocksT.1 hb; have := (HH.out.tabs t ht).lt _ hb; omega⟩, hE12, Nat.le_refl _, rfl, fun t ht => .inl ht, nofun, hbx⟩
  have HP := Lib.hid hp
  clear hw2 hE2 hbx hm1 hs1 hE1 K1 hp h hE12
  go_loopw [18] (fun i wr => ∃ (k : Nat) (tsc : List Tb), k ≤ n ∧ i = .int .i64 (k : Int) ∧ SomeI w wr C w.heap.size (w.heap.size + 1) ts tsc ((M.map Mt.table).take k)) (fun i _ => n - (intOf i).toNat)
  case atStart => exact ⟨0, ts, Nat.zero_le _, rfl, hst⟩
  case round =>
    obtain ⟨k, tsc, hk, rfl, A⟩ := hrel
    clear hst
    by_cases hlt : k < n
    · have hkF : k < M.length := by rw [← HN.out]; exact hlt
      obtain ⟨b, o, rfl, ⟨g0, g1, g2, g3⟩⟩ := HG.out k hkF
      obtain ⟨ra, rc, hrv⟩ : ∃ a c, (M[k]).pa.rv = .slice a (M[k]).pa.ps.length c := let ⟨a, c, e, _⟩ := (HR.out _ (List.getElem_mem hkF)).get; ⟨a, c, e⟩
      have q1 := HMO.out _ (List.getElem_mem hkF)
      rw [hrv] at g3
      replace g0 := A.ext.cell g0
      replace g1 := A.ext.cell g1
      replace g2 := A.ext.cell g2
      replace g3 := A.ext.cell g3
      have htake : (M.map Mt.table).take (k + 1) = (M.map Mt.table).take k ++ [(M[k]).table] := by
        rw [List.take_succ_eq_append_getElem (by simpa using hkF), List.getElem_map]
      obtain ⟨tb, htb⟩ : ∃ t, t = (M[k]).table := ⟨_, rfl⟩
      obtain ⟨ky, hky⟩ : ∃ t, t = (M[k]).pa.key := ⟨_, rfl⟩
      obtain ⟨gn, hgn⟩ : ∃ t, t = (M[k]).pa.gone := ⟨_, rfl⟩
      obtain ⟨rn, hrn⟩ : ∃ t, t = (M[k]).pa.ps.length := ⟨_, rfl⟩
      rw [← htb] at g0 q1 htake
      rw [← hky] at g1
      rw [← hgn] at g2
      rw [← hrn] at g3
      have HTK := Lib.hid htake
      clear htb hky hgn hrv hrn htake
      obtain ⟨W, hW⟩ : ∃ W, W = wr.alloc (.cells #[.string tb, .string ky, .int .i64 gn, .slice ra rn rc] 54) := ⟨_, rfl⟩
      have hEW : Ext wr W := by rw [hW]; exact (Ext.refl wr).alloc _
      have hbm : BoxAt W wr.heap.size #[.string tb, .string ky, .int .i64 gn, .slice ra rn rc] 54 := by rw [hW]; exact BoxAt.made wr _ _
      have hpW := (A.ext.trans hEW).cell HP.out
      have AW := A.ext_ hEW
      have HAW := Lib.hid AW
      have t1 : decide ((k : Int) < (n : Int)) = true := by simp; omega
      have HL1 : Hid (∀ w', Ext W w' → (Instr.lookup 73 (.map (some mt)) (.string tb) false).run Tryz.prog w' = .ok (((kfind Tb.name tb ts).map fun t => .pointer (some ⟨t.tb, 0, none⟩)).getD (.pointer none)) w') := Lib.hid fun w' hE' => tabs_look (HH.out.ext ((A.ext.trans hEW).trans hE')) q1
      have HL2 : Hid (∀ w', Ext W w' → (Instr.lookup 73 (.map (some w.heap.size)) (.string tb) false).run Tryz.prog w' = .ok (((kfind Tb.name tb tsc).map fun t => .pointer (some ⟨t.tb, 0, none⟩)).getD (.pointer none)) w') := Lib.hid fun w' hE' => tabs_look (HAW.out.at_.ext hE') q1
      have hfd := A.find tb
      clear AW A
      cases hf : kfind Tb.name tb tsc with
      | none =>
        rw [hf] at hfd HL2
        have hf0 : kfind Tb.name tb ts = none := by
          cases h0 : kfind Tb.name tb ts with
          | none => rfl
          | some t => rw [h0] at hfd; cases hfd
        rw [hf0] at HL1
        simp only [Option.map_none, Option.getD_none] at HL1
        have hsk := HAW.out.skip (k := tb) (fun t ht => by rw [hf] at ht; cases ht)
        have HSK := Lib.hid hsk
        clear hf hf0 hfd hsk HL2
        go_wp2_with fail
        rw [← hW]
        clear hW
        refine wp_region_tab 8 [(1, fun v _ => v = .pointer (some ⟨ps, 0, none⟩)), (6, fun v _ => v = .pointer none)] (by kernel_rfl) (by kernel_rfl) (by kernel_rfl) ⟨stays_eq _, stays_eq _, trivial⟩ ?_
        have z0 := held hpW
        have m0 := held (show W.cell? ⟨wr.heap.size, 0, none⟩ = some (.string tb) by rw [hbm.cell]; rfl)
        refine rg_quiet rfl rfl rfl rfl ?_; intro K hK; go_big_quiet_op; go_big_quiet_on
        refine rg_val [] rfl rfl rfl (by kernel_rfl) (fun w1 hE hf => ?_) ?_
        · go_simp
          exact rg_done hE (Ext.refl w1) rfl
        simp only [Act.put, List.setIfInBounds_toArray, List.set_cons_zero, List.set_cons_succ]
        refine rg_quiet rfl rfl rfl rfl ?_; intro K hK; go_big_quiet_op; go_big_quiet_on
        refine rg_quiet rfl rfl rfl rfl ?_; intro K hK; go_big_quiet_op; go_big_quiet_on
        refine rg_quiet rfl rfl rfl rfl ?_; intro K hK; go_big_quiet_op; go_big_quiet_on
        refine rg_quiet rfl rfl rfl rfl ?_; intro K hK; go_big_quiet_op; go_big_quiet_on
        refine rg_val [] rfl rfl rfl (by kernel_rfl) (fun w1 hE1 hf => ?_) ?_
        · exact yields_lookup (.tmp 25) (.tmp 27) rfl (by rfl) (by rfl) (HL1.out w1 hE1) (rg_done hE1 (Ext.refl w1) rfl)
        simp only [Act.put, List.setIfInBounds_toArray, List.set_cons_zero, List.set_cons_succ]
        refine rg_quiet rfl rfl rfl rfl ?_; intro K hK; go_big_quiet_op; go_big_quiet_on
        refine rel_nil fun w3 hE3 _ => ?_
        clear z0 m0
        go_wp2_with fail
        refine wp_region_tab 13 [] (by kernel_rfl) (by kernel_rfl) (by kernel_rfl) trivial ?_
        refine rg_quiet rfl rfl rfl rfl ?_; intro K hK; go_big_quiet_op; go_big_quiet_on
        refine rg_quiet rfl rfl rfl rfl ?_; intro K hK; go_big_quiet_op; go_big_quiet_on
        refine rg_quiet rfl rfl rfl rfl ?_; intro K hK; go_big_quiet_op; go_big_quiet_on
        refine rel_skip rfl rfl ?_
        simp only [Act.put, List.setIfInBounds_toArray, List.set_cons_zero, List.set_cons_succ]
        refine rel_skip rfl rfl ?_
        simp only [Act.put, List.setIfInBounds_toArray, List.set_cons_zero, List.set_cons_succ]
        refine rel_skip rfl rfl ?_
        simp only [Act.put, List.setIfInBounds_toArray, List.set_cons_zero, List.set_cons_succ]
        refine rel_skip rfl rfl ?_
        simp only [Act.put, List.setIfInBounds_toArray, List.set_cons_zero, List.set_cons_succ]
        refine rel_skip rfl rfl ?_
        simp only [Act.put, List.setIfInBounds_toArray, List.set_cons_zero, List.set_cons_succ]
        refine rel_skip rfl rfl ?_
        simp only [Act.put, List.setIfInBounds_toArray, List.set_cons_zero, List.set_cons_succ]
        refine rel_skip rfl rfl ?_
        simp only [Act.put, List.setIfInBounds_toArray, List.set_cons_zero, List.set_cons_succ]
        refine rel_skip rfl rfl ?_
        simp only [Act.put, List.setIfInBounds_toArray, List.set_cons_zero, List.set_cons_succ]
        refine rel_skip rfl rfl ?_
        simp only [Act.put, List.setIfInBounds_toArray, List.set_cons_zero, List.set_cons_succ]
        refine rg_quiet rfl rfl rfl rfl ?_; intro K hK; go_big_quiet_op; go_big_quiet_on
        refine rel_nil fun w4 hE4 _ => ?_
        go_wp2_with fail
        go_roundw
        case rel => exact ⟨k + 1, tsc, by omega, by go_num, by rw [HTK.out]; exact HSK.out.ext_ (hE3.trans hE4)⟩
        case measure => simp [intOf]; omega
      | some t' =>
        obtain ⟨t, hf0, hpt⟩ : ∃ t, kfind Tb.name tb ts = some t ∧ tbP t = tbP t' := by
          rw [hf] at hfd
          cases h0 : kfind Tb.name tb ts with
          | none => rw [h0] at hfd; cases hfd
          | some t => rw [h0] at hfd; exact ⟨t, rfl, (Option.some.inj hfd).symm⟩
        rw [hf] at HL2
        rw [hf0] at HL1
        simp only [Option.map_some, Option.getD_some] at HL1 HL2
        obtain ⟨htm', htn'⟩ := kfind_some hf
        obtain ⟨htm, htn⟩ := kfind_some hf0
        have hlo := (HH.out.tabs t htm).lt
        by_cases hfr : ∀ b ∈ t'.blocks, w.heap.size ≤ b
        · have hne : ¬ t'.tb = t.tb := fun e => by
            have h1 := hfr t'.tb (by simp [Tb.blocks])
            have h2 := hlo t.tb (by simp [Tb.blocks])
            omega
          have HSK := Lib.hid (HAW.out.skip (k := tb) (fun u hu => by rw [hf] at hu; cases hu; exact hfr))
          have HEQ : Hid (∀ w', Ext W w' → (binOp .eql 94 (.pointer (some ⟨t'.tb, 0, none⟩)) (.pointer (some ⟨t.tb, 0, none⟩))).run Tryz.prog w' = .ok (.bool false) w') := Lib.hid fun w' hE' =>
            run_eql_ptr_other _ und_ptab info_tab.1 (by rw [info_tab.2]; decide) (by simp [hne]) ((HAW.out.at_.tabs t' htm').box.ext hE') ((HH.out.tabs t htm).box.ext (HAW.out.ext.trans hE'))
          clear hf hf0 hfd hfr hlo htm htn htm' htn' hpt
          go_wp2_with fail
          rw [← hW]
          clear hW
          refine wp_region_tab 8 [(1, fun v _ => v = .pointer (some ⟨ps, 0, none⟩)), (6, fun v _ => v = .pointer (some ⟨t.tb, 0, none⟩))] (by kernel_rfl) (by kernel_rfl) (by kernel_rfl) ⟨stays_eq _, stays_eq _, trivial⟩ ?_
          have z0 := held hpW
          have m0 := held (show W.cell? ⟨wr.heap.size, 0, none⟩ = some (.string tb) by rw [hbm.cell]; rfl)
          refine rg_quiet rfl rfl rfl rfl ?_; intro K hK; go_big_quiet_op; go_big_quiet_on
          refine rg_val [] rfl rfl rfl (by kernel_rfl) (fun w1 hE hf => ?_) ?_
          · go_simp
            exact rg_done hE (Ext.refl w1) rfl
          simp only [Act.put, List.setIfInBounds_toArray, List.set_cons_zero, List.set_cons_succ]
          refine rg_quiet rfl rfl rfl rfl ?_; intro K hK; go_big_quiet_op; go_big_quiet_on
          refine rg_quiet rfl rfl rfl rfl ?_; intro K hK; go_big_quiet_op; go_big_quiet_on
          refine rg_quiet rfl rfl rfl rfl ?_; intro K hK; go_big_quiet_op; go_big_quiet_on
          refine rg_quiet rfl rfl rfl rfl ?_; intro K hK; go_big_quiet_op; go_big_quiet_on
          refine rg_val [] rfl rfl rfl (by kernel_rfl) (fun w1 hE1 hf => ?_) ?_
          · exact yields_lookup (.tmp 25) (.tmp 27) rfl (by rfl) (by rfl) (HL1.out w1 hE1) (rg_done hE1 (Ext.refl w1) rfl)
          simp only [Act.put, List.setIfInBounds_toArray, List.set_cons_zero, List.set_cons_succ]
          refine rg_quiet rfl rfl rfl rfl ?_; intro K hK; go_big_quiet_op; go_big_quiet_on
          refine rel_nil fun w3 hE3 _ => ?_
          clear z0 m0
          go_wp2_with fail
          have hbx3 := HAW.out.box.ext hE3
          have hbm3 := hbm.ext hE3
          refine wp_region_tab 13 [(4, fun v _ => v = .pointer (some ⟨w.heap.size + 1, 0, none⟩)), (9, fun v _ => v = .pointer (some ⟨t'.tb, 0, none⟩)), (11, fun v _ => v = .bool false)] (by kernel_rfl) (by kernel_rfl) (by kernel_rfl) ⟨stays_eq _, stays_eq _, stays_eq _, trivial⟩ ?_
          have z0 := held (show w3.cell? ⟨w.heap.size + 1, 1, none⟩ = some (.map (some w.heap.size)) by rw [hbx3.cell]; rfl)
          have m0 := held (show w3.cell? ⟨wr.heap.size, 0, none⟩ = some (.string tb) by rw [hbm3.cell]; rfl)
          refine rg_quiet rfl rfl rfl rfl ?_; intro K hK; go_big_quiet_op; go_big_quiet_on
          refine rg_quiet rfl rfl rfl rfl ?_; intro K hK; go_big_quiet_op; go_big_quiet_on
          refine rg_quiet rfl rfl rfl rfl ?_; intro K hK; go_big_quiet_op; go_big_quiet_on
          refine rg_quiet rfl rfl rfl rfl ?_; intro K hK; go_big_quiet_op; go_big_quiet_on
          refine rg_val [] rfl rfl rfl (by kernel_rfl) (fun w1 hE hf => ?_) ?_
          · go_simp
            exact rg_done hE (Ext.refl w1) rfl
          simp only [Act.put, List.setIfInBounds_toArray, List.set_cons_zero, List.set_cons_succ]
          refine rg_quiet rfl rfl rfl rfl ?_; intro K hK; go_big_quiet_op; go_big_quiet_on
          refine rg_quiet rfl rfl rfl rfl ?_; intro K hK; go_big_quiet_op; go_big_quiet_on
          refine rg_quiet rfl rfl rfl rfl ?_; intro K hK; go_big_quiet_op; go_big_quiet_on
          refine rg_quiet rfl rfl rfl rfl ?_; intro K hK; go_big_quiet_op; go_big_quiet_on
          refine rg_val [] rfl rfl rfl (by kernel_rfl) (fun w1 hE1 hf => ?_) ?_
          · exact yields_lookup (.tmp 35) (.tmp 37) rfl (by rfl) (by rfl) (HL2.out w1 (hE3.trans hE1)) (rg_done hE1 (Ext.refl w1) rfl)
          simp only [Act.put, List.setIfInBounds_toArray, List.set_cons_zero, List.set_cons_succ]
          refine rg_quiet rfl rfl rfl rfl ?_; intro K hK; go_big_quiet_op; go_big_quiet_on
          refine rg_val [] rfl rfl rfl (by kernel_rfl) (fun w1 hE hf => ?_) ?_
          · go_simp
            rw [HEQ.out w1 (hE3.trans hE)]
            exact rg_done hE (Ext.refl w1) rfl
          simp only [Act.put, List.setIfInBounds_toArray, List.set_cons_zero, List.set_cons_succ]
          refine rg_quiet rfl rfl rfl rfl ?_; intro K hK; go_big_quiet_op; go_big_quiet_on
          refine rel_nil fun w4 hE4 _ => ?_
          clear z0 m0
          go_wp2_with fail
          go_roundw
          case rel => exact ⟨k + 1, tsc, by omega, by go_num, by rw [HTK.out]; exact HSK.out.ext_ (hE3.trans hE4)⟩
          case measure => simp [intOf]; omega
        · obtain rfl : t' = t := by
            rcases HAW.out.was t' htm' with h1 | h1
            · have := kfind_of_mem HH.out.rises h1
              rw [htn', hf0] at this
              exact (Option.some.inj this).symm
            · exact absurd h1 hfr
          have hTB := HH.out.tabs t' htm
          have hfu := HF.out t' htm
          have HTB := Lib.hid hTB
          have HFU := Lib.hid hfu
          have HFD := Lib.hid hf
          have htn := htn'
          have HTN := Lib.hid htn
          clear hf hf0 hfd hfr hlo htm htn htm' htn' hpt hTB hfu
          go_wp2_with fail
          rw [← hW]
          clear hW
          refine wp_region_tab 8 [(1, fun v _ => v = .pointer (some ⟨ps, 0, none⟩)), (6, fun v _ => v = .pointer (some ⟨t'.tb, 0, none⟩))] (by kernel_rfl) (by kernel_rfl) (by kernel_rfl) ⟨stays_eq _, stays_eq _, trivial⟩ ?_
          have z0 := held hpW
          have m0 := held (show W.cell? ⟨wr.heap.size, 0, none⟩ = some (.string tb) by rw [hbm.cell]; rfl)
          refine rg_quiet rfl rfl rfl rfl ?_; intro K hK; go_big_quiet_op; go_big_quiet_on
          refine rg_val [] rfl rfl rfl (by kernel_rfl) (fun w1 hE hf => ?_) ?_
          · go_simp
            exact rg_done hE (Ext.refl w1) rfl
          simp only [Act.put, List.setIfInBounds_toArray, List.set_cons_zero, List.set_cons_succ]
          refine rg_quiet rfl rfl rfl rfl ?_; intro K hK; go_big_quiet_op; go_big_quiet_on
          refine rg_quiet rfl rfl rfl rfl ?_; intro K hK; go_big_quiet_op; go_big_quiet_on
          refine rg_quiet rfl rfl rfl rfl ?_; intro K hK; go_big_quiet_op; go_big_quiet_on
          refine rg_quiet rfl rfl rfl rfl ?_; intro K hK; go_big_quiet_op; go_big_quiet_on
          refine rg_val [] rfl rfl rfl (by kernel_rfl) (fun w1 hE1 hf => ?_) ?_
          · exact yields_lookup (.tmp 25) (.tmp 27) rfl (by rfl) (by rfl) (HL1.out w1 hE1) (rg_done hE1 (Ext.refl w1) rfl)
          simp only [Act.put, List.setIfInBounds_toArray, List.set_cons_zero, List.set_cons_succ]
          refine rg_quiet rfl rfl rfl rfl ?_; intro K hK; go_big_quiet_op; go_big_quiet_on
          refine rel_nil fun w3 hE3 _ => ?_
          clear z0 m0
          go_wp2_with fail
          have hbx3 := HAW.out.box.ext hE3
          have hbm3 := hbm.ext hE3
          refine wp_region_tab 13 [(4, fun v _ => v = .pointer (some ⟨w.heap.size + 1, 0, none⟩)), (9, fun v _ => v = .pointer (some ⟨t'.tb, 0, none⟩)), (11, fun v _ => v = .bool true)] (by kernel_rfl) (by kernel_rfl) (by kernel_rfl) ⟨stays_eq _, stays_eq _, stays_eq _, trivial⟩ ?_
          have z0 := held (show w3.cell? ⟨w.heap.size + 1, 1, none⟩ = some (.map (some w.heap.size)) by rw [hbx3.cell]; rfl)
          have m0 := held (show w3.cell? ⟨wr.heap.size, 0, none⟩ = some (.string tb) by rw [hbm3.cell]; rfl)
          refine rg_quiet rfl rfl rfl rfl ?_; intro K hK; go_big_quiet_op; go_big_quiet_on
          refine rg_quiet rfl rfl rfl rfl ?_; intro K hK; go_big_quiet_op; go_big_quiet_on
          refine rg_quiet rfl rfl rfl rfl ?_; intro K hK; go_big_quiet_op; go_big_quiet_on
          refine rg_quiet rfl rfl rfl rfl ?_; intro K hK; go_big_quiet_op; go_big_quiet_on
          refine rg_val [] rfl rfl rfl (by kernel_rfl) (fun w1 hE hf => ?_) ?_
          · go_simp
            exact rg_done hE (Ext.refl w1) rfl
          simp only [Act.put, List.setIfInBounds_toArray, List.set_cons_zero, List.set_cons_succ]
          refine rg_quiet rfl rfl rfl rfl ?_; intro K hK; go_big_quiet_op; go_big_quiet_on
          refine rg_quiet rfl rfl rfl rfl ?_; intro K hK; go_big_quiet_op; go_big_quiet_on
          refine rg_quiet rfl rfl rfl rfl ?_; intro K hK; go_big_quiet_op; go_big_quiet_on
          refine rg_quiet rfl rfl rfl rfl ?_; intro K hK; go_big_quiet_op; go_big_quiet_on
          refine rg_val [] rfl rfl rfl (by kernel_rfl) (fun w1 hE1 hf => ?_) ?_
          · exact yields_lookup (.tmp 35) (.tmp 37) rfl (by rfl) (by rfl) (HL2.out w1 (hE3.trans hE1)) (rg_done hE1 (Ext.refl w1) rfl)
          simp only [Act.put, List.setIfInBounds_toArray, List.set_cons_zero, List.set_cons_succ]
          refine rg_quiet rfl rfl rfl rfl ?_; intro K hK; go_big_quiet_op; go_big_quiet_on
          refine rg_val [] rfl rfl rfl (by kernel_rfl) (fun w1 hE hf => ?_) ?_
          · go_simp
            rw [run_eql_ptr_same _ _ und_ptab info_tab.1]
            exact rg_done hE (Ext.refl w1) rfl
          simp only [Act.put, List.setIfInBounds_toArray, List.set_cons_zero, List.set_cons_succ]
          refine rg_quiet rfl rfl rfl rfl ?_; intro K hK; go_big_quiet_op; go_big_quiet_on
          refine rel_nil fun w4 hE4 _ => ?_
          clear z0 m0
          go_wp2_with fail
          have hE34 := hE3.trans hE4
          have hbx4 := hbx3.ext hE4
          have hbm4 := hbm3.ext hE4
          have hTB4 := HTB.out.ext (HAW.out.ext.trans hE34)
          have H4 := Lib.hid hTB4
          have hmm := @run_makeMap Tryz.prog
          refine wp_region_relE (Ext w4) (fun _ => Ext) (TabP.at [(1, fun _ v _ => v = .pointer (some ⟨w.heap.size + 1, 0, none⟩)), (7, fun _ v _ => v = .pointer (some ⟨t'.tb, 0, none⟩)), (10, fun _ v y => ∃ b, v = .map (some b) ∧ w4.heap.size ≤ b ∧ SMapAt y b (t'.parts.map paE)), (11, fun _ v y => ∃ b, v = .map (some b) ∧ w4.heap.size ≤ b ∧ SMapAt y b []), (13, fun A v y => ∃ q, v = .pointer (some ⟨q, 0, none⟩) ∧ w4.heap.size ≤ q ∧ ∀ b b', A = [.agg #[.map (some b), .map (some b')]] → BoxAt y q #[.map (some b), .map (some b')] 99)])
            (TabP.staysE ⟨(fun _ _ _ _ _ _ _ h => h), (fun _ _ _ _ _ _ _ h => h), (fun _ _ _ _ _ _ hE ⟨b, e, h1, h2⟩ => ⟨b, e, h1, h2.ext hE⟩), (fun _ _ _ _ _ _ hE ⟨b, e, h1, h2⟩ => ⟨b, e, h1, h2.ext hE⟩), (fun _ _ _ _ _ _ hE ⟨q, e, h1, h2⟩ => ⟨q, e, h1, fun b b' h => (h2 b b' h).ext hE⟩), trivial⟩) 14 (by kernel_rfl) (by kernel_rfl) (by kernel_rfl) ((Ext.refl w4).drew) ?_
          have z0 := held (show w4.cell? ⟨w.heap.size + 1, 1, none⟩ = some (.map (some w.heap.size)) by rw [hbx4.cell]; rfl)
          have m0 := held (show w4.cell? ⟨wr.heap.size, 0, none⟩ = some (.string tb) by rw [hbm4.cell]; rfl)
          have m1 := held (show w4.cell? ⟨t'.tb, 0, none⟩ = some (.map (some t'.mp)) by rw [hTB4.box.cell]; rfl)
          refine rgE_quiet rfl rfl rfl rfl ?_; intro K hK; go_big_quiet_op; go_big_quiet_on
          refine relE_val [] rfl rfl rfl (by kernel_rfl) (fun z hz hf => ?_) ?_
          · go_simp
            exact ⟨hz, Ext.refl z, rfl⟩
          simp only [Act.put, List.setIfInBounds_toArray, List.set_cons_zero, List.set_cons_succ]
          refine rgE_quiet rfl rfl rfl rfl ?_; intro K hK; go_big_quiet_op; go_big_quiet_on
          refine rgE_quiet rfl rfl rfl rfl ?_; intro K hK; go_big_quiet_op; go_big_quiet_on
          refine rgE_quiet rfl rfl rfl rfl ?_; intro K hK; go_big_quiet_op; go_big_quiet_on
          refine rgE_quiet rfl rfl rfl rfl ?_; intro K hK; go_big_quiet_op; go_big_quiet_on
          refine rgE_quiet rfl rfl rfl rfl ?_; intro K hK; go_big_quiet_op; go_big_quiet_on
          refine relE_val [] rfl rfl rfl (by kernel_rfl) (fun z hz hf => ?_) ?_
          · go_simp
            exact ⟨hz, Ext.refl z, rfl⟩
          simp only [Act.put, List.setIfInBounds_toArray, List.set_cons_zero, List.set_cons_succ]
          refine rgE_quiet rfl rfl rfl rfl ?_; intro K hK; go_big_quiet_op; go_big_quiet_on
          refine rgE_quiet rfl rfl rfl rfl ?_; intro K hK; go_big_quiet_op; go_big_quiet_on
          refine relE_fact [] rfl rfl rfl (by kernel_rfl) (fun z hz hf => ?_) (fun v10 z10 hC10 hG10 h10 => ?_)
          · go_simp
            exact (ck_parts z (H4.out.pm.ext hz)).mono fun e w' ⟨⟨he, hx⟩, hm, _⟩ => ⟨_, he, hz.trans hx, hx, _, rfl, hz.size, hm⟩
          obtain ⟨b10, rfl, _⟩ := h10
          clear hC10 hG10
          simp only [Act.put, List.setIfInBounds_toArray, List.set_cons_zero, List.set_cons_succ]
          refine relE_fact [] rfl rfl rfl (by kernel_rfl) (fun z hz hf => ?_) (fun v11 z11 hC11 hG11 h11 => ?_)
          · go_simp
            exact ⟨hz.trans ((Ext.refl z).alloc _), (Ext.refl z).alloc _, _, rfl, hz.size, smap_new z⟩
          obtain ⟨b11, rfl, _⟩ := h11
          clear hC11 hG11
          simp only [Act.put, List.setIfInBounds_toArray, List.set_cons_zero, List.set_cons_succ]
          refine rgE_quiet rfl rfl rfl rfl ?_; intro K hK; go_big_quiet_op; go_big_quiet_on
          refine relE_factP [] rfl rfl rfl (by kernel_rfl) (fun z hz hf => ?_) (fun v13 z13 hC13 hG13 h13 => ?_)
          · go_simp
            refine ⟨hz.trans ((Ext.refl z).alloc _), (Ext.refl z).alloc _, _, rfl, hz.size, fun b b' h => ?_⟩
            have h2 : [Value.agg #[.map (some b10), .map (some b11)]] = [.agg #[.map (some b), .map (some b')]] := h
            simp at h2
            obtain ⟨rfl, rfl⟩ := h2
            exact BoxAt.made z _ _
          obtain ⟨q13, rfl, _⟩ := h13
          clear hC13 hG13
          simp only [Act.put, List.setIfInBounds_toArray, List.set_cons_zero, List.set_cons_succ]
          refine relE_tail rfl rfl fun w5 hE5 hG => ?_
          obtain ⟨_, e13, hq13, hb13⟩ := (hG 13).2 rfl
          obtain ⟨_, e11, hl11, hm11⟩ := (hG 11).1.2 rfl
          obtain ⟨_, e10, hl10, hm10⟩ := (hG 10).1.1.2 rfl
          cases e13
          cases e11
          cases e10
          have hb5 := hb13 b10 b11 rfl
          have hne : b10 ≠ b11 := fun e => HFU.out (by
            rw [← e] at hm11
            have := hm10.len_eq hm11 und_mparts
            simp at this
            exact this)
          clear hG hb13 z0 m0 m1
          have hE5w := hE34.trans hE5
          have hszw : wr.heap.size ≤ w4.heap.size := (hEW.trans hE34).size
          have hTN : TbAt w5 C ⟨tb, q13, b10, b11, t'.parts, []⟩ := ⟨hb5, hm10, hm11, fun p hp => (H4.out.rows p hp).ext hE5, hne, H4.out.few, H4.out.ok, nofun⟩
          obtain ⟨w6, hr6, hm6, ht6⟩ := smap_put (HAW.out.at_.map.ext hE5w) und_mtabs (k := tb) (by unfold maxLen; omega) (.pointer (some ⟨q13, 0, none⟩)) (by
            have h1 : tsc.length = ts.length := by have := congrArg List.length HAW.out.p; simpa using this
            rw [List.length_map, h1]; unfold maxLen; omega)
          have hSW := (HAW.out.ext_ hE34).swap (n := ⟨tb, q13, b10, b11, t'.parts, []⟩) hE5 hTN (t := t') HFD.out rfl (fun b hb => by
            simp only [Tb.blocks, List.mem_cons, List.not_mem_nil, or_false] at hb
            omega) ht6 hm6 q1
          have HSW := Lib.hid hSW
          clear hSW hTN hm6 ht6 hm10 hm11 hb5
          go_wp2_with fail
          go_roundw
          case rel => exact ⟨k + 1, _, by omega, by go_num, by rw [HTK.out]; exact HSW.out⟩
          case measure => simp [intOf]; omega
    · obtain rfl : k = n := by omega
      go_wp2
      go_ret
      have e : (M.map Mt.table).take k = M.map Mt.table := by rw [List.take_of_length_le (by rw [List.length_map, HN.out]; exact Nat.le_refl _)]
      rw [e] at A
      exact ⟨rfl, tsc, A⟩
end Go.Proofs.YtimbikbbbfpeeaaGreatDoor

/- A world in which one block may have turned. -/
namespace Go.Proofs.YtimbikbbbfpeeaaGreatDoor
open Go Go.RowKit

/-- All blocks but one stay. -/
structure Touch9 (w w' : World) (q : Nat) : Prop where
  os : w'.os = w.os
  tape : w'.tape = w.tape
  output : w'.output = w.output
  size : w.heap.size ≤ w'.heap.size
  block : ∀ k, k < w.heap.size → k ≠ q → w'.heap[k]? = w.heap[k]?
theorem Touch9.set (w : World) {q : Nat} (i : Nat) (u : Value) : Touch9 w (w.setCell ⟨q, i, none⟩ u) q := ⟨rfl, rfl, rfl, by rw [Deep.nblk_setCell]; exact Nat.le_refl _, fun k _ hn => heap_setCell_other _ _ _ _ hn⟩
theorem Touch9.more {w a b : World} {q : Nat} (h : Touch9 w a q) (hE : Ext a b) : Touch9 w b q := ⟨hE.os.trans h.os, hE.tape.trans h.tape, hE.output.trans h.output, Nat.le_trans h.size hE.size, fun k hk hn => (hE.block k (Nat.lt_of_lt_of_le hk h.size)).trans (h.block k hk hn)⟩
theorem Touch9.grown {w a b : World} {q : Nat} {r : Option Nat} (h : Touch9 w a q) (hg : a.grownBy b r) (hr : ∀ k, r = some k → w.heap.size ≤ k) : Touch9 w b q := ⟨hg.os.trans h.os, hg.tape.trans h.tape, hg.output.trans h.output, Nat.le_trans h.size hg.size, fun k hk hn => (hg.block k (Nat.lt_of_lt_of_le hk h.size) (fun e => by have := hr k e.symm; omega)).trans (h.block k hk hn)⟩
theorem Touch9.put {w a : World} {q : Nat} (h : Touch9 w a q) (i : Nat) (u : Value) : Touch9 w (a.setCell ⟨q, i, none⟩ u) q := ⟨h.os, h.tape, h.output, by rw [Deep.nblk_setCell]; exact h.size, fun k hk hn => (heap_setCell_other _ _ _ _ hn).trans (h.block k hk hn)⟩
theorem Touch9.slice {w a : World} {q : Nat} (h : Touch9 w a q) {v : Value} {n : Nat} {xs : List Value} (hs : SliceIn w v n xs) (hv : ∀ b o k c, v = .slice (some ⟨b, o, none⟩) k c → b ≠ q) : SliceIn a v n xs := by
  obtain ⟨ad, c, rfl, hc, hcm, ha, hcell⟩ := hs
  refine ⟨ad, c, rfl, hc, hcm, ha, fun j x hj => ?_⟩
  obtain ⟨b, o, rfl, hx⟩ := hcell j x hj
  have hne := hv b o n c rfl
  have hl := World.block_lt_of_cell? w _ hx
  refine ⟨b, o, rfl, ?_⟩
  rw [World.cell?_of_block (w := w) (h.block b hl hne)]
  exact hx
theorem Touch9.box {w a : World} {q p : Nat} (h : Touch9 w a q) {cs : Array Value} {e : TypeId} (hb : BoxAt w p cs e) (hp : p ≠ q) : BoxAt a p cs e := by
  have hl := hb.lt
  unfold BoxAt at *
  rw [h.block p hl hp]; exact hb
theorem Touch9.ext {w0 w a : World} {q : Nat} (h : Touch9 w a q) (hE : Ext w0 w) (hq : w0.heap.size ≤ q) : Ext w0 a := ⟨h.os.trans hE.os, h.tape.trans hE.tape, h.output.trans hE.output, Nat.le_trans hE.size h.size, fun k hk => (h.block k (Nat.lt_of_lt_of_le hk hE.size) (by omega)).trans (hE.block k hk)⟩
theorem Touch9.put2 {w a : World} {q p : Nat} (h : Touch9 w a q) (hp : w.heap.size ≤ p) (i : Nat) (u : Value) : Touch9 w (a.setCell ⟨p, i, none⟩ u) q := ⟨h.os, h.tape, h.output, by rw [Deep.nblk_setCell]; exact h.size, fun k hk hn => (heap_setCell_other _ _ _ _ (by show k ≠ p; omega)).trans (h.block k hk hn)⟩
theorem slice_off {w : World} {q i : Nat} {u v : Value} {n : Nat} {xs : List Value} (h : SliceIn w v n xs) (hv : ∀ b o k c, v = .slice (some ⟨b, o, none⟩) k c → b ≠ q) : SliceIn (w.setCell ⟨q, i, none⟩ u) v n xs := by
  obtain ⟨a, c, rfl, hc, hcm, ha, hcell⟩ := h
  refine ⟨a, c, rfl, hc, hcm, ha, fun j x hj => ?_⟩
  obtain ⟨b, o, rfl, hx⟩ := hcell j x hj
  have hne := hv b o n c rfl
  refine ⟨b, o, rfl, ?_⟩
  rw [World.cell?_of_block (w := w) (heap_setCell_other _ _ _ _ hne)]
  exact hx
theorem off_blk {b0 q : Nat} (h : b0 ≠ q) (n0 c0 : Nat) : ∀ b o k c, (.slice (some ⟨b0, 0, none⟩) n0 c0 : Value) = .slice (some ⟨b, o, none⟩) k c → b ≠ q := by
  intro b o k c e
  cases e
  exact h

end Go.Proofs.YtimbikbbbfpeeaaGreatDoor

/- order.GetNum: the number at a place. -/
namespace Go.Proofs.YtimbikbbbfpeeaaGreatDoor
open Go Go.RowKit
attribute [local go_sem] yields yUpon

/-- The number that bytes are, the first one highest. -/
def valB (l : List UInt8) : Nat := l.foldl (fun v b => v * 256 + b.toNat) 0
theorem valB_snoc (l : List UInt8) (b : UInt8) : valB (l ++ [b]) = valB l * 256 + b.toNat := by simp [valB]
theorem valB_lt : ∀ (n : Nat) (l : List UInt8), l.length = n → valB l < 256 ^ n
  | 0, l, h => by rw [List.eq_nil_of_length_eq_zero h]; simp [valB]
  | n + 1, l, h => by
    have hne : l ≠ [] := by intro e; simp [e] at h
    obtain ⟨m, b, rfl⟩ : ∃ m b, l = m ++ [b] := ⟨_, _, (List.dropLast_concat_getLast hne).symm⟩
    have ih := valB_lt n m (by simpa using h)
    rw [valB_snoc, Nat.pow_succ]
    have := b.toNat_lt
    omega
theorem or_step (V x : Nat) (hx : x < 256) (hV : V < 72057594037927936) : bits .or .u64 (IntKind.u64.wrap ((V : Int) * 256)) (IntKind.u64.wrap (x : Int)) = ((V * 256 + x : Nat) : Int) := by
  have e1 : IntKind.u64.wrap ((V : Int) * 256) = ((V * 256 : Nat) : Int) := by rw [IntKind.wrap_u64]; omega
  have e2 : IntKind.u64.wrap (x : Int) = ((x : Nat) : Int) := by rw [IntKind.wrap_u64]; omega
  rw [e1, e2, bits_or_u64_nat _ _ (by omega) (by omega)]
  have := Nat.shiftLeft_add_eq_or_of_lt (i := 8) (b := x) (by omega) V
  rw [Nat.shiftLeft_eq] at this
  rw [← this]
theorem valB_take (l : List UInt8) (k : Nat) (h : k < l.length) : valB (l.take (k + 1)) = valB (l.take k) * 256 + l[k].toNat := by
  rw [List.take_succ_eq_append_getElem h, valB_snoc]
theorem valB_take_lt (l : List UInt8) (k : Nat) (hk : k < 8) : valB (l.take k) < 72057594037927936 := by
  have h1 := valB_lt _ (l.take k) rfl
  have h2 : (l.take k).length ≤ 7 := by simp; omega
  exact Nat.lt_of_lt_of_le h1 (Nat.pow_le_pow_right (by decide) h2)

/-! ### GetNum -/
/-- The number at a place, the place behind it, the error: for a place that is no less than nought. -/
def getNumN (l : List UInt8) (i : Nat) : Nat × Int × Int :=
  if l.length < i then (0, 0, 1) else
  if h : i < l.length then
    if 8 < l[i].toNat then (0, 0, 6) else
    if 0 < l[i].toNat ∧ l[i + 1]? = some 0 then (0, 0, 6) else
    if l.length < i + 1 + l[i].toNat then (0, 0, 8) else
    (valB ((l.drop (i + 1)).take l[i].toNat), (i : Int) + 1 + l[i].toNat, 0)
  else (0, 0, 8)
def getNum (l : List UInt8) (at_ : Int) : Nat × Int × Int := if at_ < 0 then (0, 0, 1) else getNumN l at_.toNat
def tup3 (p : Nat × Int × Int) : Value := .tuple #[.int .u64 p.1, .int .i64 p.2.1, .int .i64 p.2.2]
theorem tup3_ret {l : List UInt8} {at_ : Int} {x y z : Int} {v : Nat} (h : getNum l at_ = (v, y, z)) (hx : x = (v : Int)) : Ending.returned (.tuple #[.int .u64 x, .int .i64 y, .int .i64 z]) = .returned (tup3 (getNum l at_)) := by rw [h, hx]; rfl

set_option maxHeartbeats 1000000 in
theorem getNum_any (v : Value) (l : List UInt8) (at_ : Int) (w : World) (hv : BytesIn w v l) (hl : l.length ≤ 140737488355328) :
    Calls Tryz.prog 100 #[v, .int .i64 at_] w fun e w' => e = .returned (tup3 (getNum l at_)) ∧ w = w' := by
  obtain ⟨a, c, rfl, hc, hcm, ha, hcell⟩ := hv
  unfold maxLen at hcm
  by_cases h0 : at_ < 0
  · have d0 : decide (at_ < 0) = true := by simpa using h0
    clear hcell ha
    go_enter Tryz.func100, Tryz.ntmps100
    go_wp2
    go_ret3
    refine ⟨tup3_ret (v := 0) ?_ (by rfl), rfl⟩
    unfold getNum
    rw [if_pos h0]
  · have d0 : decide (at_ < 0) = false := by simpa using h0
    obtain ⟨i, rfl⟩ : ∃ i : Nat, at_ = i := ⟨at_.toNat, by omega⟩
    have EN : Hid (getNum l (i : Int) = getNumN l i) := by unfold getNum; rw [if_neg h0]; rfl
    by_cases h1 : l.length < i
    · have d1 : decide ((l.length : Int) < (i : Int)) = true := by simpa using h1
      clear hcell ha
      go_enter Tryz.func100, Tryz.ntmps100
      go_wp2
      go_ret3
      refine ⟨tup3_ret (v := 0) ?_ (by rfl), rfl⟩
      rw [EN.out]
      unfold getNumN
      rw [if_pos h1]
    · have d1 : decide ((l.length : Int) < (i : Int)) = false := by simpa using h1
      by_cases h2 : i < l.length
      · have d2 : ((i : Int) == (l.length : Int)) = false := by simp; omega
        obtain ⟨b, o, rfl, hb⟩ := hcell i (.int .u8 l[i].toNat) (by simp [bcells, h2])
        obtain ⟨n, hn⟩ : ∃ n, n = l[i].toNat := ⟨_, rfl⟩
        have hn256 : n < 256 := by rw [hn]; exact l[i].toNat_lt
        rw [← hn] at hb
        by_cases h3 : 8 < n
        · have d3 : decide ((8 : Int) < (n : Int)) = true := by simp; omega
          have HN := Lib.hid hn
          clear hcell ha hn
          go_enter Tryz.func100, Tryz.ntmps100
          go_wp2
          go_ret3
          refine ⟨tup3_ret (v := 0) ?_ (by rfl), rfl⟩
          rw [EN.out]
          unfold getNumN
          rw [if_neg h1, dif_pos h2, if_pos (by rw [← HN.out]; exact h3)]
        · have d3 : decide ((8 : Int) < (n : Int)) = false := by simp; omega
          have d3' : decide (n > 8) = false := by simp; omega
          by_cases h4 : 0 < n ∧ l[i + 1]? = some 0
          · obtain ⟨h4, h5⟩ := h4
            have h6 : i + 1 < l.length := (List.getElem?_eq_some_iff.1 h5).1
            obtain ⟨b1, o1, e1, hb1⟩ := hcell (i + 1) (.int .u8 0) (by simp [bcells, h5])
            cases e1
            have d4 : decide ((i : Int) + 1 < (i : Int) + 1 + (n : Int)) = true := by simp; omega
            have d5 : decide ((i : Int) + 1 < (l.length : Int)) = true := by simp; omega
            have HN := Lib.hid hn
            clear hcell ha hn
            go_enter Tryz.func100, Tryz.ntmps100
            go_wp2
            go_ret3
            refine ⟨tup3_ret (v := 0) ?_ (by rfl), rfl⟩
            rw [EN.out]
            unfold getNumN
            rw [if_neg h1, dif_pos h2, if_neg (by rw [← HN.out]; exact h3), if_pos ⟨by rw [← HN.out]; exact h4, h5⟩]
          · by_cases hn0 : n = 0
            · have h7 : ¬ l.length < i + 1 + n := by omega
              have d4 : decide ((i : Int) + 1 < (i : Int) + 1 + (n : Int)) = false := by simp; omega
              have hn0 := Lib.hid hn0
              have HN := Lib.hid hn
              have H4 := Lib.hid h4
              have HC := Lib.hid hcell
              have d6 : decide ((l.length : Int) < (i : Int) + 1 + (n : Int)) = false := by simp; omega
              clear hcell ha hn h4
              go_enter Tryz.func100, Tryz.ntmps100
              go_wp2
              all_goals
                go_loop [4, 8, 68] (fun v x j => ∃ k : Nat, k ≤ n ∧ j = .int .i64 k ∧ v = .int .u64 (valB ((l.drop (i + 1)).take k))) (fun v x j => n - (intOf j).toNat)
                case atStart => exact ⟨0, Nat.zero_le _, rfl, rfl⟩
                case round =>
                  obtain ⟨k, hk, rfl, rfl⟩ := hrel
                  by_cases hlt : k < n
                  · first
                    | (exfalso; omega)
                    | (
                    obtain ⟨b2, o2, e2, hb2⟩ := HC.out (i + 1 + k) (.int .u8 l[i + 1 + k].toNat) (by simp [bcells, show i + 1 + k < l.length by omega])
                    cases e2
                    have hb2' : w.cell? ⟨b, o + (i + 1) + k, none⟩ = some (.int .u8 l[i + 1 + k].toNat) := by rw [Nat.add_assoc]; exact hb2
                    have hb3 : w.cell? ⟨b, o + i + 1 + k, none⟩ = some (.int .u8 l[i + 1 + k].toNat) := by rw [show o + i + 1 + k = o + (i + 1 + k) by omega]; exact hb2
                    go_wp2
                    go_round
                    case rel =>
                      refine ⟨k + 1, by omega, by go_num, ?_⟩
                      rw [valB_take _ _ (by simp; omega), ← or_step _ _ (UInt8.toNat_lt _) (valB_take_lt _ _ (by omega))]
                      try simp
                    case measure => simp [intOf] <;> omega)
                  · have hkn : k = n := by omega
                    go_wp2
                    go_ret3
                    refine ⟨tup3_ret (v := valB ((l.drop (i + 1)).take n)) ?_ ?_, rfl⟩
                    · rw [EN.out]
                      unfold getNumN
                      rw [if_neg h1, dif_pos h2, if_neg (by rw [← HN.out]; exact h3), if_neg (by rw [← HN.out]; exact H4.out), if_neg (by rw [← HN.out]; exact h7), ← HN.out]
                      try simp [hn0.out]
                    · first
                      | (rw [hn0.out]; rfl)
                      | rw [← hkn]
            · have d4 : decide ((i : Int) + 1 < (i : Int) + 1 + (n : Int)) = true := by simp; omega
              by_cases h6 : i + 1 < l.length
              · have d5 : decide ((i : Int) + 1 < (l.length : Int)) = true := by simp; omega
                obtain ⟨b1, o1, e1, hb1⟩ := hcell (i + 1) (.int .u8 l[i + 1].toNat) (by simp [bcells, h6])
                cases e1
                have hm0 : ((l[i + 1].toNat : Int) == 0) = false := by
                  simp only [beq_eq_false_iff_ne]
                  intro he
                  exact h4 ⟨by omega, by rw [List.getElem?_eq_getElem h6]; congr 1; exact UInt8.toNat_inj.1 (by simpa using he)⟩
                by_cases h7 : l.length < i + 1 + n
                · have HN := Lib.hid hn
                  have H4 := Lib.hid h4
                  have d6 : decide ((l.length : Int) < (i : Int) + 1 + (n : Int)) = true := by simp; omega
                  clear hcell ha hn h4
                  go_enter Tryz.func100, Tryz.ntmps100
                  go_wp2
                  go_ret3
                  refine ⟨tup3_ret (v := 0) ?_ (by rfl), rfl⟩
                  rw [EN.out]
                  unfold getNumN
                  rw [if_neg h1, dif_pos h2, if_neg (by rw [← HN.out]; exact h3), if_neg (by rw [← HN.out]; exact H4.out), if_pos (by rw [← HN.out]; exact h7)]
                · have HN := Lib.hid hn
                  have H4 := Lib.hid h4
                  have HC := Lib.hid hcell
                  have d6 : decide ((l.length : Int) < (i : Int) + 1 + (n : Int)) = false := by simp; omega
                  clear hcell ha hn h4
                  go_enter Tryz.func100, Tryz.ntmps100
                  go_wp2
                  all_goals
                    go_loop [4, 8, 68] (fun v x j => ∃ k : Nat, k ≤ n ∧ j = .int .i64 k ∧ v = .int .u64 (valB ((l.drop (i + 1)).take k))) (fun v x j => n - (intOf j).toNat)
                    case atStart => exact ⟨0, Nat.zero_le _, rfl, rfl⟩
                    case round =>
                      obtain ⟨k, hk, rfl, rfl⟩ := hrel
                      by_cases hlt : k < n
                      · first
                        | (exfalso; omega)
                        | (
                        obtain ⟨b2, o2, e2, hb2⟩ := HC.out (i + 1 + k) (.int .u8 l[i + 1 + k].toNat) (by simp [bcells, show i + 1 + k < l.length by omega])
                        cases e2
                        have hb2' : w.cell? ⟨b, o + (i + 1) + k, none⟩ = some (.int .u8 l[i + 1 + k].toNat) := by rw [Nat.add_assoc]; exact hb2
                        have hb3 : w.cell? ⟨b, o + i + 1 + k, none⟩ = some (.int .u8 l[i + 1 + k].toNat) := by rw [show o + i + 1 + k = o + (i + 1 + k) by omega]; exact hb2
                        go_wp2
                        go_round
                        case rel =>
                          refine ⟨k + 1, by omega, by go_num, ?_⟩
                          rw [valB_take _ _ (by simp; omega), ← or_step _ _ (UInt8.toNat_lt _) (valB_take_lt _ _ (by omega))]
                          try simp
                        case measure => simp [intOf] <;> omega)
                      · have hkn : k = n := by omega
                        go_wp2
                        go_ret3
                        refine ⟨tup3_ret (v := valB ((l.drop (i + 1)).take n)) ?_ ?_, rfl⟩
                        · rw [EN.out]
                          unfold getNumN
                          rw [if_neg h1, dif_pos h2, if_neg (by rw [← HN.out]; exact h3), if_neg (by rw [← HN.out]; exact H4.out), if_neg (by rw [← HN.out]; exact h7), ← HN.out]
                          try simp [hn0.out]
                        · first
                          | (rw [hn0.out]; rfl)
                          | rw [← hkn]
              · have d5 : decide ((i : Int) + 1 < (l.length : Int)) = false := by simp; omega
                have h7 : l.length < i + 1 + n := by omega
                have HN := Lib.hid hn
                have H4 := Lib.hid h4
                have d6 : decide ((l.length : Int) < (i : Int) + 1 + (n : Int)) = true := by simp; omega
                clear hcell ha hn h4
                go_enter Tryz.func100, Tryz.ntmps100
                go_wp2
                go_ret3
                refine ⟨tup3_ret (v := 0) ?_ (by rfl), rfl⟩
                rw [EN.out]
                unfold getNumN
                rw [if_neg h1, dif_pos h2, if_neg (by rw [← HN.out]; exact h3), if_neg (by rw [← HN.out]; exact H4.out), if_pos (by rw [← HN.out]; exact h7)]
      · have d2 : ((i : Int) == (l.length : Int)) = true := by simp; omega
        clear hcell ha
        go_enter Tryz.func100, Tryz.ntmps100
        go_wp2
        go_ret3
        refine ⟨tup3_ret (v := 0) ?_ (by rfl), rfl⟩
        rw [EN.out]
        unfold getNumN
        rw [if_neg h1, dif_neg h2]
end Go.Proofs.YtimbikbbbfpeeaaGreatDoor
