/- pack.CheckBatch of any batch. -/
import Derived.Test.YtimbikbbbfpeeaaGreatDoorP29
import Derived.Test.YtimbikbbbfpeeaaGreatDoorP34
import Derived.Test.YtimbikbbbfpeeaaGreatDoorP5
import Derived.Test.YtimbikbbbfpeeaaGreatDoorP26
import Derived.Test.YtimbikbbbfpeeaaGreatDoorP6
import Derived.Laws.IdiomStrings
import Derived.Deep.Heap
import Derived.Test.YtimbikbbbfpeeaaGreatDoorP31
set_option linter.unusedSimpArgs false
set_option linter.unusedVariables false
namespace Go.Proofs.YtimbikbbbfpeeaaGreatDoor
open Go Go.RowKit
attribute [local go_sem] yields yUpon
set_option maxRecDepth 100000 in
set_option maxHeartbeats 8000000 in
theorem cb_gen (vm va vd : Value) (M : List Mt) (A : List Nt) (D : List Int) (w : World) (hT : TabU w) (hM : MtsIn w vm M) (hA : NtsIn w va A) (hD : IntsIn w vd .i64 D) (hMb : ∀ x ∈ M, x.table.size ≤ 1000000 ∧ ∀ p ∈ x.pa.ps, ∀ c ∈ p.1.cols, c.name.size ≤ 1000000) (hAb : ∀ x ∈ A, x.body.size ≤ 1000000) :
    Calls Tryz.prog 36 #[.agg #[vm, va, vd]] w fun e w' => e = .returned (.bool (cbG M A D)) ∧ Ext w w' := by
  obtain ⟨am, cm, rfl, hcm, hcmm, hgm⟩ := hM.get
  obtain ⟨aa, ca, rfl, hca, hcma, hga⟩ := hA.get
  obtain ⟨ad, cd, rfl, hcd, hcmd, _, hgd⟩ := hD
  unfold maxLen at hcmd
  have HGM := Lib.hid hgm
  have HGA := Lib.hid hga
  have HGD := Lib.hid hgd
  have HMB := Lib.hid hMb
  have HAB := Lib.hid hAb
  have HROW := Lib.hid hM.rows
  clear hgm hga hgd hMb hAb hM hA
  obtain ⟨mn, hmn⟩ : ∃ n, n = M.length := ⟨_, rfl⟩
  obtain ⟨an, han⟩ : ∃ n, n = A.length := ⟨_, rfl⟩
  obtain ⟨dn, hdn⟩ : ∃ n, n = D.length := ⟨_, rfl⟩
  rw [← hmn] at hcm ⊢
  rw [← han] at hca ⊢
  rw [← hdn] at hcd ⊢
  have HMN := Lib.hid hmn
  have HAN := Lib.hid han
  have HDN := Lib.hid hdn
  clear hmn han hdn
  have hE0 := (Ext.refl w).alloc (.cells #[.slice am mn cm, .slice aa an ca, .slice ad dn cd] 37)
  have hbx := BoxAt.made w #[.slice am mn cm, .slice aa an ca, .slice ad dn cd] 37
  obtain ⟨R, hR⟩ : ∃ R, R = cbG M A D := ⟨_, rfl⟩
  have HR : Hid (R = (decide (mn ≤ 64) && decide (an ≤ 300) && decide (dn ≤ 300) && M.all okMt && A.all okNt && D.all idB)) := Lib.hid (by rw [hR, HMN.out, HAN.out, HDN.out]; rfl)
  rw [← hR]
  clear hR
  by_cases hsz : mn ≤ 64 ∧ an ≤ 300 ∧ dn ≤ 300
  · obtain ⟨z1, z2, z3⟩ := hsz
    have y1 : ¬ (64 : Int) < (mn : Int) := by omega
    have y2 : ¬ (300 : Int) < (an : Int) := by omega
    have y3 : ¬ (300 : Int) < (dn : Int) := by omega
    have HR2 : Hid (R = (M.all okMt && A.all okNt && D.all idB)) := Lib.hid (by rw [HR.out, decide_eq_true z1, decide_eq_true z2, decide_eq_true z3]; rfl)
    clear HR
    go_enter Tryz.func36, Tryz.ntmps36
    go_wp2
    obtain ⟨W0, hW0⟩ : ∃ W0, W0 = w.alloc (.cells #[.slice am mn cm, .slice aa an ca, .slice ad dn cd] 37) := ⟨_, rfl⟩
    rw [← hW0] at hE0 hbx ⊢
    clear hW0
    go_loopw [28] (fun i wr => ∃ k : Nat, k ≤ mn ∧ i = .int .i64 (k : Int) ∧ Hid ((M.take k).all okMt = true) ∧ Ext W0 wr) (fun i _ => mn - (intOf i).toNat)
    case atStart => exact ⟨0, Nat.zero_le _, rfl, Lib.hid rfl, Ext.refl W0⟩
    case round =>
      obtain ⟨k, hk, rfl, HP, hE⟩ := hrel
      by_cases hlt : k < mn
      · have hkF : k < M.length := by rw [← HMN.out]; exact hlt
        obtain ⟨b, o, rfl, ⟨g0, g1, g2, g3⟩⟩ := HGM.out k hkF
        obtain ⟨ra, rc, hrv⟩ : ∃ a c, (M[k]).pa.rv = .slice a (M[k]).pa.ps.length c := let ⟨a, c, e, _⟩ := (HROW.out _ (List.getElem_mem hkF)).get; ⟨a, c, e⟩
        have hrw := HROW.out _ (List.getElem_mem hkF)
        rw [hrv] at g3 hrw
        replace g0 := (hE0.trans hE).cell g0
        replace g1 := (hE0.trans hE).cell g1
        replace g2 := (hE0.trans hE).cell g2
        replace g3 := (hE0.trans hE).cell g3
        obtain ⟨q1, q2⟩ := HMB.out _ (List.getElem_mem hkF)
        have HP1 : Hid (okMt M[k] = true → (M.take (k + 1)).all okMt = true) := Lib.hid fun h => all_take hkF HP.out h
        have HP0 : Hid (okMt M[k] = false → R = false) := Lib.hid fun h => by rw [HR2.out, all_no hkF h]; rfl
        have HOK : Hid (okMt M[k] = (nameB (M[k]).table && ptB (M[k]).pa.key (M[k]).pa.gone ((M[k]).pa.ps.map (·.1)))) := Lib.hid rfl
        obtain ⟨ok, hok⟩ : ∃ ok, ok = okMt M[k] := ⟨_, rfl⟩
        obtain ⟨t, ht⟩ : ∃ t, t = (M[k]).table := ⟨_, rfl⟩
        obtain ⟨ky, hky⟩ : ∃ t, t = (M[k]).pa.key := ⟨_, rfl⟩
        obtain ⟨gn, hgn⟩ : ∃ t, t = (M[k]).pa.gone := ⟨_, rfl⟩
        obtain ⟨ps, hps⟩ : ∃ t, t = (M[k]).pa.ps := ⟨_, rfl⟩
        rw [← hok] at HP1 HP0 HOK
        rw [← ht] at g0 q1 HOK
        rw [← hky] at g1 HOK
        rw [← hgn] at g2 HOK
        rw [← hps] at g3 hrw q2 HOK
        obtain ⟨rn, hrn⟩ : ∃ n, n = ps.length := ⟨_, rfl⟩
        rw [← hrn] at g3 hrw
        have HQ2 := Lib.hid q2
        clear hok ht hky hgn hps hrv hrn q2
        have hEb := (Ext.refl wr).alloc (.cells #[.string t, .string ky, .int .i64 gn, .slice ra rn rc] 54)
        have hbm := BoxAt.made wr #[.string t, .string ky, .int .i64 gn, .slice ra rn rc] 54
        have hTb := hT.ext ((hE0.trans hE).trans hEb)
        have t1 : decide ((k : Int) < (mn : Int)) = true := by simp; omega
        cases hn : nameB t
        · have HN := Lib.hid hn
          clear hn
          go_wp2_with (go_at_call 71; go_must (refine (name_gen t (by omega) _ hTb).mono ?_); rintro e w5 ⟨rfl, hE5⟩; rw [HN.out])
          go_ret
          exact ⟨by rw [HP0.out (by rw [HOK.out, HN.out]; rfl)]; rfl, ((hE0.trans hE).trans hEb).trans hE5⟩
        · have HN := Lib.hid hn
          clear hn
          cases hg : ptB ky gn (ps.map (·.1))
          all_goals
            have HG := Lib.hid hg
            clear hg
            go_wp2_with (first
              | (go_at_call 71; go_must (refine (name_gen t (by omega) _ hTb).mono ?_); rintro e w5 ⟨rfl, hE5⟩; rw [HN.out]; have hb5 := hbm.ext hE5; have y1 : w5.cell? ⟨wr.heap.size, 1, none⟩ = some (.string ky) := hb5.cell 1; have y2 : w5.cell? ⟨wr.heap.size, 2, none⟩ = some (.int .i64 gn) := hb5.cell 2; have y3 : w5.cell? ⟨wr.heap.size, 3, none⟩ = some (.slice ra rn rc) := hb5.cell 3)
              | (go_at_call 72; go_must (refine (pcheck_gen ky gn _ ps _ (hrw.ext (((hE0.trans hE).trans hEb).trans hE5)) HQ2.out (hTb.ext hE5)).mono ?_); rintro e w6 ⟨rfl, hE6⟩; rw [HG.out]))
          · go_ret
            exact ⟨by rw [HP0.out (by rw [HOK.out, HN.out, HG.out]; rfl)]; rfl, (((hE0.trans hE).trans hEb).trans hE5).trans hE6⟩
          · go_roundw
            case rel => exact ⟨k + 1, by omega, by go_num, Lib.hid (HP1.out (by rw [HOK.out, HN.out, HG.out]; rfl)), ((hE.trans hEb).trans hE5).trans hE6⟩
            case measure => simp [intOf]; omega
      · obtain rfl : k = mn := by omega
        have HR3 : Hid (R = (A.all okNt && D.all idB)) := Lib.hid (by
          have h1 := HP.out
          rw [HMN.out, List.take_length] at h1
          rw [HR2.out, h1]; rfl)
        clear HR2 HP
        have hbx1 := hbx.ext hE
        have c1 : wr.cell? ⟨w.heap.size, 1, none⟩ = some (.slice aa an ca) := hbx1.cell 1
        have c2 : wr.cell? ⟨w.heap.size, 2, none⟩ = some (.slice ad dn cd) := hbx1.cell 2
        go_wp2_with fail
        obtain ⟨w1, rfl⟩ : ∃ w', w' = wr := ⟨_, rfl⟩
        go_loopw [46] (fun i wr => ∃ k : Nat, k ≤ an ∧ i = .int .i64 (k : Int) ∧ Hid ((A.take k).all okNt = true) ∧ Ext w1 wr) (fun i _ => an - (intOf i).toNat)
        case atStart => exact ⟨0, Nat.zero_le _, rfl, Lib.hid rfl, Ext.refl w1⟩
        case round =>
          obtain ⟨j, hj, rfl, HP, hE2⟩ := hrel
          have hEw := (hE0.trans hE).trans hE2
          by_cases hlt2 : j < an
          · have hkF : j < A.length := by rw [← HAN.out]; exact hlt2
            obtain ⟨b, o, rfl, g0, g1⟩ := HGA.out j hkF
            replace g0 := hEw.cell g0
            replace g1 := hEw.cell g1
            have q1 := HAB.out _ (List.getElem_mem hkF)
            have HP1 : Hid (okNt A[j] = true → (A.take (j + 1)).all okNt = true) := Lib.hid fun h => all_take hkF HP.out h
            have HP0 : Hid (okNt A[j] = false → R = false) := Lib.hid fun h => by rw [HR3.out, all_no hkF h]; rfl
            have HOK : Hid (okNt A[j] = (idB (A[j]).id && decide ((A[j]).body.size ≤ 4096))) := Lib.hid rfl
            obtain ⟨ok, hok⟩ : ∃ ok, ok = okNt A[j] := ⟨_, rfl⟩
            obtain ⟨x, hx⟩ : ∃ t, t = (A[j]).id := ⟨_, rfl⟩
            obtain ⟨bd, hbd⟩ : ∃ t, t = (A[j]).body := ⟨_, rfl⟩
            rw [← hok] at HP1 HP0 HOK
            rw [← hx] at g0 HOK
            rw [← hbd] at g1 q1 HOK
            clear hok hx hbd
            have hEb := (Ext.refl wr).alloc (.cells #[.int .i64 x, .string bd] 32)
            have t1 : decide ((j : Int) < (an : Int)) = true := by simp; omega
            cases hn : idB x
            · have HN := Lib.hid hn
              clear hn
              go_wp2_with (go_at_call 73; go_must (refine (id_any x _).mono ?_); rintro e w5 ⟨rfl, rfl⟩; rw [HN.out])
              go_ret
              exact ⟨by rw [HP0.out (by rw [HOK.out, HN.out]; rfl)]; rfl, hEw.trans hEb⟩
            · have HN := Lib.hid hn
              clear hn
              by_cases hs : bd.size ≤ 4096
              · have t2 : decide ((4096 : Int) < (bd.size : Int)) = false := by simp; omega
                go_wp2_with (go_at_call 73; go_must (refine (id_any x _).mono ?_); rintro e w5 ⟨rfl, rfl⟩; rw [HN.out])
                go_roundw
                case rel => exact ⟨j + 1, by omega, by go_num, Lib.hid (HP1.out (by rw [HOK.out, HN.out, decide_eq_true hs]; rfl)), hE2.trans hEb⟩
                case measure => simp [intOf]; omega
              · have t2 : decide ((4096 : Int) < (bd.size : Int)) = true := by simp; omega
                go_wp2_with (go_at_call 73; go_must (refine (id_any x _).mono ?_); rintro e w5 ⟨rfl, rfl⟩; rw [HN.out])
                go_ret
                exact ⟨by rw [HP0.out (by rw [HOK.out, HN.out, decide_eq_false hs]; rfl)]; rfl, hEw.trans hEb⟩
          · obtain rfl : j = an := by omega
            have HR4 : Hid (R = D.all idB) := Lib.hid (by
              have h1 := HP.out
              rw [HAN.out, List.take_length] at h1
              rw [HR3.out, h1]; rfl)
            clear HR3 HP
            have hbx2 := hbx1.ext hE2
            have c3 : wr.cell? ⟨w.heap.size, 2, none⟩ = some (.slice ad dn cd) := hbx2.cell 2
            clear c1 c2
            go_wp2_with fail
            obtain ⟨w2, rfl⟩ : ∃ w', w' = wr := ⟨_, rfl⟩
            go_loopw [64] (fun i wr => ∃ k : Nat, k ≤ dn ∧ i = .int .i64 (k : Int) ∧ Hid ((D.take k).all idB = true) ∧ wr = w2) (fun i _ => dn - (intOf i).toNat)
            case atStart => exact ⟨0, Nat.zero_le _, rfl, Lib.hid rfl, rfl⟩
            case round =>
              obtain ⟨d, hd, rfl, HP, rfl⟩ := hrel
              by_cases hlt3 : d < dn
              · have hkF : d < D.length := by rw [← HDN.out]; exact hlt3
                obtain ⟨b, o, rfl, g0⟩ := HGD.out d (.int .i64 D[d]) (by rw [kcells_get, List.getElem?_eq_getElem hkF]; rfl)
                replace g0 := hEw.cell g0
                have HP1 : Hid (idB D[d] = true → (D.take (d + 1)).all idB = true) := Lib.hid fun h => all_take hkF HP.out h
                have HP0 : Hid (idB D[d] = false → R = false) := Lib.hid fun h => by rw [HR4.out, all_no hkF h]
                obtain ⟨x, hx⟩ : ∃ t, t = D[d] := ⟨_, rfl⟩
                rw [← hx] at g0 HP1 HP0
                clear hx
                have t1 : decide ((d : Int) < (dn : Int)) = true := by simp; omega
                cases hn : idB x
                · have HN := Lib.hid hn
                  clear hn
                  go_wp2_with (go_at_call 73; go_must (refine (id_any x _).mono ?_); rintro e w5 ⟨rfl, rfl⟩; rw [HN.out])
                  go_ret
                  exact ⟨by rw [HP0.out HN.out]; rfl, hEw⟩
                · have HN := Lib.hid hn
                  clear hn
                  go_wp2_with (go_at_call 73; go_must (refine (id_any x _).mono ?_); rintro e w5 ⟨rfl, rfl⟩; rw [HN.out])
                  go_roundw
                  case rel => exact ⟨d + 1, by omega, by go_num, Lib.hid (HP1.out HN.out), (by first | rfl | trivial)⟩
                  case measure => simp [intOf]; omega
              · obtain rfl : d = dn := by omega
                have HR5 : Hid (R = true) := Lib.hid (by
                  have h1 := HP.out
                  rw [HDN.out, List.take_length] at h1
                  rw [HR4.out, h1])
                go_wp2_with fail
                go_ret
                exact ⟨by rw [HR5.out]; rfl, hEw⟩
  · have HR2 : Hid (R = false) := Lib.hid (by
      rw [HR.out]
      by_cases z1 : mn ≤ 64
      · by_cases z2 : an ≤ 300
        · rw [decide_eq_false (p := dn ≤ 300) (by omega)]; simp
        · rw [decide_eq_false z2]; simp
      · rw [decide_eq_false z1]; simp)
    have hex : (64 : Int) < (mn : Int) ∨ (¬ (64 : Int) < (mn : Int) ∧ (300 : Int) < (an : Int)) ∨ (¬ (64 : Int) < (mn : Int) ∧ ¬ (300 : Int) < (an : Int) ∧ (300 : Int) < (dn : Int)) := by omega
    clear HR hsz
    rcases hex with y1 | ⟨y1, y2⟩ | ⟨y1, y2, y3⟩
    all_goals
      go_enter Tryz.func36, Tryz.ntmps36
      go_wp2
      go_ret
      exact ⟨by rw [HR2.out]; rfl, hE0⟩
end Go.Proofs.YtimbikbbbfpeeaaGreatDoor

/- A text's bytes, in new memory. -/
namespace Go.Proofs.YtimbikbbbfpeeaaGreatDoor
open Go Go.RowKit

theorem conv_bytesB (w : World) (s : ByteArray) (hs : s.size ≤ maxLen) : ∃ c w', (convert 9 61 (.string s)).run Tryz.prog w = .ok (.slice (some ⟨w.heap.size, 0, none⟩) s.size c) w' ∧ BytesIn w' (.slice (some ⟨w.heap.size, 0, none⟩) s.size c) s.data.toList ∧ Ext w w' ∧ w'.heap.size = w.heap.size + 1 := by
  have hz : s.data.toList.length = s.size := by rw [Array.length_toList]; rfl
  refine ⟨_, _, run_bytes_of_string w 9 61 5 s und_string und_bytes und_u8, ?_, (Ext.refl w).drew.alloc _, by rw [Deep.nblk_alloc]; rfl⟩
  have h1 := grownCap_ge w s.size 0 5
  refine ⟨_, _, rfl, h1, grownCap_le_maxLen w s.size 0 5 hs, nofun, fun j u hj => ⟨w.heap.size, 0, rfl, ?_⟩⟩
  rw [Nat.zero_add, cell_of_row _ w.heap.size j _ _ _ (heap_alloc_new w.drew _)]
  simp only [bcells, List.getElem?_map] at hj
  unfold bytesRow
  rw [Array.getElem?_append_left (by have := (List.getElem?_eq_some_iff.1 (Option.map_eq_some_iff.1 hj).choose_spec.1).1; simpa using this)]
  simpa using hj
theorem yields_strB {a : Act} {w : World} {o : Oper} (x : Operand) (ho : o.op = .convert 9 61 x) {s : ByteArray} (hx : a.eval x = .string s) (hs : s.size ≤ maxLen) {R : Value → World → Prop}
    (hR : ∀ c w', BytesIn w' (.slice (some ⟨w.heap.size, 0, none⟩) s.size c) s.data.toList → Ext w w' → w'.heap.size = w.heap.size + 1 → R (.slice (some ⟨w.heap.size, 0, none⟩) s.size c) w') : yields Tryz.prog o a w R := by
  obtain ⟨c, w', h1, h2, h3, h4⟩ := conv_bytesB w s hs
  unfold yields execOp
  simp only [ho, Sem.run_bind, hx, h1, Result.andThen_ok, Sem.run_pure]
  exact hR c w' h2 h3 h4
theorem wpList_strB {ops : Array Oper} {rest : List Oper} {o : Oper} {a : Act} {w : World} {Q : Exit → Act → World → Prop} (hw : Region.wanted o (yielded ops a.tmps) = true) (x : Operand) (ho : o.op = .convert 9 61 x) {s : ByteArray} (hx : a.eval x = .string s) (hs : s.size ≤ maxLen)
    (hK : ∀ c w', BytesIn w' (.slice (some ⟨w.heap.size, 0, none⟩) s.size c) s.data.toList → Ext w w' → w'.heap.size = w.heap.size + 1 → wpList Tryz.prog ops Q rest (a.put o.dst (.slice (some ⟨w.heap.size, 0, none⟩) s.size c)) w') : wpList Tryz.prog ops Q (o :: rest) a w := by
  unfold wpList
  rw [if_pos hw]
  exact .inl (yields_wp (yields_strB (R := fun v w' => wpList Tryz.prog ops Q rest (a.put o.dst v) w') x ho hx hs hK) fun v w' h => h)
end Go.Proofs.YtimbikbbbfpeeaaGreatDoor

/- pack's reader: note, mut. -/
namespace Go.Proofs.YtimbikbbbfpeeaaGreatDoor
open Go Go.RowKit
attribute [local go_sem] yields yUpon

def nt2 (n : Nt) : Array Value := #[.int .i64 n.id, .string n.body]
theorem BoxAt.nt {w : World} {p : Nat} {a b : Value} {e : TypeId} (h : BoxAt w p #[a, b] e) : w.cell? ⟨p, 0, none⟩ = some a ∧ w.cell? ⟨p, 1, none⟩ = some b := ⟨h.cell 0, h.cell 1⟩
theorem BoxAt.mt {w : World} {p : Nat} {a b c d : Value} {e : TypeId} (h : BoxAt w p #[a, b, c, d] e) : w.cell? ⟨p, 0, none⟩ = some a ∧ w.cell? ⟨p, 1, none⟩ = some b ∧ w.cell? ⟨p, 2, none⟩ = some c ∧ w.cell? ⟨p, 3, none⟩ = some d := ⟨h.cell 0, h.cell 1, h.cell 2, h.cell 3⟩

set_option maxRecDepth 100000 in
set_option maxHeartbeats 4000000 in
theorem rd_noteW {w : World} {q : Nat} {v : Value} {B : List UInt8} {s : Nat × Int} (h : RdAt w q v B s) :
    Calls Tryz.prog 114 #[.pointer (some ⟨q, 0, none⟩)] w fun e w' => e = .returned (.agg (nt2 (noteR B s).1)) ∧ RdAt w' q v B (noteR B s).2 ∧ Touch9 w w' q := by
  have hq := h.lt
  have hE0 := (Ext.refl w).alloc (.cells #[.int .i64 0, .string ⟨#[]⟩] 32)
  have b2 := BoxAt.made w #[.int .i64 0, .string ⟨#[]⟩] 32
  have h0 := h.ext hE0
  have hq2 : w.heap.size ≠ q := by omega
  unfold noteR
  obtain ⟨G, s1, hG⟩ : ∃ G s1, numR B s = (G, s1) := ⟨_, _, rfl⟩
  obtain ⟨X, s2, hX⟩ : ∃ X s2, txtR B s1 = (X, s2) := ⟨_, _, rfl⟩
  rw [hG]
  simp only
  rw [hX]
  have k1 := rd_number h0
  rw [hG] at k1
  simp only at k1 ⊢
  have K1 := Lib.hid k1
  have HX := Lib.hid hX
  clear k1 hX hG
  unfold nt2
  simp only
  go_enter Tryz.func114, Tryz.ntmps114
  go_wp2_with (go_at_call 116; go_must (refine K1.out.mono ?_); rintro e w1 ⟨rfl, h1, hT1⟩; have b21 := hT1.box b2 hq2; have hq3 : w1.heap.size ≠ q := (by have := h1.lt; omega))
  have b3 := BoxAt.made w1 #[.int .i64 (G : Int), .string ⟨#[]⟩] 32
  have hEa := (Ext.refl w1).alloc (.cells #[.int .i64 (G : Int), .string ⟨#[]⟩] 32)
  have h1a := h1.ext hEa
  have hT1a := (Touch9.of_ext hE0 q).trans (hT1.more hEa)
  have hle1 : w.heap.size ≤ w1.heap.size := by have := hE0.le; have := hT1.size; omega
  have hne23 : w.heap.size ≠ w1.heap.size := by have := b21.lt; omega
  refine (rd_text h1a).mono ?_
  rintro e w2 ⟨rfl, h2, hT2⟩
  rw [HX.out] at h2
  simp only at h2
  rw [HX.out]
  have b22 := hT2.box (b21.ext hEa) hq2
  have b32 := hT2.box b3 hq3
  have y1 : w2.cell? ⟨w1.heap.size, 1, none⟩ = some (.string ⟨#[]⟩) := b32.cell 1
  have yf := b32.free
  have P2 := rd_done1 h ⟨h2, hT1a.trans hT2⟩ hle1 1 (.string X)
  have b33 : BoxAt (w2.setCell ⟨w1.heap.size, 1, none⟩ (.string X)) w1.heap.size #[.int .i64 (G : Int), .string X] 32 := b32.set 1 _
  have b23 := b22.other hne23 1 (.string X)
  have z0 : (w2.setCell ⟨w1.heap.size, 1, none⟩ (.string X)).cell? ⟨w1.heap.size, 0, none⟩ = some (.int .i64 (G : Int)) := b33.cell 0
  have z1 : (w2.setCell ⟨w1.heap.size, 1, none⟩ (.string X)).cell? ⟨w1.heap.size, 1, none⟩ = some (.string X) := b33.cell 1
  have x0 : (w2.setCell ⟨w1.heap.size, 1, none⟩ (.string X)).cell? ⟨w.heap.size, 0, none⟩ = some (.int .i64 0) := b23.cell 0
  have x1 : (w2.setCell ⟨w1.heap.size, 1, none⟩ (.string X)).cell? ⟨w.heap.size, 1, none⟩ = some (.string ⟨#[]⟩) := b23.cell 1
  have xf := b23.free
  go_wp2_with fail
  refine bodyPost_ret (v := .agg #[.int .i64 (G : Int), .string X]) ?_ rfl ⟨rfl, rd_done1 h (rd_done1 h P2 (Nat.le_refl _) _ _) (Nat.le_refl _) _ _⟩
  generalize hW : World.setCell _ _ _ = w99
  have hb : BoxAt w99 w.heap.size #[.int .i64 (G : Int), .string X] 32 := by rw [← hW]; exact (b23.set 0 _).set 1 _
  obtain ⟨z0, z1⟩ := hb.nt
  simp [results, Tryz.results114, go_sem, z0, z1]
  try rfl

set_option maxRecDepth 100000 in
set_option maxHeartbeats 4000000 in
theorem rd_mutW {w : World} {q : Nat} {v : Value} {B : List UInt8} {s : Nat × Int} (h : RdAt w q v B s) :
    Calls Tryz.prog 112 #[.pointer (some ⟨q, 0, none⟩)] w fun e w' => ∃ u ps, e = .returned (.agg #[.string (mutR B s).1.table, .string (mutR B s).1.pt.key, .int .i64 (mutR B s).1.pt.gone, u]) ∧ RowsT w' u ps ∧ ps.map (·.1) = (mutR B s).1.pt.rows ∧ RdAt w' q v B (mutR B s).2 ∧ Touch9 w w' q := by
  have hq := h.lt
  have hbig := h.big
  have hE0 := (Ext.refl w).alloc (.cells #[.string ⟨#[]⟩, .string ⟨#[]⟩, .int .i64 0, .slice none 0 0] 54)
  have b2 := BoxAt.made w #[.string ⟨#[]⟩, .string ⟨#[]⟩, .int .i64 0, .slice none 0 0] 54
  have h0 := h.ext hE0
  have hq2 : w.heap.size ≠ q := by omega
  unfold mutR
  obtain ⟨X, s1, hX⟩ : ∃ X s1, txtR B s = (X, s1) := ⟨_, _, rfl⟩
  obtain ⟨Y, s2, hY⟩ : ∃ Y s2, txtR B s1 = (Y, s2) := ⟨_, _, rfl⟩
  have hYs : Y.size ≤ B.length := by have := txtR_size B s1; rw [hY] at this; exact this
  obtain ⟨⟨key, gone, rows⟩, ⟨pi, pe⟩, hP⟩ : ∃ p t, prtR Y.data.toList (0, s2.2) = (p, t) := ⟨_, _, rfl⟩
  rw [hX]
  simp only
  rw [hY]
  simp only
  rw [hP]
  simp only
  have k1 := rd_text h0
  rw [hX] at k1
  simp only at k1
  have K1 := Lib.hid k1
  have HY := Lib.hid hY
  have HP := Lib.hid hP
  clear k1 hX hY hP
  go_enter Tryz.func112, Tryz.ntmps112
  go_wp2_with fail
  refine K1.out.mono ?_
  rintro e w1 ⟨rfl, h1, hT1⟩
  have b21 := hT1.box b2 hq2
  have hq3 : w1.heap.size ≠ q := by have := h1.lt; omega
  have b3 := BoxAt.made w1 #[.string X, .string ⟨#[]⟩, .int .i64 0, .slice none 0 0] 54
  have hEa := (Ext.refl w1).alloc (.cells #[.string X, .string ⟨#[]⟩, .int .i64 0, .slice none 0 0] 54)
  have h1a := h1.ext hEa
  have hT1a := (Touch9.of_ext hE0 q).trans (hT1.more hEa)
  have hle1 : w.heap.size ≤ w1.heap.size := by have := hE0.le; have := hT1.size; omega
  have hne23 : w.heap.size ≠ w1.heap.size := by have := b21.lt; omega
  go_wp2_with fail
  refine (rd_text h1a).mono ?_
  rintro e w2 ⟨rfl, h2, hT2⟩
  rw [HY.out] at h2
  simp only at h2
  rw [HY.out]
  have b22 := hT2.box (b21.ext hEa) hq2
  have b32 := hT2.box b3 hq3
  have hq4 : w2.heap.size ≠ q := by have := h2.lt; omega
  obtain ⟨j2, e2⟩ := s2
  simp only at HP ⊢
  have hsz2 := hT2.size
  have hlt3 := b32.lt
  go_wp2_with ((guard_target =~ wpList _ _ _ (Oper.mk (some 11) _ _ _ _ _ :: _) _ _); go_must (refine wpList_strB (by rfl) (.tmp 10) rfl rfl (by unfold maxLen; omega) ?_); intro c3 w3 hby hE3 hsz3; have h3 := h2.ext hE3; have q2 : w3.cell? ⟨q, 2, none⟩ = some (.int .i64 e2) := h3.c2)
  have hin : RdAt (w3.alloc (.cells #[.slice (some ⟨w2.heap.size, 0, none⟩) Y.size c3, .int .i64 0, .int .i64 e2] 197)) (w2.heap.size + 1) (.slice (some ⟨w2.heap.size, 0, none⟩) Y.size c3) Y.data.toList (0, e2) :=
    ⟨BoxAt.madeN _ _ hsz3, hby.ext ((Ext.refl w3).alloc _), fun b o k c e => by cases e; omega, Nat.zero_le _, by rw [dat_size]; omega⟩
  refine (rd_part hin).mono ?_
  rintro e w5 ⟨u, ps, rfl, hr, hmap, hin5, hT5⟩
  rw [HP.out] at hin5 hmap
  simp only at hin5 hmap
  rw [HP.out]
  simp only
  have hr' := hr
  obtain ⟨ua, uc, rfl⟩ := hr'.shape
  have hE25 : Ext w2 w5 := hT5.ext (hE3.alloc _) (by omega)
  have hT25 := Touch9.of_ext hE25 q
  have h5 := h2.ext hE25
  have b25 := b22.ext hE25
  have b35 := b32.ext hE25
  have y1 : w5.cell? ⟨w1.heap.size, 1, none⟩ = some (.string ⟨#[]⟩) := b35.cell 1
  have y2 : w5.cell? ⟨w1.heap.size, 2, none⟩ = some (.int .i64 0) := b35.cell 2
  have y3 : w5.cell? ⟨w1.heap.size, 3, none⟩ = some (.slice none 0 0) := b35.cell 3
  have yf := b35.free
  have P5 := rd_done1 h (rd_done1 h (rd_done1 h ⟨h5, (hT1a.trans hT2).trans hT25⟩ hle1 1 (.string key)) hle1 2 (.int .i64 gone)) hle1 3 (.slice ua ps.length uc)
  have b36 : BoxAt (((w5.setCell ⟨w1.heap.size, 1, none⟩ (.string key)).setCell ⟨w1.heap.size, 2, none⟩ (.int .i64 gone)).setCell ⟨w1.heap.size, 3, none⟩ (.slice ua ps.length uc)) w1.heap.size #[.string X, .string key, .int .i64 gone, .slice ua ps.length uc] 54 := ((b35.set 1 (.string key)).set 2 (.int .i64 gone)).set 3 (.slice ua ps.length uc)
  have b26 := ((b25.other hne23 1 (.string key)).other hne23 2 (.int .i64 gone)).other hne23 3 (.slice ua ps.length uc)
  have hr6 := RowsT.set 3 (.slice ua ps.length uc) ((b35.set 1 (.string key)).set 2 (.int .i64 gone)) (by decide) (by decide) (RowsT.set 2 (.int .i64 gone) (b35.set 1 (.string key)) (by decide) (by decide) (RowsT.set 1 (.string key) b35 (by decide) (by decide) hr))
  have hneQ : w2.heap.size + 1 ≠ w1.heap.size := by omega
  have bQ := ((hin5.box.other hneQ 1 (.string key)).other hneQ 2 (.int .i64 gone)).other hneQ 3 (.slice ua ps.length uc)
  have qe : (((w5.setCell ⟨w1.heap.size, 1, none⟩ (.string key)).setCell ⟨w1.heap.size, 2, none⟩ (.int .i64 gone)).setCell ⟨w1.heap.size, 3, none⟩ (.slice ua ps.length uc)).cell? ⟨w2.heap.size + 1, 2, none⟩ = some (.int .i64 pe) := bQ.cell 2
  unfold pa3
  go_wp2_with fail
  generalize hw6 : World.setCell (World.setCell (World.setCell w5 _ _) _ _) _ _ = w6 at P5 b36 b26 hr6 bQ qe ⊢
  refine (rd_fail pe P5.1).mono ?_
  rintro e w7 ⟨rfl, h7, hT7⟩
  have b27 := hT7.box b26 hq2
  have b37 := hT7.box b36 hq3
  have hr7 := hr6.touch9 hT7 P5.1.box (by decide) (by decide)
  have z0 : w7.cell? ⟨w1.heap.size, 0, none⟩ = some (.string X) := b37.cell 0
  have z1 : w7.cell? ⟨w1.heap.size, 1, none⟩ = some (.string key) := b37.cell 1
  have z2 : w7.cell? ⟨w1.heap.size, 2, none⟩ = some (.int .i64 gone) := b37.cell 2
  have z3 : w7.cell? ⟨w1.heap.size, 3, none⟩ = some (.slice ua ps.length uc) := b37.cell 3
  have x0 : w7.cell? ⟨w.heap.size, 0, none⟩ = some (.string ⟨#[]⟩) := b27.cell 0
  have x1 : w7.cell? ⟨w.heap.size, 1, none⟩ = some (.string ⟨#[]⟩) := b27.cell 1
  have x2 : w7.cell? ⟨w.heap.size, 2, none⟩ = some (.int .i64 0) := b27.cell 2
  have x3 : w7.cell? ⟨w.heap.size, 3, none⟩ = some (.slice none 0 0) := b27.cell 3
  have xf := b27.free
  have P7 := rd_done1 h (rd_done1 h (rd_done1 h (rd_done1 h ⟨h7, P5.2.trans hT7⟩ (Nat.le_refl _) 0 (.string X)) (Nat.le_refl _) 1 (.string key)) (Nat.le_refl _) 2 (.int .i64 gone)) (Nat.le_refl _) 3 (.slice ua ps.length uc)
  have hr8 := RowsT.set 3 (.slice ua ps.length uc) (((b27.set 0 (.string X)).set 1 (.string key)).set 2 (.int .i64 gone)) (by decide) (by decide) (RowsT.set 2 (.int .i64 gone) ((b27.set 0 (.string X)).set 1 (.string key)) (by decide) (by decide) (RowsT.set 1 (.string key) (b27.set 0 (.string X)) (by decide) (by decide) (RowsT.set 0 (.string X) b27 (by decide) (by decide) hr7)))
  go_wp2_with fail
  refine bodyPost_ret (v := .agg #[.string X, .string key, .int .i64 gone, .slice ua ps.length uc]) ?_ rfl ⟨_, ps, rfl, hr8, hmap, P7⟩
  generalize hW : World.setCell _ _ _ = w99
  have hb : BoxAt w99 w.heap.size #[.string X, .string key, .int .i64 gone, .slice ua ps.length uc] 54 := by rw [← hW]; exact (((b27.set 0 _).set 1 _).set 2 _).set 3 _
  obtain ⟨z0, z1, z2, z3⟩ := hb.mt
  simp [results, Tryz.results112, go_sem, z0, z1, z2, z3]
  try rfl
end Go.Proofs.YtimbikbbbfpeeaaGreatDoor
