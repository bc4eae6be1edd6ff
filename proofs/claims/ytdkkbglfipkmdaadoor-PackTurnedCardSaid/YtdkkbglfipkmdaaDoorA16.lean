/- pack.CheckBatch of batches whose partitions have no rows. -/
import Derived.Test.YtdkkbglfipkmdaaDoorA15
import Derived.Test.YtdkkbglfipkmdaaDoorA8
import Derived.Test.YtdkkbglfipkmdaaDoorA13
import Derived.Test.YtdkkbglfipkmdaaDoorA1
import Derived.OpenShut
import Derived.Test.YtdkkbglfipkmdaaDoorA2
import Derived.Laws.OwnMore
set_option linter.unusedSimpArgs false
set_option linter.unusedVariables false
namespace Go.Proofs.YtdkkbglfipkmdaaDoor
open Go Go.RowKit
attribute [local go_sem] yields yUpon

/-- A mutation: its table, its partition's key and gone; a note. -/
structure Mu where
  table : ByteArray
  key : ByteArray
  gone : Int
structure Nt where
  id : Int
  body : ByteArray
def Mu.cells (x : Mu) : List Value := [.string x.table, .string x.key, .int .i64 x.gone, .slice none 0 0]
def Nt.cells (x : Nt) : List Value := [.int .i64 x.id, .string x.body]
def MusIn (w : World) (v : Value) (l : List Mu) : Prop := SliceIn w v l.length (l.flatMap Mu.cells)
def NtsIn (w : World) (v : Value) (l : List Nt) : Prop := SliceIn w v l.length (l.flatMap Nt.cells)
theorem MusIn.ext {w w' : World} (hE : Ext w w') {v : Value} {l : List Mu} (h : MusIn w v l) : MusIn w' v l := SliceIn.ext hE h
theorem NtsIn.ext {w w' : World} (hE : Ext w w') {v : Value} {l : List Nt} (h : NtsIn w v l) : NtsIn w' v l := SliceIn.ext hE h
theorem mus_at : ∀ {l : List Mu} {k : Nat} (hk : k < l.length) {j : Nat} (_ : j < 4), (l.flatMap Mu.cells)[k * 4 + j]? = (l[k]).cells[j]?
  | [], k, hk, _, _ => by simp at hk
  | o :: l, 0, _, j, hj => by rw [List.flatMap_cons, Nat.zero_mul, Nat.zero_add, List.getElem?_append_left (by show j < 4; exact hj)]; rfl
  | o :: l, k + 1, hk, j, hj => by
    have ih := mus_at (l := l) (k := k) (by simpa using hk) hj
    have e : o.cells.length = 4 := rfl
    rw [List.flatMap_cons, List.getElem?_append_right (by rw [e]; omega), e, show (k + 1) * 4 + j - 4 = k * 4 + j by omega, ih]
    rfl
theorem nts_at : ∀ {l : List Nt} {k : Nat} (hk : k < l.length) {j : Nat} (_ : j < 2), (l.flatMap Nt.cells)[k * 2 + j]? = (l[k]).cells[j]?
  | [], k, hk, _, _ => by simp at hk
  | o :: l, 0, _, j, hj => by rw [List.flatMap_cons, Nat.zero_mul, Nat.zero_add, List.getElem?_append_left (by show j < 2; exact hj)]; rfl
  | o :: l, k + 1, hk, j, hj => by
    have ih := nts_at (l := l) (k := k) (by simpa using hk) hj
    have e : o.cells.length = 2 := rfl
    rw [List.flatMap_cons, List.getElem?_append_right (by rw [e]; omega), e, show (k + 1) * 2 + j - 2 = k * 2 + j by omega, ih]
    rfl
theorem MusIn.get {w : World} {v : Value} {l : List Mu} (h : MusIn w v l) : ∃ a c, v = .slice a l.length c ∧ l.length ≤ c ∧ c ≤ 9223372036854775807 ∧ ∀ k (hk : k < l.length), ∃ b o, a = some ⟨b, o, none⟩ ∧ w.cell? ⟨b, o + k * 4, none⟩ = some (.string (l[k]).table) ∧ w.cell? ⟨b, o + k * 4 + 1, none⟩ = some (.string (l[k]).key) ∧ w.cell? ⟨b, o + k * 4 + 2, none⟩ = some (.int .i64 (l[k]).gone) ∧ w.cell? ⟨b, o + k * 4 + 3, none⟩ = some (.slice none 0 0) := by
  obtain ⟨a, c, rfl, hc, hcm, ha, hcell⟩ := h
  unfold maxLen at hcm
  refine ⟨a, c, rfl, hc, by omega, fun k hk => ?_⟩
  obtain ⟨b, o, rfl, h0⟩ := hcell (k * 4 + 0) _ (mus_at hk (by decide))
  obtain ⟨b1, o1, e1, h1⟩ := hcell (k * 4 + 1) _ (mus_at hk (by decide))
  cases e1
  obtain ⟨b1, o1, e1, h2⟩ := hcell (k * 4 + 2) _ (mus_at hk (by decide))
  cases e1
  obtain ⟨b1, o1, e1, h3⟩ := hcell (k * 4 + 3) _ (mus_at hk (by decide))
  cases e1
  exact ⟨b, o, rfl, h0, by rw [Nat.add_assoc]; exact h1, by rw [Nat.add_assoc]; exact h2, by rw [Nat.add_assoc]; exact h3⟩
theorem NtsIn.get {w : World} {v : Value} {l : List Nt} (h : NtsIn w v l) : ∃ a c, v = .slice a l.length c ∧ l.length ≤ c ∧ c ≤ 9223372036854775807 ∧ ∀ k (hk : k < l.length), ∃ b o, a = some ⟨b, o, none⟩ ∧ w.cell? ⟨b, o + k * 2, none⟩ = some (.int .i64 (l[k]).id) ∧ w.cell? ⟨b, o + k * 2 + 1, none⟩ = some (.string (l[k]).body) := by
  obtain ⟨a, c, rfl, hc, hcm, ha, hcell⟩ := h
  unfold maxLen at hcm
  refine ⟨a, c, rfl, hc, by omega, fun k hk => ?_⟩
  obtain ⟨b, o, rfl, h0⟩ := hcell (k * 2 + 0) _ (nts_at hk (by decide))
  obtain ⟨b1, o1, e1, h1⟩ := hcell (k * 2 + 1) _ (nts_at hk (by decide))
  cases e1
  exact ⟨b, o, rfl, h0, by rw [Nat.add_assoc]; exact h1⟩

def idB (n : Int) : Bool := decide (1 ≤ n) && decide (n ≤ 1099511627776)
def okMu (x : Mu) : Bool := nameB x.table && decide (0 ≤ x.gone)
def okNt (x : Nt) : Bool := idB x.id && decide (x.body.size ≤ 4096)
def cbB (M : List Mu) (A : List Nt) (D : List Int) : Bool := decide (M.length ≤ 64) && decide (A.length ≤ 300) && decide (D.length ≤ 300) && M.all okMu && A.all okNt && D.all idB

set_option maxHeartbeats 400000 in
theorem id_any (n : Int) (w : World) : Calls Tryd.prog 90 #[.int .i64 n] w fun e w' => e = .returned (.bool (idB n)) ∧ w = w' := by
  by_cases h1 : 1 ≤ n
  · have t1 : decide (1 ≤ n) = true := by simpa using h1
    have e : idB n = decide (n ≤ 1099511627776) := by unfold idB; rw [t1]; rfl
    rw [e]
    go_enter Tryd.func90, Tryd.ntmps90
    go_wp2
    go_ret
    exact ⟨rfl, rfl⟩
  · have t1 : decide (1 ≤ n) = false := by simpa using h1
    have e : idB n = false := by unfold idB; rw [t1]; rfl
    rw [e]
    go_enter Tryd.func90, Tryd.ntmps90
    go_wp2
    go_ret
    exact ⟨rfl, rfl⟩
theorem check0_any (k : ByteArray) (g : Int) (hk : k.size ≤ 100) (h1 : g ≤ 1099511627776) (w : World) :
    Calls Tryd.prog 56 #[.agg #[.string k, .int .i64 g, .slice none 0 0]] w fun e w' => e = .returned (.bool (decide (0 ≤ g))) ∧ Ext w w' := by
  by_cases h0 : 0 ≤ g
  · rw [decide_eq_true h0]; exact check0_ok k g hk h0 h1 w
  · rw [decide_eq_false h0]; exact check0_no k g hk (by omega) w

theorem all_no {α : Type} {p : α → Bool} {l : List α} {k : Nat} (hk : k < l.length) (h : p l[k] = false) : l.all p = false := by
  rw [List.all_eq_false]
  exact ⟨_, List.getElem_mem hk, by rw [h]; decide⟩
theorem all_take {α : Type} {p : α → Bool} {l : List α} {k : Nat} (hk : k < l.length) (h : (l.take k).all p = true) (h1 : p l[k] = true) : (l.take (k + 1)).all p = true := by
  rw [List.take_succ_eq_append_getElem hk, List.all_append, h]; simpa using h1

set_option maxRecDepth 100000 in
set_option maxHeartbeats 8000000 in
theorem cb_any (vm va vd : Value) (M : List Mu) (A : List Nt) (D : List Int) (w : World) (hT : TabU w) (hM : MusIn w vm M) (hA : NtsIn w va A) (hD : IntsIn w vd .i64 D) (hMb : ∀ x ∈ M, x.table.size ≤ 100 ∧ x.key.size ≤ 100 ∧ x.gone ≤ 1099511627776) (hAb : ∀ x ∈ A, x.body.size ≤ 1000000) :
    Calls Tryd.prog 30 #[.agg #[vm, va, vd]] w fun e w' => e = .returned (.bool (cbB M A D)) ∧ Ext w w' := by
  obtain ⟨am, cm, rfl, hcm, hcmm, hgm⟩ := hM.get
  obtain ⟨aa, ca, rfl, hca, hcma, hga⟩ := hA.get
  obtain ⟨ad, cd, rfl, hcd, hcmd, _, hgd⟩ := hD
  unfold maxLen at hcmd
  have HGM := Lib.hid hgm
  have HGA := Lib.hid hga
  have HGD := Lib.hid hgd
  have HMB := Lib.hid hMb
  have HAB := Lib.hid hAb
  clear hgm hga hgd hMb hAb hM hA
  obtain ⟨mn, hmn⟩ : ∃ n, n = M.length := ⟨_, rfl⟩
  obtain ⟨an, han⟩ : ∃ n, n = A.length := ⟨_, rfl⟩
  obtain ⟨dn, hdn⟩ : ∃ n, n = D.length := ⟨_, rfl⟩
  rw [← hmn] at hcm ⊢
  rw [← han] at hca ⊢
  rw [← hdn] at hcd ⊢
  have HMN := Lib.hid hmn
  have HAN := Lib.hid han
  have HDN := Lib.hid hdn
  clear hmn han hdn
  have hE0 := (Ext.refl w).alloc (.cells #[.slice am mn cm, .slice aa an ca, .slice ad dn cd] 39)
  have hbx := BoxAt.made w #[.slice am mn cm, .slice aa an ca, .slice ad dn cd] 39
  obtain ⟨R, hR⟩ : ∃ R, R = cbB M A D := ⟨_, rfl⟩
  have HR : Hid (R = (decide (mn ≤ 64) && decide (an ≤ 300) && decide (dn ≤ 300) && M.all okMu && A.all okNt && D.all idB)) := Lib.hid (by rw [hR, HMN.out, HAN.out, HDN.out]; rfl)
  rw [← hR]
  clear hR
  by_cases hsz : mn ≤ 64 ∧ an ≤ 300 ∧ dn ≤ 300
  · obtain ⟨z1, z2, z3⟩ := hsz
    have y1 : ¬ (64 : Int) < (mn : Int) := by omega
    have y2 : ¬ (300 : Int) < (an : Int) := by omega
    have y3 : ¬ (300 : Int) < (dn : Int) := by omega
    have HR2 : Hid (R = (M.all okMu && A.all okNt && D.all idB)) := Lib.hid (by rw [HR.out, decide_eq_true z1, decide_eq_true z2, decide_eq_true z3]; rfl)
    clear HR
    go_enter Tryd.func30, Tryd.ntmps30
    go_wp2
    obtain ⟨W0, hW0⟩ : ∃ W0, W0 = w.alloc (.cells #[.slice am mn cm, .slice aa an ca, .slice ad dn cd] 39) := ⟨_, rfl⟩
    rw [← hW0] at hE0 hbx ⊢
    clear hW0
    go_loopw [28] (fun i wr => ∃ k : Nat, k ≤ mn ∧ i = .int .i64 (k : Int) ∧ Hid ((M.take k).all okMu = true) ∧ Ext W0 wr) (fun i _ => mn - (intOf i).toNat)
    case atStart => exact ⟨0, Nat.zero_le _, rfl, Lib.hid rfl, Ext.refl W0⟩
    case round =>
      obtain ⟨k, hk, rfl, HP, hE⟩ := hrel
      by_cases hlt : k < mn
      · have hkF : k < M.length := by rw [← HMN.out]; exact hlt
        obtain ⟨b, o, rfl, g0, g1, g2, g3⟩ := HGM.out k hkF
        replace g0 := (hE0.trans hE).cell g0
        replace g1 := (hE0.trans hE).cell g1
        replace g2 := (hE0.trans hE).cell g2
        replace g3 := (hE0.trans hE).cell g3
        obtain ⟨q1, q2, q3⟩ := HMB.out _ (List.getElem_mem hkF)
        have HP1 : Hid (okMu M[k] = true → (M.take (k + 1)).all okMu = true) := Lib.hid fun h => all_take hkF HP.out h
        have HP0 : Hid (okMu M[k] = false → R = false) := Lib.hid fun h => by rw [HR2.out, all_no hkF h]; rfl
        have HOK : Hid (okMu M[k] = (nameB (M[k]).table && decide (0 ≤ (M[k]).gone))) := Lib.hid rfl
        obtain ⟨ok, hok⟩ : ∃ ok, ok = okMu M[k] := ⟨_, rfl⟩
        obtain ⟨t, ht⟩ : ∃ t, t = (M[k]).table := ⟨_, rfl⟩
        obtain ⟨ky, hky⟩ : ∃ t, t = (M[k]).key := ⟨_, rfl⟩
        obtain ⟨gn, hgn⟩ : ∃ t, t = (M[k]).gone := ⟨_, rfl⟩
        rw [← hok] at HP1 HP0 HOK
        rw [← ht] at g0 q1 HOK
        rw [← hky] at g1 q2
        rw [← hgn] at g2 q3 HOK
        clear hok ht hky hgn
        have hEb := (Ext.refl wr).alloc (.cells #[.string t, .string ky, .int .i64 gn, .slice none 0 0] 59)
        have hbm := BoxAt.made wr #[.string t, .string ky, .int .i64 gn, .slice none 0 0] 59
        have hTb := hT.ext ((hE0.trans hE).trans hEb)
        have t1 : decide ((k : Int) < (mn : Int)) = true := by simp; omega
        cases hn : nameB t
        · have HN := Lib.hid hn
          clear hn
          go_wp2_with (go_at_call 89; go_must (refine (name_gen t (by omega) _ hTb).mono ?_); rintro e w5 ⟨rfl, hE5⟩; rw [HN.out])
          go_ret
          exact ⟨by rw [HP0.out (by rw [HOK.out, HN.out]; rfl)]; rfl, ((hE0.trans hE).trans hEb).trans hE5⟩
        · have HN := Lib.hid hn
          clear hn
          cases hg : decide (0 ≤ gn)
          all_goals
            have HG := Lib.hid hg
            clear hg
            go_wp2_with (first
              | (go_at_call 89; go_must (refine (name_gen t (by omega) _ hTb).mono ?_); rintro e w5 ⟨rfl, hE5⟩; rw [HN.out]; have hb5 := hbm.ext hE5; have y1 : w5.cell? ⟨wr.heap.size, 1, none⟩ = some (.string ky) := hb5.cell 1; have y2 : w5.cell? ⟨wr.heap.size, 2, none⟩ = some (.int .i64 gn) := hb5.cell 2; have y3 : w5.cell? ⟨wr.heap.size, 3, none⟩ = some (.slice none 0 0) := hb5.cell 3)
              | (go_at_call 56; go_must (refine (check0_any ky gn q2 q3 _).mono ?_); rintro e w6 ⟨rfl, hE6⟩; rw [HG.out]))
          · go_ret
            exact ⟨by rw [HP0.out (by rw [HOK.out, HN.out, HG.out]; rfl)]; rfl, (((hE0.trans hE).trans hEb).trans hE5).trans hE6⟩
          · go_roundw
            case rel => exact ⟨k + 1, by omega, by go_num, Lib.hid (HP1.out (by rw [HOK.out, HN.out, HG.out]; rfl)), ((hE.trans hEb).trans hE5).trans hE6⟩
            case measure => simp [intOf]; omega
      · obtain rfl : k = mn := by omega
        have HR3 : Hid (R = (A.all okNt && D.all idB)) := Lib.hid (by
          have h1 := HP.out
          rw [HMN.out, List.take_length] at h1
          rw [HR2.out, h1]; rfl)
        clear HR2 HP
        have hbx1 := hbx.ext hE
        have c1 : wr.cell? ⟨w.heap.size, 1, none⟩ = some (.slice aa an ca) := hbx1.cell 1
        have c2 : wr.cell? ⟨w.heap.size, 2, none⟩ = some (.slice ad dn cd) := hbx1.cell 2
        go_wp2_with fail
        obtain ⟨w1, rfl⟩ : ∃ w', w' = wr := ⟨_, rfl⟩
        go_loopw [46] (fun i wr => ∃ k : Nat, k ≤ an ∧ i = .int .i64 (k : Int) ∧ Hid ((A.take k).all okNt = true) ∧ Ext w1 wr) (fun i _ => an - (intOf i).toNat)
        case atStart => exact ⟨0, Nat.zero_le _, rfl, Lib.hid rfl, Ext.refl w1⟩
        case round =>
          obtain ⟨j, hj, rfl, HP, hE2⟩ := hrel
          have hEw := (hE0.trans hE).trans hE2
          by_cases hlt2 : j < an
          · have hkF : j < A.length := by rw [← HAN.out]; exact hlt2
            obtain ⟨b, o, rfl, g0, g1⟩ := HGA.out j hkF
            replace g0 := hEw.cell g0
            replace g1 := hEw.cell g1
            have q1 := HAB.out _ (List.getElem_mem hkF)
            have HP1 : Hid (okNt A[j] = true → (A.take (j + 1)).all okNt = true) := Lib.hid fun h => all_take hkF HP.out h
            have HP0 : Hid (okNt A[j] = false → R = false) := Lib.hid fun h => by rw [HR3.out, all_no hkF h]; rfl
            have HOK : Hid (okNt A[j] = (idB (A[j]).id && decide ((A[j]).body.size ≤ 4096))) := Lib.hid rfl
            obtain ⟨ok, hok⟩ : ∃ ok, ok = okNt A[j] := ⟨_, rfl⟩
            obtain ⟨x, hx⟩ : ∃ t, t = (A[j]).id := ⟨_, rfl⟩
            obtain ⟨bd, hbd⟩ : ∃ t, t = (A[j]).body := ⟨_, rfl⟩
            rw [← hok] at HP1 HP0 HOK
            rw [← hx] at g0 HOK
            rw [← hbd] at g1 q1 HOK
            clear hok hx hbd
            have hEb := (Ext.refl wr).alloc (.cells #[.int .i64 x, .string bd] 61)
            have t1 : decide ((j : Int) < (an : Int)) = true := by simp; omega
            cases hn : idB x
            · have HN := Lib.hid hn
              clear hn
              go_wp2_with (go_at_call 90; go_must (refine (id_any x _).mono ?_); rintro e w5 ⟨rfl, rfl⟩; rw [HN.out])
              go_ret
              exact ⟨by rw [HP0.out (by rw [HOK.out, HN.out]; rfl)]; rfl, hEw.trans hEb⟩
            · have HN := Lib.hid hn
              clear hn
              by_cases hs : bd.size ≤ 4096
              · have t2 : decide ((4096 : Int) < (bd.size : Int)) = false := by simp; omega
                go_wp2_with (go_at_call 90; go_must (refine (id_any x _).mono ?_); rintro e w5 ⟨rfl, rfl⟩; rw [HN.out])
                go_roundw
                case rel => exact ⟨j + 1, by omega, by go_num, Lib.hid (HP1.out (by rw [HOK.out, HN.out, decide_eq_true hs]; rfl)), hE2.trans hEb⟩
                case measure => simp [intOf]; omega
              · have t2 : decide ((4096 : Int) < (bd.size : Int)) = true := by simp; omega
                go_wp2_with (go_at_call 90; go_must (refine (id_any x _).mono ?_); rintro e w5 ⟨rfl, rfl⟩; rw [HN.out])
                go_ret
                exact ⟨by rw [HP0.out (by rw [HOK.out, HN.out, decide_eq_false hs]; rfl)]; rfl, hEw.trans hEb⟩
          · obtain rfl : j = an := by omega
            have HR4 : Hid (R = D.all idB) := Lib.hid (by
              have h1 := HP.out
              rw [HAN.out, List.take_length] at h1
              rw [HR3.out, h1]; rfl)
            clear HR3 HP
            have hbx2 := hbx1.ext hE2
            have c3 : wr.cell? ⟨w.heap.size, 2, none⟩ = some (.slice ad dn cd) := hbx2.cell 2
            clear c1 c2
            go_wp2_with fail
            obtain ⟨w2, rfl⟩ : ∃ w', w' = wr := ⟨_, rfl⟩
            go_loopw [64] (fun i wr => ∃ k : Nat, k ≤ dn ∧ i = .int .i64 (k : Int) ∧ Hid ((D.take k).all idB = true) ∧ wr = w2) (fun i _ => dn - (intOf i).toNat)
            case atStart => exact ⟨0, Nat.zero_le _, rfl, Lib.hid rfl, rfl⟩
            case round =>
              obtain ⟨d, hd, rfl, HP, rfl⟩ := hrel
              by_cases hlt3 : d < dn
              · have hkF : d < D.length := by rw [← HDN.out]; exact hlt3
                obtain ⟨b, o, rfl, g0⟩ := HGD.out d (.int .i64 D[d]) (by rw [kcells_get, List.getElem?_eq_getElem hkF]; rfl)
                replace g0 := hEw.cell g0
                have HP1 : Hid (idB D[d] = true → (D.take (d + 1)).all idB = true) := Lib.hid fun h => all_take hkF HP.out h
                have HP0 : Hid (idB D[d] = false → R = false) := Lib.hid fun h => by rw [HR4.out, all_no hkF h]
                obtain ⟨x, hx⟩ : ∃ t, t = D[d] := ⟨_, rfl⟩
                rw [← hx] at g0 HP1 HP0
                clear hx
                have t1 : decide ((d : Int) < (dn : Int)) = true := by simp; omega
                cases hn : idB x
                · have HN := Lib.hid hn
                  clear hn
                  go_wp2_with (go_at_call 90; go_must (refine (id_any x _).mono ?_); rintro e w5 ⟨rfl, rfl⟩; rw [HN.out])
                  go_ret
                  exact ⟨by rw [HP0.out HN.out]; rfl, hEw⟩
                · have HN := Lib.hid hn
                  clear hn
                  go_wp2_with (go_at_call 90; go_must (refine (id_any x _).mono ?_); rintro e w5 ⟨rfl, rfl⟩; rw [HN.out])
                  go_roundw
                  case rel => exact ⟨d + 1, by omega, by go_num, Lib.hid (HP1.out HN.out), (by first | rfl | trivial)⟩
                  case measure => simp [intOf]; omega
              · obtain rfl : d = dn := by omega
                have HR5 : Hid (R = true) := Lib.hid (by
                  have h1 := HP.out
                  rw [HDN.out, List.take_length] at h1
                  rw [HR4.out, h1])
                go_wp2_with fail
                go_ret
                exact ⟨by rw [HR5.out]; rfl, hEw⟩
  · have HR2 : Hid (R = false) := Lib.hid (by
      rw [HR.out]
      by_cases z1 : mn ≤ 64
      · by_cases z2 : an ≤ 300
        · rw [decide_eq_false (p := dn ≤ 300) (by omega)]; simp
        · rw [decide_eq_false z2]; simp
      · rw [decide_eq_false z1]; simp)
    have hex : (64 : Int) < (mn : Int) ∨ (¬ (64 : Int) < (mn : Int) ∧ (300 : Int) < (an : Int)) ∨ (¬ (64 : Int) < (mn : Int) ∧ ¬ (300 : Int) < (an : Int) ∧ (300 : Int) < (dn : Int)) := by omega
    clear HR hsz
    rcases hex with y1 | ⟨y1, y2⟩ | ⟨y1, y2, y3⟩
    all_goals
      go_enter Tryd.func30, Tryd.ntmps30
      go_wp2
      go_ret
      exact ⟨by rw [HR2.out]; rfl, hE0⟩
end Go.Proofs.YtdkkbglfipkmdaaDoor

/- pack.Batch: of what may not be, of a small one; clerestorylaw09.awake. -/
namespace Go.Proofs.YtdkkbglfipkmdaaDoor
open Go Go.RowKit
attribute [local go_sem] yields yUpon

set_option maxRecDepth 100000 in
set_option maxHeartbeats 2000000 in
theorem batch_no (vm va vd : Value) (M : List Mu) (A : List Nt) (D : List Int) (w : World) (hT : TabU w) (hM : MusIn w vm M) (hA : NtsIn w va A) (hD : IntsIn w vd .i64 D) (hMb : ∀ x ∈ M, x.table.size ≤ 100 ∧ x.key.size ≤ 100 ∧ x.gone ≤ 1099511627776) (hAb : ∀ x ∈ A, x.body.size ≤ 1000000) (hc : cbB M A D = false) :
    Calls Tryd.prog 22 #[.agg #[vm, va, vd]] w fun e w' => e = .returned (.tuple #[.slice none 0 0, .int .i64 1]) ∧ Ext w w' := by
  have hE0 := (Ext.refl w).alloc (.cells #[vm, va, vd] 39)
  obtain ⟨am, cm, rfl, _⟩ := hM.get
  obtain ⟨aa, ca, rfl, _⟩ := hA.get
  have hD' := hD
  obtain ⟨ad, cd, rfl, _⟩ := hD'
  have HC := Lib.hid hc
  have HMb := Lib.hid hMb
  have HAb := Lib.hid hAb
  clear hc hMb hAb
  go_enter Tryd.func22, Tryd.ntmps22
  go_wp2_with (go_at_call 30; go_must (refine (cb_any _ _ _ M A D _ (hT.ext hE0) (hM.ext hE0) (hA.ext hE0) (hD.ext hE0) HMb.out HAb.out).mono ?_); rintro e w1 ⟨rfl, hE1⟩; rw [HC.out])
  go_ret2
  exact ⟨rfl, hE0.trans hE1⟩

set_option maxHeartbeats 2000000 in
theorem awake9_any (w : World) (hT : TabU w) : Calls Tryd.prog 13 #[] w fun e w' => e = .returned (.bool true) ∧ Ext w w' := by
  have hw0 : whole0 ⟨#[97]⟩ 0 = [1, 1, 97, 0, 0] := by decide
  go_enter Tryd.func13, Tryd.ntmps13
  go_wp2_with (first
    | (go_at_call 14; go_must (refine (part0_any ⟨#[97]⟩ (by decide) w).mono ?_); rintro e w1 ⟨v1, rfl, ho1, hE1⟩; rw [hw0] at ho1; have ho1' := ho1; obtain ⟨a1, n1, rfl⟩ := ownB_shape ho1')
    | ((guard_target =~ wpList _ _ _ (Oper.mk (some 12) _ _ _ _ _ :: _) _ _); go_must (refine wpList_convert_bytes rfl 24 9 5 (.tmp 11) rfl und_bytes und_u8 und_string (OwnB.bytes ho1) ?_))
    | (go_at_call 30; go_must (refine (cb_any _ _ _ [] [] [] _ (hT.ext hE1) (SliceIn.nil _) (SliceIn.nil _) (SliceIn.nil _) (by simp) (by simp)).mono ?_); rintro e w2 ⟨rfl, hE2⟩; rw [show cbB [] [] [] = true from by decide]))
  go_ret
  exact ⟨rfl, hE1.trans hE2⟩
end Go.Proofs.YtdkkbglfipkmdaaDoor

/- The xor of two bytes is a byte. -/
namespace Go.Proofs.YtdkkbglfipkmdaaDoor
open Go Go.RowKit
theorem xor_u8 (x y : Int) : 0 ≤ bits .xor .u8 x y ∧ bits .xor .u8 x y < 256 := by
  unfold bits
  exact wf_u8 (Go.wf_wrap _ _)
end Go.Proofs.YtdkkbglfipkmdaaDoor

/- 'append(b, x...)' of bytes from any slice, b a row of the call's own. -/
namespace Go.Proofs.YtdkkbglfipkmdaaDoor
open Go Go.RowKit

theorem info_b8c : Tryd.prog.info? 5 = some (Tryd.prog.info? 5).get! ∧ (Tryd.prog.info? 5).get!.zero = some (.int .u8 0) ∧ (Tryd.prog.info? 5).get!.size = 1 ∧ (Tryd.prog.info? 5).get!.bytes = 1 := ⟨by kernel_rfl, by kernel_rfl, by kernel_rfl, by kernel_rfl⟩
theorem run_ownB {w : World} {B : Nat} {v u : Value} {l m : List UInt8} (hB : B ≤ w.heap.size) (hown : OwnB w B v l) (hin : BytesIn w u m) (hb : l.length + m.length ≤ 140737488355328) (ty : TypeId) :
    ∃ v' w', (Builtin.append_ #[24, 24] ty #[v, u]).run Tryd.prog w = .ok v' w' ∧ OwnB w' B v' (l ++ m) ∧ w.grownBy w' v.ownBlock := by
  obtain ⟨a, c, rfl, hc, hcm, ha, hcell⟩ := hin
  cases a with
  | none =>
    have h0 := ha rfl
    subst h0
    obtain rfl : m = [] := List.eq_nil_of_length_eq_zero (by omega)
    exact ⟨v, w, run_append_owned_none (P := Tryd.prog) w B 24 ty 5 _ 1 und_bytes info_b8c.1 v l.length (bcells l) hown, by simpa using hown, ⟨rfl, rfl, rfl, Nat.le_refl _, fun _ _ _ => rfl⟩⟩
  | some ad =>
    obtain ⟨v', w', h1, h2, h3, _⟩ := run_append_own (P := Tryd.prog) w B 24 ty 5 _ (.int .u8 0) 1 1 und_bytes info_b8c.1 info_b8c.2.1 info_b8c.2.2.1 info_b8c.2.2.2 rfl (by decide) v l.length (bcells l) hown ad m.length c (bcells m) (by simp) (fun j u hj => by
        obtain ⟨b', o', e', hc'⟩ := hcell j u hj
        cases e'
        rw [Addr.add_lit]
        exact hc') (fun u hu => by
        simp only [bcells, List.mem_map] at hu
        obtain ⟨b, _, rfl⟩ := hu
        rfl) (by unfold maxLen; omega) (by omega) hB
    refine ⟨v', w', h1, ?_, h3⟩
    unfold OwnB
    rw [List.length_append, bcells_append]
    exact h2
section
variable {ops : Array Oper} {Q : Exit → Act → World → Prop} {a : Act} {w : World} {rest : List Oper} {o : Oper}
theorem yields_ownB (s x : Operand) (hop : o.op = Op.call { callee := Callee.builtin Builtin.append, args := #[s, x], argTypes := #[24, 24] }) {B : Nat} {v u : Value} {l m : List UInt8} (hs : a.eval s = v) (hx : a.eval x = u) (hB : B ≤ w.heap.size) (hown : OwnB w B v l) (hin : BytesIn w u m)
    (hb : l.length + m.length ≤ 140737488355328) {R : Value → World → Prop} (hR : ∀ v' w', OwnB w' B v' (l ++ m) → w.grownBy w' v.ownBlock → R v' w') : yields Tryd.prog o a w R := by
  obtain ⟨v', w', h1, h2, h3⟩ := run_ownB hB hown hin hb o.type
  unfold yields execOp
  simp only [hop, resolve, invoke, builtin, Sem.run_bind, Sem.run_pure, Result.andThen_ok, List.map_toArray, List.map_cons, List.map_nil, hs, hx, h1]
  exact hR v' w' h2 h3
theorem wpList_ownB (hw : Region.wanted o (yielded ops a.tmps) = true) (s x : Operand) (hop : o.op = Op.call { callee := Callee.builtin Builtin.append, args := #[s, x], argTypes := #[24, 24] }) {B : Nat} {v u : Value} {l m : List UInt8} (hs : a.eval s = v) (hx : a.eval x = u) (hB : B ≤ w.heap.size) (hown : OwnB w B v l) (hin : BytesIn w u m)
    (hb : l.length + m.length ≤ 140737488355328) (hK : ∀ v' w', OwnB w' B v' (l ++ m) → w.grownBy w' v.ownBlock → wpList Tryd.prog ops Q rest (a.put o.dst v') w') : wpList Tryd.prog ops Q (o :: rest) a w := by
  unfold wpList
  rw [if_pos hw]
  exact .inl (yields_wp (yields_ownB (R := fun v w' => wpList Tryd.prog ops Q rest (a.put o.dst v) w') s x hop hs hx hB hown hin hb hK) fun v w' h => h)
/-- append([]byte(nil), x...). -/
theorem yields_cloneB (s x : Operand) (hop : o.op = Op.call { callee := Callee.builtin Builtin.append, args := #[s, x], argTypes := #[24, 24] }) {u : Value} {m : List UInt8} (hs : a.eval s = .slice none 0 0) (hx : a.eval x = u) (hin : BytesIn w u m)
    (hb : m.length ≤ 140737488355328) {R : Value → World → Prop} (hR : ∀ v' w', OwnB w' w.heap.size v' m → Ext w w' → R v' w') : yields Tryd.prog o a w R :=
  yields_ownB (l := []) s x hop hs hx (Nat.le_refl _) (World.ownsRow_nil _ _ _ _) hin (by simpa using hb) fun v' w' h1 h2 => hR v' w' h1 ((Ext.refl w).grown h2 nofun)
theorem wpList_cloneB (hw : Region.wanted o (yielded ops a.tmps) = true) (s x : Operand) (hop : o.op = Op.call { callee := Callee.builtin Builtin.append, args := #[s, x], argTypes := #[24, 24] }) {u : Value} {m : List UInt8} (hs : a.eval s = .slice none 0 0) (hx : a.eval x = u) (hin : BytesIn w u m)
    (hb : m.length ≤ 140737488355328) (hK : ∀ v' w', OwnB w' w.heap.size v' m → Ext w w' → wpList Tryd.prog ops Q rest (a.put o.dst v') w') : wpList Tryd.prog ops Q (o :: rest) a w :=
  wpList_ownB (l := []) hw s x hop hs hx (Nat.le_refl _) (World.ownsRow_nil _ _ _ _) hin (by simpa using hb) fun v' w' h1 h2 => hK v' w' h1 ((Ext.refl w).grown h2 nofun)
end
end Go.Proofs.YtdkkbglfipkmdaaDoor
