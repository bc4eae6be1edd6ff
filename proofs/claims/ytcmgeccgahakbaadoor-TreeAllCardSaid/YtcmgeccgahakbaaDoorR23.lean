/- Mutations in memory: a table's name, a partition; 'append' to a list of them of one's own. -/
import Derived.Test.YtcmgeccgahakbaaDoorR7
import Derived.Test.YtcmgeccgahakbaaDoorR22
import Derived.Test.YtcmgeccgahakbaaDoorR12
set_option linter.unusedSimpArgs false
set_option linter.unusedVariables false
namespace Go.Proofs.YtcmgeccgahakbaaDoor
open Go Go.RowKit

structure Mt where
  table : ByteArray
  pa : Pa
theorem info_Mut : (Tryd.prog.info? 64).map (fun i => (i.zero, i.size, i.bytes)) = some (some (.agg #[.string ⟨#[]⟩, .string ⟨#[]⟩, .int .i64 0, .slice none 0 0]), 4, 64) := by kernel_rfl
theorem und_Muts : Tryd.prog.underlying 25 = some (.slice 64) := by kernel_rfl
def mt4 (m : Mt) : Array Value := #[.string m.table, .string m.pa.key, .int .i64 m.pa.gone, m.pa.rv]
def mtCells (l : List Mt) : List Value := l.flatMap fun m => (mt4 m).toList
theorem mtCells_length (l : List Mt) : (mtCells l).length = l.length * 4 := by
  induction l with
  | nil => rfl
  | cons c l ih => simp only [mtCells, List.flatMap_cons, List.length_append] at ih ⊢; rw [ih]; simp [mt4]; omega
theorem mtCells_append (l m : List Mt) : mtCells (l ++ m) = mtCells l ++ mtCells m := by simp [mtCells]
theorem mtCells_get : ∀ (l : List Mt) (k : Nat) (h : k < l.length) (j : Nat), j < 4 → (mtCells l)[k * 4 + j]? = (mt4 l[k])[j]?
  | c :: l, 0, _, j, hj => by
    obtain rfl | rfl | rfl | rfl : j = 0 ∨ j = 1 ∨ j = 2 ∨ j = 3 := by omega
    all_goals simp [mtCells, mt4]
  | c :: l, k + 1, h, j, hj => by
    have ih := mtCells_get l k (by simpa using h) j hj
    have e : (k + 1) * 4 + j = k * 4 + j + 4 := by omega
    have e2 : mtCells (c :: l) = .string c.table :: .string c.pa.key :: .int .i64 c.pa.gone :: c.pa.rv :: mtCells l := by simp [mtCells, mt4]
    rw [e, e2]
    simp only [List.getElem_cons_succ]
    simpa using ih
/-- Mutations in memory. -/
structure MtsIn (w : World) (v : Value) (l : List Mt) : Prop where
  sl : SliceIn w v l.length (mtCells l)
  rows : ∀ m ∈ l, RowsIn w m.pa.rv m.pa.ps
theorem MtsIn.ext {w w' : World} (hE : Ext w w') {v : Value} {l : List Mt} (h : MtsIn w v l) : MtsIn w' v l := ⟨h.sl.ext hE, fun m hm => (h.rows m hm).ext hE⟩
theorem MtsIn.nil (w : World) : MtsIn w (.slice none 0 0) [] := ⟨SliceIn.nil w, nofun⟩
structure MtAt (w : World) (b o : Nat) (m : Mt) : Prop where
  c0 : w.cell? ⟨b, o, none⟩ = some (.string m.table)
  c1 : w.cell? ⟨b, o + 1, none⟩ = some (.string m.pa.key)
  c2 : w.cell? ⟨b, o + 2, none⟩ = some (.int .i64 m.pa.gone)
  c3 : w.cell? ⟨b, o + 3, none⟩ = some m.pa.rv
theorem MtAt.ext {w w' : World} (hE : Ext w w') {b o : Nat} {m : Mt} (h : MtAt w b o m) : MtAt w' b o m := ⟨hE.cell h.c0, hE.cell h.c1, hE.cell h.c2, hE.cell h.c3⟩
theorem MtsIn.get {w : World} {v : Value} {l : List Mt} (h : MtsIn w v l) : ∃ a c, v = .slice a l.length c ∧ l.length ≤ c ∧ c ≤ 9223372036854775807 ∧ ∀ k (hk : k < l.length), ∃ b o, a = some ⟨b, o, none⟩ ∧ MtAt w b (o + k * 4) l[k] := by
  obtain ⟨a, c, rfl, hc, hcm, ha, hcell⟩ := h.sl
  unfold maxLen at hcm
  refine ⟨a, c, rfl, hc, by omega, fun k hk => ?_⟩
  have g := fun j (hj : j < 4) => mtCells_get l k hk j hj
  obtain ⟨b, o, rfl, h0⟩ := hcell (k * 4 + 0) _ (g 0 (by decide))
  obtain ⟨b1, o1, e1, h1⟩ := hcell (k * 4 + 1) _ (g 1 (by decide))
  cases e1
  obtain ⟨b1, o1, e1, h2⟩ := hcell (k * 4 + 2) _ (g 2 (by decide))
  cases e1
  obtain ⟨b1, o1, e1, h3⟩ := hcell (k * 4 + 3) _ (g 3 (by decide))
  cases e1
  exact ⟨b, o, rfl, h0, by rw [Nat.add_assoc]; exact h1, by rw [Nat.add_assoc]; exact h2, by rw [Nat.add_assoc]; exact h3⟩
/-- Mutations in blocks of their own types. -/
structure MtsT (w : World) (v : Value) (l : List Mt) : Prop where
  tin : TIn w 64 v l.length (mtCells l)
  rows : ∀ m ∈ l, RowsT w m.pa.rv m.pa.ps
theorem MtsT.ext {w w' : World} (hE : Ext w w') {v : Value} {l : List Mt} (h : MtsT w v l) : MtsT w' v l := ⟨h.tin.ext hE, fun m hm => (h.rows m hm).ext hE⟩
theorem MtsT.mts {w : World} {v : Value} {l : List Mt} (h : MtsT w v l) : MtsIn w v l := ⟨h.tin.slice, fun m hm => (h.rows m hm).rows⟩
theorem mtCells_one (l : List Mt) (h : ∀ p ∈ l, ∃ a n c, p.pa.rv = .slice a n c) : ∀ u ∈ mtCells l, u.oneCell' = true := by
  intro u hu
  simp only [mtCells, List.mem_flatMap] at hu
  obtain ⟨p, hp, hu⟩ := hu
  obtain ⟨a, n, c, e⟩ := h p hp
  simp only [mt4, e, List.mem_cons, List.not_mem_nil, or_false] at hu
  rcases hu with rfl | rfl | rfl | rfl <;> rfl
theorem appMts {ops : Array Oper} {rest : List Oper} {o : Oper} {a : Act} {Q : Exit → Act → World → Prop} (w : World) (hg : o.guard = none) (s x : Operand)
    (hop : o.op = Op.call { callee := Callee.builtin Builtin.append, args := #[s, x], argTypes := #[25, 25] })
    (B : Nat) (hB : B ≤ w.heap.size) (v : Value) (l : List Mt) (hown : w.ownsRow B 64 4 v l.length (mtCells l)) (hs : a.eval s = v) (u : Value) (m : List Mt) (hin : SliceIn w u m.length (mtCells m)) (hsh : ∀ p ∈ m, ∃ a n c, p.pa.rv = .slice a n c) (hx : a.eval x = u) (hb : l.length + m.length ≤ 1000000)
    (hK : ∀ v' w', w'.ownsRow B 64 4 v' (l ++ m).length (mtCells (l ++ m)) → w.grownBy w' v.ownBlock → wpList Tryd.prog ops Q rest (a.put o.dst v') w') : wpList Tryd.prog ops Q (o :: rest) a w := by
  obtain ⟨i0, hi, hz0, hz1, hz2⟩ := info_parts info_Mut
  obtain ⟨ao, c, rfl, hc, hcm, ha, hcell⟩ := hin
  have hone := mtCells_one m hsh
  cases ao with
  | none =>
    have hc0 := ha rfl
    obtain rfl : m = [] := List.eq_nil_of_length_eq_zero (by omega)
    subst hc0
    refine wpList_append_own_none hg s x 25 hop B 64 i0 4 und_Muts hi v l.length (mtCells l) hs hown hx (hK _ _ (by rw [List.append_nil]; exact hown) ⟨rfl, rfl, rfl, Nat.le_refl _, fun _ _ _ => rfl⟩)
  | some ad =>
    refine wpList_append_own _ hg s x 25 hop B 64 i0 _ 4 64 und_Muts hi hz0 hz1 hz2 rfl (by decide) v l.length (mtCells l) hs hown ad m.length c (mtCells m) hx (mtCells_length m) ?_ hone (by unfold maxLen; omega) (by omega) hB ?_
    · intro j u hj
      obtain ⟨b, o, e, h⟩ := hcell j u hj
      cases e
      rw [Addr.add_lit]
      exact h
    · intro v' w' h2 h3 _
      refine hK v' w' ?_ h3
      rw [mtCells_append, List.length_append]
      exact h2
theorem mts_one (w : World) (m : Mt) (T : TypeId) : SliceIn (w.alloc (.cells (mt4 m) T)) (.slice (some ⟨w.heap.size, 0, none⟩) 1 1) 1 (mtCells [m]) := by
  have : mtCells [m] = (mt4 m).toList := by simp [mtCells]
  rw [this]
  exact SliceIn.made w (mt4 m) T 1 (by unfold maxLen; decide)
end Go.Proofs.YtcmgeccgahakbaaDoor

/- pack.CheckBatch of any batch. -/
namespace Go.Proofs.YtcmgeccgahakbaaDoor
open Go Go.RowKit
attribute [local go_sem] yields yUpon

def okMt (x : Mt) : Bool := nameB x.table && ptB x.pa.key x.pa.gone (x.pa.ps.map (·.1))
def cbG (M : List Mt) (A : List Nt) (D : List Int) : Bool := decide (M.length ≤ 64) && decide (A.length ≤ 300) && decide (D.length ≤ 300) && M.all okMt && A.all okNt && D.all idB

set_option maxRecDepth 100000 in
set_option maxHeartbeats 8000000 in
theorem cb_gen (vm va vd : Value) (M : List Mt) (A : List Nt) (D : List Int) (w : World) (hT : TabU w) (hM : MtsIn w vm M) (hA : NtsIn w va A) (hD : IntsIn w vd .i64 D) (hMb : ∀ x ∈ M, x.table.size ≤ 1000000 ∧ ∀ p ∈ x.pa.ps, ∀ c ∈ p.1.cols, c.name.size ≤ 1000000) (hAb : ∀ x ∈ A, x.body.size ≤ 1000000) :
    Calls Tryd.prog 24 #[.agg #[vm, va, vd]] w fun e w' => e = .returned (.bool (cbG M A D)) ∧ Ext w w' := by
  obtain ⟨am, cm, rfl, hcm, hcmm, hgm⟩ := hM.get
  obtain ⟨aa, ca, rfl, hca, hcma, hga⟩ := hA.get
  obtain ⟨ad, cd, rfl, hcd, hcmd, _, hgd⟩ := hD
  unfold maxLen at hcmd
  have HGM := Lib.hid hgm
  have HGA := Lib.hid hga
  have HGD := Lib.hid hgd
  have HMB := Lib.hid hMb
  have HAB := Lib.hid hAb
  have HROW := Lib.hid hM.rows
  clear hgm hga hgd hMb hAb hM hA
  obtain ⟨mn, hmn⟩ : ∃ n, n = M.length := ⟨_, rfl⟩
  obtain ⟨an, han⟩ : ∃ n, n = A.length := ⟨_, rfl⟩
  obtain ⟨dn, hdn⟩ : ∃ n, n = D.length := ⟨_, rfl⟩
  rw [← hmn] at hcm ⊢
  rw [← han] at hca ⊢
  rw [← hdn] at hcd ⊢
  have HMN := Lib.hid hmn
  have HAN := Lib.hid han
  have HDN := Lib.hid hdn
  clear hmn han hdn
  have hE0 := (Ext.refl w).alloc (.cells #[.slice am mn cm, .slice aa an ca, .slice ad dn cd] 29)
  have hbx := BoxAt.made w #[.slice am mn cm, .slice aa an ca, .slice ad dn cd] 29
  obtain ⟨R, hR⟩ : ∃ R, R = cbG M A D := ⟨_, rfl⟩
  have HR : Hid (R = (decide (mn ≤ 64) && decide (an ≤ 300) && decide (dn ≤ 300) && M.all okMt && A.all okNt && D.all idB)) := Lib.hid (by rw [hR, HMN.out, HAN.out, HDN.out]; rfl)
  rw [← hR]
  clear hR
  by_cases hsz : mn ≤ 64 ∧ an ≤ 300 ∧ dn ≤ 300
  · obtain ⟨z1, z2, z3⟩ := hsz
    have y1 : ¬ (64 : Int) < (mn : Int) := by omega
    have y2 : ¬ (300 : Int) < (an : Int) := by omega
    have y3 : ¬ (300 : Int) < (dn : Int) := by omega
    have HR2 : Hid (R = (M.all okMt && A.all okNt && D.all idB)) := Lib.hid (by rw [HR.out, decide_eq_true z1, decide_eq_true z2, decide_eq_true z3]; rfl)
    clear HR
    go_enter Tryd.func24, Tryd.ntmps24
    go_wp2
    obtain ⟨W0, hW0⟩ : ∃ W0, W0 = w.alloc (.cells #[.slice am mn cm, .slice aa an ca, .slice ad dn cd] 29) := ⟨_, rfl⟩
    rw [← hW0] at hE0 hbx ⊢
    clear hW0
    go_loopw [28] (fun i wr => ∃ k : Nat, k ≤ mn ∧ i = .int .i64 (k : Int) ∧ Hid ((M.take k).all okMt = true) ∧ Ext W0 wr) (fun i _ => mn - (intOf i).toNat)
    case atStart => exact ⟨0, Nat.zero_le _, rfl, Lib.hid rfl, Ext.refl W0⟩
    case round =>
      obtain ⟨k, hk, rfl, HP, hE⟩ := hrel
      by_cases hlt : k < mn
      · have hkF : k < M.length := by rw [← HMN.out]; exact hlt
        obtain ⟨b, o, rfl, ⟨g0, g1, g2, g3⟩⟩ := HGM.out k hkF
        obtain ⟨ra, rc, hrv⟩ : ∃ a c, (M[k]).pa.rv = .slice a (M[k]).pa.ps.length c := let ⟨a, c, e, _⟩ := (HROW.out _ (List.getElem_mem hkF)).get; ⟨a, c, e⟩
        have hrw := HROW.out _ (List.getElem_mem hkF)
        rw [hrv] at g3 hrw
        replace g0 := (hE0.trans hE).cell g0
        replace g1 := (hE0.trans hE).cell g1
        replace g2 := (hE0.trans hE).cell g2
        replace g3 := (hE0.trans hE).cell g3
        obtain ⟨q1, q2⟩ := HMB.out _ (List.getElem_mem hkF)
        have HP1 : Hid (okMt M[k] = true → (M.take (k + 1)).all okMt = true) := Lib.hid fun h => all_take hkF HP.out h
        have HP0 : Hid (okMt M[k] = false → R = false) := Lib.hid fun h => by rw [HR2.out, all_no hkF h]; rfl
        have HOK : Hid (okMt M[k] = (nameB (M[k]).table && ptB (M[k]).pa.key (M[k]).pa.gone ((M[k]).pa.ps.map (·.1)))) := Lib.hid rfl
        obtain ⟨ok, hok⟩ : ∃ ok, ok = okMt M[k] := ⟨_, rfl⟩
        obtain ⟨t, ht⟩ : ∃ t, t = (M[k]).table := ⟨_, rfl⟩
        obtain ⟨ky, hky⟩ : ∃ t, t = (M[k]).pa.key := ⟨_, rfl⟩
        obtain ⟨gn, hgn⟩ : ∃ t, t = (M[k]).pa.gone := ⟨_, rfl⟩
        obtain ⟨ps, hps⟩ : ∃ t, t = (M[k]).pa.ps := ⟨_, rfl⟩
        rw [← hok] at HP1 HP0 HOK
        rw [← ht] at g0 q1 HOK
        rw [← hky] at g1 HOK
        rw [← hgn] at g2 HOK
        rw [← hps] at g3 hrw q2 HOK
        obtain ⟨rn, hrn⟩ : ∃ n, n = ps.length := ⟨_, rfl⟩
        rw [← hrn] at g3 hrw
        have HQ2 := Lib.hid q2
        clear hok ht hky hgn hps hrv hrn q2
        have hEb := (Ext.refl wr).alloc (.cells #[.string t, .string ky, .int .i64 gn, .slice ra rn rc] 64)
        have hbm := BoxAt.made wr #[.string t, .string ky, .int .i64 gn, .slice ra rn rc] 64
        have hTb := hT.ext ((hE0.trans hE).trans hEb)
        have t1 : decide ((k : Int) < (mn : Int)) = true := by simp; omega
        cases hn : nameB t
        · have HN := Lib.hid hn
          clear hn
          go_wp2_with (go_at_call 84; go_must (refine (name_gen t (by omega) _ hTb).mono ?_); rintro e w5 ⟨rfl, hE5⟩; rw [HN.out])
          go_ret
          exact ⟨by rw [HP0.out (by rw [HOK.out, HN.out]; rfl)]; rfl, ((hE0.trans hE).trans hEb).trans hE5⟩
        · have HN := Lib.hid hn
          clear hn
          cases hg : ptB ky gn (ps.map (·.1))
          all_goals
            have HG := Lib.hid hg
            clear hg
            go_wp2_with (first
              | (go_at_call 84; go_must (refine (name_gen t (by omega) _ hTb).mono ?_); rintro e w5 ⟨rfl, hE5⟩; rw [HN.out]; have hb5 := hbm.ext hE5; have y1 : w5.cell? ⟨wr.heap.size, 1, none⟩ = some (.string ky) := hb5.cell 1; have y2 : w5.cell? ⟨wr.heap.size, 2, none⟩ = some (.int .i64 gn) := hb5.cell 2; have y3 : w5.cell? ⟨wr.heap.size, 3, none⟩ = some (.slice ra rn rc) := hb5.cell 3)
              | (go_at_call 54; go_must (refine (pcheck_gen ky gn _ ps _ (hrw.ext (((hE0.trans hE).trans hEb).trans hE5)) HQ2.out (hTb.ext hE5)).mono ?_); rintro e w6 ⟨rfl, hE6⟩; rw [HG.out]))
          · go_ret
            exact ⟨by rw [HP0.out (by rw [HOK.out, HN.out, HG.out]; rfl)]; rfl, (((hE0.trans hE).trans hEb).trans hE5).trans hE6⟩
          · go_roundw
            case rel => exact ⟨k + 1, by omega, by go_num, Lib.hid (HP1.out (by rw [HOK.out, HN.out, HG.out]; rfl)), ((hE.trans hEb).trans hE5).trans hE6⟩
            case measure => simp [intOf]; omega
      · obtain rfl : k = mn := by omega
        have HR3 : Hid (R = (A.all okNt && D.all idB)) := Lib.hid (by
          have h1 := HP.out
          rw [HMN.out, List.take_length] at h1
          rw [HR2.out, h1]; rfl)
        clear HR2 HP
        have hbx1 := hbx.ext hE
        have c1 : wr.cell? ⟨w.heap.size, 1, none⟩ = some (.slice aa an ca) := hbx1.cell 1
        have c2 : wr.cell? ⟨w.heap.size, 2, none⟩ = some (.slice ad dn cd) := hbx1.cell 2
        go_wp2_with fail
        obtain ⟨w1, rfl⟩ : ∃ w', w' = wr := ⟨_, rfl⟩
        go_loopw [46] (fun i wr => ∃ k : Nat, k ≤ an ∧ i = .int .i64 (k : Int) ∧ Hid ((A.take k).all okNt = true) ∧ Ext w1 wr) (fun i _ => an - (intOf i).toNat)
        case atStart => exact ⟨0, Nat.zero_le _, rfl, Lib.hid rfl, Ext.refl w1⟩
        case round =>
          obtain ⟨j, hj, rfl, HP, hE2⟩ := hrel
          have hEw := (hE0.trans hE).trans hE2
          by_cases hlt2 : j < an
          · have hkF : j < A.length := by rw [← HAN.out]; exact hlt2
            obtain ⟨b, o, rfl, g0, g1⟩ := HGA.out j hkF
            replace g0 := hEw.cell g0
            replace g1 := hEw.cell g1
            have q1 := HAB.out _ (List.getElem_mem hkF)
            have HP1 : Hid (okNt A[j] = true → (A.take (j + 1)).all okNt = true) := Lib.hid fun h => all_take hkF HP.out h
            have HP0 : Hid (okNt A[j] = false → R = false) := Lib.hid fun h => by rw [HR3.out, all_no hkF h]; rfl
            have HOK : Hid (okNt A[j] = (idB (A[j]).id && decide ((A[j]).body.size ≤ 4096))) := Lib.hid rfl
            obtain ⟨ok, hok⟩ : ∃ ok, ok = okNt A[j] := ⟨_, rfl⟩
            obtain ⟨x, hx⟩ : ∃ t, t = (A[j]).id := ⟨_, rfl⟩
            obtain ⟨bd, hbd⟩ : ∃ t, t = (A[j]).body := ⟨_, rfl⟩
            rw [← hok] at HP1 HP0 HOK
            rw [← hx] at g0 HOK
            rw [← hbd] at g1 q1 HOK
            clear hok hx hbd
            have hEb := (Ext.refl wr).alloc (.cells #[.int .i64 x, .string bd] 94)
            have t1 : decide ((j : Int) < (an : Int)) = true := by simp; omega
            cases hn : idB x
            · have HN := Lib.hid hn
              clear hn
              go_wp2_with (go_at_call 85; go_must (refine (id_any x _).mono ?_); rintro e w5 ⟨rfl, rfl⟩; rw [HN.out])
              go_ret
              exact ⟨by rw [HP0.out (by rw [HOK.out, HN.out]; rfl)]; rfl, hEw.trans hEb⟩
            · have HN := Lib.hid hn
              clear hn
              by_cases hs : bd.size ≤ 4096
              · have t2 : decide ((4096 : Int) < (bd.size : Int)) = false := by simp; omega
                go_wp2_with (go_at_call 85; go_must (refine (id_any x _).mono ?_); rintro e w5 ⟨rfl, rfl⟩; rw [HN.out])
                go_roundw
                case rel => exact ⟨j + 1, by omega, by go_num, Lib.hid (HP1.out (by rw [HOK.out, HN.out, decide_eq_true hs]; rfl)), hE2.trans hEb⟩
                case measure => simp [intOf]; omega
              · have t2 : decide ((4096 : Int) < (bd.size : Int)) = true := by simp; omega
                go_wp2_with (go_at_call 85; go_must (refine (id_any x _).mono ?_); rintro e w5 ⟨rfl, rfl⟩; rw [HN.out])
                go_ret
                exact ⟨by rw [HP0.out (by rw [HOK.out, HN.out, decide_eq_false hs]; rfl)]; rfl, hEw.trans hEb⟩
          · obtain rfl : j = an := by omega
            have HR4 : Hid (R = D.all idB) := Lib.hid (by
              have h1 := HP.out
              rw [HAN.out, List.take_length] at h1
              rw [HR3.out, h1]; rfl)
            clear HR3 HP
            have hbx2 := hbx1.ext hE2
            have c3 : wr.cell? ⟨w.heap.size, 2, none⟩ = some (.slice ad dn cd) := hbx2.cell 2
            clear c1 c2
            go_wp2_with fail
            obtain ⟨w2, rfl⟩ : ∃ w', w' = wr := ⟨_, rfl⟩
            go_loopw [64] (fun i wr => ∃ k : Nat, k ≤ dn ∧ i = .int .i64 (k : Int) ∧ Hid ((D.take k).all idB = true) ∧ wr = w2) (fun i _ => dn - (intOf i).toNat)
            case atStart => exact ⟨0, Nat.zero_le _, rfl, Lib.hid rfl, rfl⟩
            case round =>
              obtain ⟨d, hd, rfl, HP, rfl⟩ := hrel
              by_cases hlt3 : d < dn
              · have hkF : d < D.length := by rw [← HDN.out]; exact hlt3
                obtain ⟨b, o, rfl, g0⟩ := HGD.out d (.int .i64 D[d]) (by rw [kcells_get, List.getElem?_eq_getElem hkF]; rfl)
                replace g0 := hEw.cell g0
                have HP1 : Hid (idB D[d] = true → (D.take (d + 1)).all idB = true) := Lib.hid fun h => all_take hkF HP.out h
                have HP0 : Hid (idB D[d] = false → R = false) := Lib.hid fun h => by rw [HR4.out, all_no hkF h]
                obtain ⟨x, hx⟩ : ∃ t, t = D[d] := ⟨_, rfl⟩
                rw [← hx] at g0 HP1 HP0
                clear hx
                have t1 : decide ((d : Int) < (dn : Int)) = true := by simp; omega
                cases hn : idB x
                · have HN := Lib.hid hn
                  clear hn
                  go_wp2_with (go_at_call 85; go_must (refine (id_any x _).mono ?_); rintro e w5 ⟨rfl, rfl⟩; rw [HN.out])
                  go_ret
                  exact ⟨by rw [HP0.out HN.out]; rfl, hEw⟩
                · have HN := Lib.hid hn
                  clear hn
                  go_wp2_with (go_at_call 85; go_must (refine (id_any x _).mono ?_); rintro e w5 ⟨rfl, rfl⟩; rw [HN.out])
                  go_roundw
                  case rel => exact ⟨d + 1, by omega, by go_num, Lib.hid (HP1.out HN.out), (by first | rfl | trivial)⟩
                  case measure => simp [intOf]; omega
              · obtain rfl : d = dn := by omega
                have HR5 : Hid (R = true) := Lib.hid (by
                  have h1 := HP.out
                  rw [HDN.out, List.take_length] at h1
                  rw [HR4.out, h1])
                go_wp2_with fail
                go_ret
                exact ⟨by rw [HR5.out]; rfl, hEw⟩
  · have HR2 : Hid (R = false) := Lib.hid (by
      rw [HR.out]
      by_cases z1 : mn ≤ 64
      · by_cases z2 : an ≤ 300
        · rw [decide_eq_false (p := dn ≤ 300) (by omega)]; simp
        · rw [decide_eq_false z2]; simp
      · rw [decide_eq_false z1]; simp)
    have hex : (64 : Int) < (mn : Int) ∨ (¬ (64 : Int) < (mn : Int) ∧ (300 : Int) < (an : Int)) ∨ (¬ (64 : Int) < (mn : Int) ∧ ¬ (300 : Int) < (an : Int) ∧ (300 : Int) < (dn : Int)) := by omega
    clear HR hsz
    rcases hex with y1 | ⟨y1, y2⟩ | ⟨y1, y2, y3⟩
    all_goals
      go_enter Tryd.func24, Tryd.ntmps24
      go_wp2
      go_ret
      exact ⟨by rw [HR2.out]; rfl, hE0⟩
end Go.Proofs.YtcmgeccgahakbaaDoor

/- pack.Batch of any batch. -/
namespace Go.Proofs.YtcmgeccgahakbaaDoor
open Go Go.RowKit
attribute [local go_sem] yields yUpon

def mutQ (t k : ByteArray) (g : Int) (rs : List Ro) : List UInt8 := num t.size ++ t.data.toList ++ num (wholeP k g rs).length ++ wholeP k g rs
def mutP (m : Mt) : List UInt8 := mutQ m.table m.pa.key m.pa.gone (m.pa.ps.map (·.1))
def notP (n : Nt) : List UInt8 := num n.id.toNat ++ num n.body.size ++ n.body.data.toList
def batP (M : List Mt) (A : List Nt) (D : List Int) : List UInt8 := num M.length ++ M.flatMap mutP ++ num A.length ++ A.flatMap notP ++ num D.length ++ D.flatMap fun d => num d.toNat
/-- What Batch answers. -/
def batR (M : List Mt) (A : List Nt) (D : List Int) : List UInt8 × Int := if cbG M A D then (if (batP M A D).length ≤ 262144 then (batP M A D, 0) else ([], 2)) else ([], 1)

theorem rowP_le8 {r : Ro} (h : rwB r = true) : (rowP r).length ≤ 19000 := by
  have hok := rwB_ok h
  unfold rwB at h
  simp only [Bool.and_eq_true] at h
  obtain ⟨_, _, _, _, _, _, g⟩ := hdB_parts h.1
  have g' := of_decide_eq_false g
  obtain ⟨h1, h2, h3, h4, h5, h6, h7, h8⟩ := hok
  have l1 := num_length (x := r.key.size) (by omega)
  have l2 := cellP_le h2
  have l3 := num_length (x := r.gone.toNat) (by omega)
  have l4 := num_length (x := r.shade.toNat) (by omega)
  have l5 := num_length (x := r.cols.length) (by omega)
  have l6 := flat_le (f := colP) (fun c hc => colP_le (h8 c hc))
  unfold rowP
  simp only [List.length_append, dat_size]
  omega
theorem wholeP_le8 {k : ByteArray} {g : Int} {rs : List Ro} (h : ptB k g rs = true) : (wholeP k g rs).length ≤ 1910000 := by
  have hok := ptB_ok h
  unfold ptB at h
  simp only [Bool.and_eq_true, Bool.not_eq_true'] at h
  obtain ⟨⟨⟨⟨_, _⟩, _⟩, h4⟩, h5⟩ := h
  have d := of_decide_eq_false h4
  obtain ⟨h1, h2, h3, _, _⟩ := hok
  have l1 := num_length (x := k.size) (by omega)
  have l3 := num_length (x := g.toNat) (by omega)
  have l5 := num_length (x := rs.length) (by omega)
  have l6 := flat_le (f := rowP) (fun c hc => rowP_le8 (rsB_ok h5 c hc))
  unfold wholeP
  simp only [List.length_append, dat_size]
  omega
theorem nameB_size {s : ByteArray} (h : nameB s = true) : s.size ≤ 100 := by
  unfold nameB at h
  simp only [Bool.and_eq_true] at h
  exact of_decide_eq_true h.2.2
theorem mutP_le {m : Mt} (h : okMt m = true) : (mutP m).length ≤ 1910200 := by
  unfold okMt at h
  simp only [Bool.and_eq_true] at h
  have h1 := nameB_size h.1
  have h2 := wholeP_le8 h.2
  have l1 := num_length (x := m.table.size) (by omega)
  have l2 := num_length (x := (wholeP m.pa.key m.pa.gone (m.pa.ps.map (·.1))).length) (by omega)
  unfold mutP mutQ
  simp only [List.length_append, dat_size]
  omega
theorem notP_le {n : Nt} (h : okNt n = true) : (notP n).length ≤ 4200 := by
  unfold okNt idB at h
  simp only [Bool.and_eq_true, decide_eq_true_eq] at h
  have l1 := num_length (x := n.id.toNat) (by omega)
  have l2 := num_length (x := n.body.size) (by omega)
  unfold notP
  simp only [List.length_append, dat_size]
  omega
theorem flat_takeD {f : Int → List UInt8} {l : List Int} {k : Nat} (hk : k < l.length) : (l.take (k + 1)).flatMap f = (l.take k).flatMap f ++ f l[k] := flat_take (List.drop_eq_getElem_cons hk)
theorem flat_takeLe {α : Type} {f : α → List UInt8} {n : Nat} {l : List α} {k m : Nat} (h : ∀ c ∈ l, (f c).length ≤ n) (hm : k ≤ m) : ((l.take k).flatMap f).length ≤ m * n := by
  have h1 := flat_le (f := f) (n := n) (l := l.take k) (fun c hc => h c (List.mem_of_mem_take hc))
  have h2 : (l.take k).length ≤ m := by rw [List.length_take]; omega
  exact Nat.le_trans h1 (Nat.mul_le_mul_right n h2)

set_option maxRecDepth 100000 in
set_option maxHeartbeats 2000000 in
theorem batch_bad (vm va vd : Value) (M : List Mt) (A : List Nt) (D : List Int) (w : World) (hT : TabU w) (hM : MtsIn w vm M) (hA : NtsIn w va A) (hD : IntsIn w vd .i64 D) (hMb : ∀ x ∈ M, x.table.size ≤ 1000000 ∧ ∀ p ∈ x.pa.ps, ∀ c ∈ p.1.cols, c.name.size ≤ 1000000) (hAb : ∀ x ∈ A, x.body.size ≤ 1000000) (hc : cbG M A D = false) :
    Calls Tryd.prog 15 #[.agg #[vm, va, vd]] w fun e w' => e = .returned (.tuple #[.slice none 0 0, .int .i64 1]) ∧ Ext w w' := by
  have hE0 := (Ext.refl w).alloc (.cells #[vm, va, vd] 29)
  obtain ⟨am, cm, rfl, _⟩ := hM.get
  obtain ⟨aa, ca, rfl, _⟩ := hA.get
  have hD' := hD
  obtain ⟨ad, cd, rfl, _⟩ := hD'
  have HC := Lib.hid hc
  have HMb := Lib.hid hMb
  have HAb := Lib.hid hAb
  clear hc hMb hAb
  go_enter Tryd.func15, Tryd.ntmps15
  go_wp2_with (go_at_call 24; go_must (refine (cb_gen _ _ _ M A D _ (hT.ext hE0) (hM.ext hE0) (hA.ext hE0) (hD.ext hE0) HMb.out HAb.out).mono ?_); rintro e w1 ⟨rfl, hE1⟩; rw [HC.out])
  go_ret2
  exact ⟨rfl, hE0.trans hE1⟩

set_option maxRecDepth 100000 in
set_option maxHeartbeats 8000000 in
theorem batch_good (vm va vd : Value) (M : List Mt) (A : List Nt) (D : List Int) (w : World) (hT : TabU w) (hM : MtsIn w vm M) (hA : NtsIn w va A) (hD : IntsIn w vd .i64 D) (hMb : ∀ x ∈ M, x.table.size ≤ 1000000 ∧ ∀ p ∈ x.pa.ps, ∀ c ∈ p.1.cols, c.name.size ≤ 1000000) (hAb : ∀ x ∈ A, x.body.size ≤ 1000000) (hc : cbG M A D = true) :
    Calls Tryd.prog 15 #[.agg #[vm, va, vd]] w fun e w' => ∃ v', e = .returned (.tuple #[v', .int .i64 (batR M A D).2]) ∧ OwnB w' w.heap.size v' (batR M A D).1 ∧ Ext w w' := by
  have hE0 := (Ext.refl w).alloc (.cells #[vm, va, vd] 29)
  have hbx := BoxAt.made w #[vm, va, vd] 29
  have HROW := Lib.hid hM.rows
  obtain ⟨am, cm, rfl, hcm, hcmm, hgm⟩ := hM.get
  obtain ⟨aa, ca, rfl, hca, hcma, hga⟩ := hA.get
  have hD' := hD
  obtain ⟨ad, cd, rfl, hcd, hcmd, _, hgd⟩ := hD'
  unfold maxLen at hcmd
  have hcp := hc
  unfold cbG at hcp
  simp only [Bool.and_eq_true, decide_eq_true_eq, List.all_eq_true] at hcp
  obtain ⟨⟨⟨⟨⟨z1, z2⟩, z3⟩, hMo⟩, hAo⟩, hDo⟩ := hcp
  have HGM := Lib.hid hgm
  have HGA := Lib.hid hga
  have HGD := Lib.hid hgd
  have HC := Lib.hid hc
  have HMB := Lib.hid hMo
  have HAB := Lib.hid hAo
  have HDB := Lib.hid hDo
  have HCB := fun (w1 : World) (hE : Ext w w1) => Lib.hid (cb_gen _ _ _ M A D w1 (hT.ext hE) (hM.ext hE) (hA.ext hE) (hD.ext hE) hMb hAb)
  obtain ⟨RB, hRB⟩ : ∃ R, R = batR M A D := ⟨_, rfl⟩
  rw [← hRB]
  have HBR : Hid (RB = if (batP M A D).length ≤ 262144 then (batP M A D, 0) else ([], 2)) := Lib.hid (by rw [hRB]; unfold batR; rw [hc]; rfl)
  clear hRB
  clear hgm hga hgd hc hMb hAb hMo hAo hDo hT hM hA hD
  obtain ⟨mn, hmn⟩ : ∃ n, n = M.length := ⟨_, rfl⟩
  obtain ⟨an, han⟩ : ∃ n, n = A.length := ⟨_, rfl⟩
  obtain ⟨dn, hdn⟩ : ∃ n, n = D.length := ⟨_, rfl⟩
  rw [← hmn] at hcm z1 hbx hE0 ⊢
  rw [← han] at hca z2 hbx hE0 ⊢
  rw [← hdn] at hcd z3 hbx hE0 ⊢
  rw [← hmn, ← han, ← hdn] at HCB
  have HMN := Lib.hid hmn
  have HAN := Lib.hid han
  have HDN := Lib.hid hdn
  have HMT := Lib.hid (fun k (hk : k ≤ 64) => flat_takeLe (f := mutP) (l := M) (k := k) (m := 64) (fun m hm => mutP_le (HMB.out m hm)) hk)
  have HAT := Lib.hid (fun k (hk : k ≤ 300) => flat_takeLe (f := notP) (l := A) (k := k) (m := 300) (fun m hm => notP_le (HAB.out m hm)) hk)
  have HDT := Lib.hid (fun k (hk : k ≤ 300) => flat_takeLe (f := fun d : Int => num d.toNat) (l := D) (k := k) (m := 300) (n := 9) (fun d hd => num_length (by have := HDB.out d hd; unfold idB at this; simp at this; omega)) hk)
  obtain ⟨B0, hB0⟩ : ∃ B, B = num mn := ⟨_, rfl⟩
  have hB0l : B0.length ≤ 9 := by rw [hB0]; exact num_length (by omega)
  obtain ⟨B1, hB1⟩ : ∃ B, B = B0 ++ M.flatMap mutP ++ num an := ⟨_, rfl⟩
  have hB1l : B1.length ≤ 123000000 := by
    have h1 := HMT.out 64 (Nat.le_refl _)
    rw [List.take_of_length_le (by omega)] at h1
    have h2 := num_length (x := an) (by omega)
    rw [hB1]; simp only [List.length_append]; omega
  obtain ⟨B2, hB2⟩ : ∃ B, B = B1 ++ A.flatMap notP ++ num dn := ⟨_, rfl⟩
  have hB2l : B2.length ≤ 125000000 := by
    have h1 := HAT.out 300 (Nat.le_refl _)
    rw [List.take_of_length_le (by omega)] at h1
    have h2 := num_length (x := dn) (by omega)
    rw [hB2]; simp only [List.length_append]; omega
  have HBP : Hid (batP M A D = B2 ++ D.flatMap fun d => num d.toNat) := Lib.hid (by rw [hB2, hB1, hB0, hmn, han, hdn]; unfold batP; simp only [List.append_assoc])
  have H0 := Lib.hid hB0
  have H1 := Lib.hid hB1
  have H2 := Lib.hid hB2
  clear hmn han hdn hB0 hB1 hB2
  go_enter Tryd.func15, Tryd.ntmps15
  go_wp2_with (first
    | (go_at_call 24; go_must (refine (HCB _ hE0).out.mono ?_); rintro e w1 ⟨rfl, hE1⟩; rw [HC.out]; have hb1 := hbx.ext hE1; have c0 : w1.cell? ⟨w.heap.size, 0, none⟩ = some (.slice am mn cm) := hb1.cell 0)
    | (go_at_call 58; go_must (refine (pk_number _ [] (mn : Int) (by omega) (by omega) w1 (SliceIn.nil _) (by simp)).mono ?_); rintro e w2 ⟨v2, rfl, ho2, hE2⟩; rw [List.nil_append, Int.toNat_natCast, ← H0.out] at ho2; have hb2 := hb1.ext hE2; have d0 : w2.cell? ⟨w.heap.size, 0, none⟩ = some (.slice am mn cm) := hb2.cell 0))
  have hEw2 := (hE0.trans hE1).trans hE2
  clear c0 d0
  replace ho2 := OwnB.base ho2 (hE0.trans hE1).le
  go_loopw [4, 21] (fun o i wr => ∃ k : Nat, k ≤ mn ∧ i = .int .i64 (k : Int) ∧ OwnB wr w.heap.size o (B0 ++ (M.take k).flatMap mutP) ∧ Ext w2 wr) (fun _ i _ => mn - (intOf i).toNat)
  case atStart => exact ⟨0, Nat.zero_le _, rfl, by simpa using ho2, Ext.refl w2⟩
  case round =>
    rename_i o0 _ _
    obtain ⟨k, hk, rfl, hF, hE⟩ := hrel
    have hEw := hEw2.trans hE
    by_cases hlt : k < mn
    · have hkF : k < M.length := by rw [← HMN.out]; exact hlt
      obtain ⟨b, o, rfl, ⟨g0, g1, g2, g3⟩⟩ := HGM.out k hkF
      obtain ⟨ra, rc, hrv⟩ : ∃ a c, (M[k]).pa.rv = .slice a (M[k]).pa.ps.length c := let ⟨a, c, e, _⟩ := (HROW.out _ (List.getElem_mem hkF)).get; ⟨a, c, e⟩
      have hrw := HROW.out _ (List.getElem_mem hkF)
      rw [hrv] at g3 hrw
      replace g0 := hEw.cell g0
      replace g1 := hEw.cell g1
      replace g2 := hEw.cell g2
      replace g3 := hEw.cell g3
      have hok := HMB.out _ (List.getElem_mem hkF)
      unfold okMt at hok
      simp only [Bool.and_eq_true] at hok
      have htl := HMT.out k (by omega)
      have htk : Hid (B0 ++ (M.take (k + 1)).flatMap mutP = B0 ++ (M.take k).flatMap mutP ++ num (M[k]).table.size ++ (M[k]).table.data.toList ++ num (wholeP (M[k]).pa.key (M[k]).pa.gone ((M[k]).pa.ps.map (·.1))).length ++ wholeP (M[k]).pa.key (M[k]).pa.gone ((M[k]).pa.ps.map (·.1))) := Lib.hid (by
        rw [flat_take (f := mutP) (List.drop_eq_getElem_cons hkF)]
        unfold mutP mutQ
        simp only [List.append_assoc])
      obtain ⟨N1, hN1⟩ : ∃ N, N = B0 ++ (M.take (k + 1)).flatMap mutP := ⟨_, rfl⟩
      rw [← hN1] at htk
      have HN1 := Lib.hid hN1
      clear hN1
      obtain ⟨t, ht⟩ : ∃ t, t = (M[k]).table := ⟨_, rfl⟩
      obtain ⟨ky, hky⟩ : ∃ t, t = (M[k]).pa.key := ⟨_, rfl⟩
      obtain ⟨gn, hgn⟩ : ∃ t, t = (M[k]).pa.gone := ⟨_, rfl⟩
      obtain ⟨ps, hps⟩ : ∃ t, t = (M[k]).pa.ps := ⟨_, rfl⟩
      rw [← ht] at g0 hok htk
      rw [← hky] at g1 hok htk
      rw [← hgn] at g2 hok htk
      rw [← hps] at g3 hrw hok htk
      obtain ⟨rn, hrn⟩ : ∃ n, n = ps.length := ⟨_, rfl⟩
      rw [← hrn] at g3 hrw
      have q1 := nameB_size hok.1
      have HOP := Lib.hid (ptB_ok hok.2)
      have hwl := wholeP_le8 hok.2
      clear ht hky hgn hps hrv hrn hok
      have hEb := (Ext.refl wr).alloc (.cells #[.string t, .string ky, .int .i64 gn, .slice ra rn rc] 64)
      have hbm := BoxAt.made wr #[.string t, .string ky, .int .i64 gn, .slice ra rn rc] 64
      have hFb := hF.ext hEb
      have hEwb := hEw.trans hEb
      obtain ⟨Wh, hWh⟩ : ∃ L, L = wholeP ky gn (ps.map (·.1)) := ⟨_, rfl⟩
      have hws : (str Wh).size = Wh.length := str_size _
      have HWH := Lib.hid hWh
      rw [← hWh] at hwl htk
      obtain ⟨L, hL⟩ : ∃ L, L = B0 ++ (M.take k).flatMap mutP := ⟨_, rfl⟩
      have hLl : L.length ≤ 123000000 := by rw [hL, List.length_append]; omega
      rw [← hL] at hFb htk
      obtain ⟨L1, hL1⟩ : ∃ X, X = L ++ num t.size ++ t.data.toList := ⟨_, rfl⟩
      have hL1l : L1.length ≤ 123000200 := by
        have := num_length (x := t.size) (by omega)
        rw [hL1]; simp only [List.length_append, dat_size]; omega
      have HL1 := Lib.hid hL1
      rw [← hL1] at htk
      have t1 : decide ((k : Int) < (mn : Int)) = true := by simp; omega
      clear hWh hL hL1 htl
      go_wp2_with fail
      refine wp_region_tab 10 [(3, fun v x => OwnB x w.heap.size v L1), (6, fun v x => OwnB x w.heap.size v Wh), (7, fun v _ => v = .string (str Wh)), (8, fun v x => OwnB x w.heap.size v N1)] (by kernel_rfl) (by kernel_rfl) (by kernel_rfl) ⟨fun _ _ _ hE h => OwnB.ext h hE, fun _ _ _ hE h => OwnB.ext h hE, stays_eq _, fun _ _ _ hE h => OwnB.ext h hE, trivial⟩ ?_
      have x0 := held (show (wr.alloc (.cells #[.string t, .string ky, .int .i64 gn, .slice ra rn rc] 64)).cell? ⟨wr.heap.size, 0, none⟩ = some (.string t) from hbm.cell 0)
      have x1 := held (show (wr.alloc (.cells #[.string t, .string ky, .int .i64 gn, .slice ra rn rc] 64)).cell? ⟨wr.heap.size, 1, none⟩ = some (.string ky) from hbm.cell 1)
      have x2 := held (show (wr.alloc (.cells #[.string t, .string ky, .int .i64 gn, .slice ra rn rc] 64)).cell? ⟨wr.heap.size, 2, none⟩ = some (.int .i64 gn) from hbm.cell 2)
      have x3 := held (show (wr.alloc (.cells #[.string t, .string ky, .int .i64 gn, .slice ra rn rc] 64)).cell? ⟨wr.heap.size, 3, none⟩ = some (.slice ra rn rc) from hbm.cell 3)
      refine rg_quiet rfl rfl rfl rfl ?_; intro K hK; go_big_quiet_op; go_big_quiet_on
      refine rg_quiet rfl rfl rfl rfl ?_; intro K hK; go_big_quiet_op; go_big_quiet_on
      refine rg_quiet rfl rfl rfl rfl ?_; intro K hK; go_big_quiet_op; go_big_quiet_on
      refine rg_fact [] rfl rfl rfl (by kernel_rfl) (fun y hE hf => ?_) (fun v3 y3 hE3 hG3 h3 => ?_)
      · go_simp
        refine (pk_text _ L t (by omega) y (OwnB.bytes (hFb.ext hE)) (by omega)).mono ?_
        rintro e w' ⟨v', rfl, ho, hw⟩
        exact ⟨_, rfl, rg_doneR hE hw (by rw [HL1.out]; exact ho.base (hEwb.trans hE).le)⟩
      obtain ⟨a3, n3, rfl⟩ := ownB_shapeP h3
      clear hE3 hG3 h3
      simp only [Act.put, List.setIfInBounds_toArray, List.set_cons_zero, List.set_cons_succ]
      refine rg_quiet rfl rfl rfl rfl ?_; intro K hK; go_big_quiet_op; go_big_quiet_on
      refine rg_quiet rfl rfl rfl rfl ?_; intro K hK; go_big_quiet_op; go_big_quiet_on
      refine rg_fact [] rfl rfl rfl (by kernel_rfl) (fun y hE hf => ?_) (fun v6 y6 hE6 hG6 h6 => ?_)
      · go_simp
        refine (pk_whole ky gn _ ps HOP.out y (hrw.ext (hEwb.trans hE))).mono ?_
        rintro e w' ⟨v', rfl, ho, hw⟩
        exact ⟨_, rfl, rg_doneR hE hw (by rw [HWH.out]; exact ho.base (hEwb.trans hE).le)⟩
      obtain ⟨a6, n6, rfl⟩ := ownB_shapeP h6
      clear hE6 hG6 h6
      simp only [Act.put, List.setIfInBounds_toArray, List.set_cons_zero, List.set_cons_succ]
      refine rg_text [6] 33 9 5 (.tmp 31) Wh rfl rfl rfl rfl (by kernel_rfl) und_bytes und_u8 und_string (fun y hE hf => OwnB.bytes ((hf 6 (by simp)).2 rfl)) ?_
      simp only [Act.put, List.setIfInBounds_toArray, List.set_cons_zero, List.set_cons_succ]
      refine rg_fact [3] rfl rfl rfl (by kernel_rfl) (fun y hE hf => ?_) (fun v8 y8 hE8 hG8 h8 => ?_)
      · have h3 := (hf 3 (by simp)).1.2 rfl
        go_simp
        refine (pk_text _ L1 (str Wh) (by omega) y (OwnB.bytes h3) (by omega)).mono ?_
        rintro e w' ⟨v', rfl, ho, hw⟩
        rw [hws] at ho
        exact ⟨_, rfl, rg_doneR hE hw (by rw [htk.out]; exact ho.base (hEwb.trans hE).le)⟩
      clear hE8 hG8 h8
      simp only [Act.put, List.setIfInBounds_toArray, List.set_cons_zero, List.set_cons_succ]
      refine rg_quiet rfl rfl rfl rfl ?_; intro K hK; go_big_quiet_op; go_big_quiet_on
      refine rel_nil fun w5 hE5 hG => ?_
      have h8 := (hG 8).2 rfl
      clear x0 x1 x2 x3 hG
      go_wp2_with fail
      go_roundw
      case rel => exact ⟨k + 1, by omega, by go_num, by rw [← HN1.out]; exact h8, (hE.trans hEb).trans hE5⟩
      case measure => simp [intOf]; omega
    · obtain rfl : k = mn := by omega
      have hb3 := hb2.ext hE
      have c1 : wr.cell? ⟨w.heap.size, 1, none⟩ = some (.slice aa an ca) := hb3.cell 1
      rw [List.take_of_length_le (by rw [HMN.out]; exact Nat.le_refl _)] at hF
      obtain ⟨L, hL⟩ : ∃ L, L = B0 ++ M.flatMap mutP := ⟨_, rfl⟩
      have hLl : L.length ≤ 123000000 := by
        have h1 := HMT.out 64 (Nat.le_refl _)
        rw [List.take_of_length_le (by rw [← HMN.out]; omega)] at h1
        rw [hL, List.length_append]; omega
      rw [← hL] at hF
      have HL := Lib.hid hL
      clear hL
      go_wp2_with (go_at_call 58; go_must (refine (pk_number _ L (an : Int) (by omega) (by omega) wr (OwnB.bytes hF) (by omega)).mono ?_); rintro e w3 ⟨v3, rfl, ho3, hE3⟩; rw [Int.toNat_natCast, HL.out, ← H1.out] at ho3; have hb4 := hb3.ext hE3; have d1 : w3.cell? ⟨w.heap.size, 1, none⟩ = some (.slice aa an ca) := hb4.cell 1)
      have hEw3 := hEw.trans hE3
      replace ho3 := OwnB.base ho3 hEw.le
      clear c1 d1
      go_loopw [4, 43] (fun o i wr => ∃ k : Nat, k ≤ an ∧ i = .int .i64 (k : Int) ∧ OwnB wr w.heap.size o (B1 ++ (A.take k).flatMap notP) ∧ Ext w3 wr) (fun _ i _ => an - (intOf i).toNat)
      case atStart => exact ⟨0, Nat.zero_le _, rfl, by simpa using ho3, Ext.refl w3⟩
      case round =>
        obtain ⟨j, hj, rfl, hF2, hE4⟩ := hrel
        have hEv := hEw3.trans hE4
        by_cases hlt2 : j < an
        · have hkF : j < A.length := by rw [← HAN.out]; exact hlt2
          obtain ⟨b, o, rfl, g0, g1⟩ := HGA.out j hkF
          replace g0 := hEv.cell g0
          replace g1 := hEv.cell g1
          have hok := HAB.out _ (List.getElem_mem hkF)
          unfold okNt idB at hok
          simp only [Bool.and_eq_true, decide_eq_true_eq] at hok
          have htl := HAT.out j (by omega)
          have htk : Hid (B1 ++ (A.take (j + 1)).flatMap notP = B1 ++ (A.take j).flatMap notP ++ num (A[j]).id.toNat ++ num (A[j]).body.size ++ (A[j]).body.data.toList) := Lib.hid (by
            rw [flat_take (f := notP) (List.drop_eq_getElem_cons hkF)]
            unfold notP
            simp only [List.append_assoc])
          obtain ⟨N1, hN1⟩ : ∃ N, N = B1 ++ (A.take (j + 1)).flatMap notP := ⟨_, rfl⟩
          rw [← hN1] at htk
          have HN1 := Lib.hid hN1
          clear hN1
          obtain ⟨x, hx⟩ : ∃ t, t = (A[j]).id := ⟨_, rfl⟩
          obtain ⟨bd, hbd⟩ : ∃ t, t = (A[j]).body := ⟨_, rfl⟩
          rw [← hx] at g0 hok htk
          rw [← hbd] at g1 hok htk
          clear hx hbd
          obtain ⟨⟨q1, q2⟩, q3⟩ := hok
          have hEb := (Ext.refl wr).alloc (.cells #[.int .i64 x, .string bd] 94)
          have hbn := BoxAt.made wr #[.int .i64 x, .string bd] 94
          have hFb := hF2.ext hEb
          have hEvb := hEv.trans hEb
          obtain ⟨L2, hL2⟩ : ∃ L, L = B1 ++ (A.take j).flatMap notP := ⟨_, rfl⟩
          have hL2l : L2.length ≤ 125000000 := by rw [hL2, List.length_append]; omega
          rw [← hL2] at hFb htk
          obtain ⟨L1, hL1⟩ : ∃ X, X = L2 ++ num x.toNat := ⟨_, rfl⟩
          have hL1l : L1.length ≤ 125000200 := by
            have := num_length (x := x.toNat) (by omega)
            rw [hL1]; simp only [List.length_append]; omega
          have HL1 := Lib.hid hL1
          rw [← hL1] at htk
          have t1 : decide ((j : Int) < (an : Int)) = true := by simp; omega
          clear hL2 hL1 htl
          go_wp2_with fail
          refine wp_region_tab 8 [(3, fun v x => OwnB x w.heap.size v L1), (6, fun v x => OwnB x w.heap.size v N1)] (by kernel_rfl) (by kernel_rfl) (by kernel_rfl) ⟨fun _ _ _ hE h => OwnB.ext h hE, fun _ _ _ hE h => OwnB.ext h hE, trivial⟩ ?_
          have x0 := held (show (wr.alloc (.cells #[.int .i64 x, .string bd] 94)).cell? ⟨wr.heap.size, 0, none⟩ = some (.int .i64 x) from hbn.cell 0)
          have x1 := held (show (wr.alloc (.cells #[.int .i64 x, .string bd] 94)).cell? ⟨wr.heap.size, 1, none⟩ = some (.string bd) from hbn.cell 1)
          refine rg_quiet rfl rfl rfl rfl ?_; intro K hK; go_big_quiet_op; go_big_quiet_on
          refine rg_quiet rfl rfl rfl rfl ?_; intro K hK; go_big_quiet_op; go_big_quiet_on
          refine rg_quiet rfl rfl rfl rfl ?_; intro K hK; go_big_quiet_op; go_big_quiet_on
          refine rg_fact [] rfl rfl rfl (by kernel_rfl) (fun y hE hf => ?_) (fun v3 y3 hE3 hG3 h3 => ?_)
          · go_simp
            refine (pk_number _ L2 x (by omega) (by omega) y (OwnB.bytes (hFb.ext hE)) (by omega)).mono ?_
            rintro e w' ⟨v', rfl, ho, hw⟩
            exact ⟨_, rfl, rg_doneR hE hw (by rw [HL1.out]; exact ho.base (hEvb.trans hE).le)⟩
          clear hE3 hG3 h3
          simp only [Act.put, List.setIfInBounds_toArray, List.set_cons_zero, List.set_cons_succ]
          refine rg_quiet rfl rfl rfl rfl ?_; intro K hK; go_big_quiet_op; go_big_quiet_on
          refine rg_quiet rfl rfl rfl rfl ?_; intro K hK; go_big_quiet_op; go_big_quiet_on
          refine rg_fact [3] rfl rfl rfl (by kernel_rfl) (fun y hE hf => ?_) (fun v6 y6 hE6 hG6 h6 => ?_)
          · have h3 := (hf 3 (by simp)).2 rfl
            go_simp
            refine (pk_text _ L1 bd (by omega) y (OwnB.bytes h3) (by omega)).mono ?_
            rintro e w' ⟨v', rfl, ho, hw⟩
            exact ⟨_, rfl, rg_doneR hE hw (by rw [htk.out]; exact ho.base (hEvb.trans hE).le)⟩
          clear hE6 hG6 h6
          simp only [Act.put, List.setIfInBounds_toArray, List.set_cons_zero, List.set_cons_succ]
          refine rg_quiet rfl rfl rfl rfl ?_; intro K hK; go_big_quiet_op; go_big_quiet_on
          refine rel_nil fun w5 hE5 hG => ?_
          have h6 := (hG 6).2 rfl
          clear x0 x1 hG
          go_wp2_with fail
          go_roundw
          case rel => exact ⟨j + 1, by omega, by go_num, by rw [← HN1.out]; exact h6, (hE4.trans hEb).trans hE5⟩
          case measure => simp [intOf]; omega
        · obtain rfl : j = an := by omega
          have hb5 := hb4.ext hE4
          have c2 : wr.cell? ⟨w.heap.size, 2, none⟩ = some (.slice ad dn cd) := hb5.cell 2
          rw [List.take_of_length_le (by rw [HAN.out]; exact Nat.le_refl _)] at hF2
          obtain ⟨L2, hL2⟩ : ∃ L, L = B1 ++ A.flatMap notP := ⟨_, rfl⟩
          have hL2l : L2.length ≤ 125000000 := by
            have h1 := HAT.out 300 (Nat.le_refl _)
            rw [List.take_of_length_le (by rw [← HAN.out]; omega)] at h1
            rw [hL2, List.length_append]; omega
          rw [← hL2] at hF2
          have HL2 := Lib.hid hL2
          clear hL2
          go_wp2_with (go_at_call 58; go_must (refine (pk_number _ L2 (dn : Int) (by omega) (by omega) wr (OwnB.bytes hF2) (by omega)).mono ?_); rintro e w4 ⟨v4, rfl, ho4, hE5⟩; rw [Int.toNat_natCast, HL2.out, ← H2.out] at ho4; have hb6 := hb5.ext hE5; have d2 : w4.cell? ⟨w.heap.size, 2, none⟩ = some (.slice ad dn cd) := hb6.cell 2)
          have hEw4 := hEv.trans hE5
          replace ho4 := OwnB.base ho4 hEv.le
          clear c2 d2
          go_loopw [4, 63] (fun o i wr => ∃ k : Nat, k ≤ dn ∧ i = .int .i64 (k : Int) ∧ OwnB wr w.heap.size o (B2 ++ (D.take k).flatMap fun d => num d.toNat) ∧ Ext w4 wr) (fun _ i _ => dn - (intOf i).toNat)
          case atStart => exact ⟨0, Nat.zero_le _, rfl, by simpa using ho4, Ext.refl w4⟩
          case round =>
            obtain ⟨d, hd, rfl, hF3, hE6⟩ := hrel
            have hEu := hEw4.trans hE6
            by_cases hlt3 : d < dn
            · have hkF : d < D.length := by rw [← HDN.out]; exact hlt3
              obtain ⟨b, o, rfl, g0⟩ := HGD.out d (.int .i64 D[d]) (by rw [kcells_get, List.getElem?_eq_getElem hkF]; rfl)
              replace g0 := hEu.cell g0
              have hok := HDB.out _ (List.getElem_mem hkF)
              unfold idB at hok
              simp only [Bool.and_eq_true, decide_eq_true_eq] at hok
              have htl := HDT.out d (by omega)
              have htk := Lib.hid (flat_takeD (f := fun d : Int => num d.toNat) hkF)
              obtain ⟨L3, hL3⟩ : ∃ L, L = B2 ++ (D.take d).flatMap fun d => num d.toNat := ⟨_, rfl⟩
              have hL3l : L3.length ≤ 125010000 := by rw [hL3, List.length_append]; omega
              rw [← hL3] at hF3
              have HL3 := Lib.hid hL3
              obtain ⟨x, hx⟩ : ∃ t, t = D[d] := ⟨_, rfl⟩
              rw [← hx] at g0 hok htk
              clear hx hL3 htl
              have t1 : decide ((d : Int) < (dn : Int)) = true := by simp; omega
              go_wp2_with (go_at_call 58; go_must (refine (pk_number _ L3 x (by omega) (by omega) wr (OwnB.bytes hF3) (by omega)).mono ?_); rintro e w7 ⟨v7, rfl, ho7, hE7⟩)
              go_roundw
              case rel =>
                refine ⟨d + 1, by omega, by go_num, ?_, hE6.trans hE7⟩
                rw [htk.out, ← List.append_assoc, ← HL3.out]
                exact OwnB.base ho7 hEu.le
              case measure => simp [intOf]; omega
            · obtain rfl : d = dn := by omega
              rw [List.take_of_length_le (by rw [HDN.out]; exact Nat.le_refl _), ← HBP.out] at hF3
              obtain ⟨L, hL⟩ : ∃ L, L = batP M A D := ⟨_, rfl⟩
              rw [← hL] at hF3
              have hF4 := hF3
              obtain ⟨ax, cx, rfl⟩ := ownB_shapeP hF4
              by_cases hlen : L.length ≤ 262144
              · have hlt : ¬ (262144 : Int) < (L.length : Int) := by omega
                have e1 : Hid (RB = (L, 0)) := Lib.hid (by rw [HBR.out, ← hL, if_pos hlen])
                clear hL
                go_wp2_with fail
                go_ret2
                exact ⟨.slice ax L.length cx, by rw [e1.out]; rfl, by rw [e1.out]; exact hF3, hEu⟩
              · have hlt : decide ((262144 : Int) < (L.length : Int)) = true := decide_eq_true (by omega)
                have e1 : Hid (RB = ([], 2)) := Lib.hid (by rw [HBR.out, ← hL, if_neg hlen])
                clear hL
                go_wp2_with fail
                go_ret2
                exact ⟨.slice none 0 0, by rw [e1.out]; rfl, by rw [e1.out]; exact World.ownsRow_nil _ _ _ _, hEu⟩

theorem batch_gen (vm va vd : Value) (M : List Mt) (A : List Nt) (D : List Int) (w : World) (hT : TabU w) (hM : MtsIn w vm M) (hA : NtsIn w va A) (hD : IntsIn w vd .i64 D) (hMb : ∀ x ∈ M, x.table.size ≤ 1000000 ∧ ∀ p ∈ x.pa.ps, ∀ c ∈ p.1.cols, c.name.size ≤ 1000000) (hAb : ∀ x ∈ A, x.body.size ≤ 1000000) :
    Calls Tryd.prog 15 #[.agg #[vm, va, vd]] w fun e w' => ∃ v', e = .returned (.tuple #[v', .int .i64 (batR M A D).2]) ∧ OwnB w' w.heap.size v' (batR M A D).1 ∧ Ext w w' := by
  cases hc : cbG M A D
  · have e : batR M A D = ([], 1) := by unfold batR; rw [hc]; rfl
    rw [e]
    refine (batch_bad vm va vd M A D w hT hM hA hD hMb hAb hc).mono ?_
    rintro e w' ⟨rfl, hE⟩
    exact ⟨_, rfl, World.ownsRow_nil _ _ _ _, hE⟩
  · exact batch_good vm va vd M A D w hT hM hA hD hMb hAb hc
end Go.Proofs.YtcmgeccgahakbaaDoor

/- Batches as plain data: what pack's reader makes of bytes; what may be; the bytes of it. -/
namespace Go.Proofs.YtcmgeccgahakbaaDoor
open Go Go.RowKit

/-- A mutation, whatever its memory. -/
structure Mq where
  table : ByteArray
  pt : Pt
def Mt.q (m : Mt) : Mq := ⟨m.table, ⟨m.pa.key, m.pa.gone, m.pa.ps.map (·.1)⟩⟩
def mutR (B : List UInt8) (s : Nat × Int) : Mq × (Nat × Int) :=
  (⟨(txtR B s).1, (prtR (txtR B (txtR B s).2).1.data.toList (0, (txtR B (txtR B s).2).2.2)).1⟩, failR (prtR (txtR B (txtR B s).2).1.data.toList (0, (txtR B (txtR B s).2).2.2)).2.2 (txtR B (txtR B s).2).2)
def noteR (B : List UInt8) (s : Nat × Int) : Nt × (Nat × Int) := (⟨((numR B s).1 : Int), (txtR B (numR B s).2).1⟩, (txtR B (numR B s).2).2)
def numIR (B : List UInt8) (s : Nat × Int) : Int × (Nat × Int) := (((numR B s).1 : Int), (numR B s).2)
structure Bt where
  muts : List Mq
  add : List Nt
  drop : List Int
def btR (B : List UInt8) (s : Nat × Int) : Bt × (Nat × Int) :=
  (⟨(listR B (mutR B) s).1, (listR B (noteR B) (listR B (mutR B) s).2).1, (listR B (numIR B) (listR B (noteR B) (listR B (mutR B) s).2).2).1⟩,
   endR B (listR B (numIR B) (listR B (noteR B) (listR B (mutR B) s).2).2).2)
def okMq (x : Mq) : Bool := nameB x.table && ptB x.pt.key x.pt.gone x.pt.rows
def cbQ (b : Bt) : Bool := decide (b.muts.length ≤ 64) && decide (b.add.length ≤ 300) && decide (b.drop.length ≤ 300) && b.muts.all okMq && b.add.all okNt && b.drop.all idB
theorem cbG_q (M : List Mt) (A : List Nt) (D : List Int) : cbG M A D = cbQ ⟨M.map Mt.q, A, D⟩ := by
  unfold cbG cbQ
  simp only [List.length_map, List.all_map]
  rfl
def mutE (x : Mq) : List UInt8 := mutQ x.table x.pt.key x.pt.gone x.pt.rows
def batQ (b : Bt) : List UInt8 := num b.muts.length ++ b.muts.flatMap mutE ++ num b.add.length ++ b.add.flatMap notP ++ num b.drop.length ++ b.drop.flatMap fun d => num d.toNat
theorem batP_q (M : List Mt) (A : List Nt) (D : List Int) : batP M A D = batQ ⟨M.map Mt.q, A, D⟩ := by
  unfold batP batQ
  simp only [List.length_map, List.flatMap_map]
  rfl
/-- What GetBatch answers. -/
def gB (l : List UInt8) : Bt × (Nat × Int) := btR l (0, if l.length ≤ 262144 then 0 else 2)
def gbErr (l : List UInt8) : Int := if (gB l).2.2 = 0 then (if cbQ (gB l).1 then 0 else 1) else (gB l).2.2
def gbBt (l : List UInt8) : Bt := if gbErr l = 0 then (gB l).1 else ⟨[], [], []⟩

theorem mutR_low (B : List UInt8) (s : Nat × Int) : (mutR B s).1.table.size ≤ B.length ∧ ∀ r ∈ (mutR B s).1.pt.rows, ∀ c ∈ r.cols, c.name.size ≤ B.length := by
  refine ⟨txtR_size B s, fun r hr c hc => ?_⟩
  have h1 := prtR_low (txtR B (txtR B s).2).1.data.toList (0, (txtR B (txtR B s).2).2.2) r hr c hc
  have h2 := txtR_size B (txtR B s).2
  rw [dat_size] at h1
  omega
theorem btR_low (B : List UInt8) (s : Nat × Int) : (∀ x ∈ (btR B s).1.muts, x.table.size ≤ B.length ∧ ∀ r ∈ x.pt.rows, ∀ c ∈ r.cols, c.name.size ≤ B.length) ∧ ∀ n ∈ (btR B s).1.add, n.body.size ≤ B.length :=
  ⟨manyR_all (P := fun x : Mq => x.table.size ≤ B.length ∧ ∀ r ∈ x.pt.rows, ∀ c ∈ r.cols, c.name.size ≤ B.length) (fun s => mutR_low B s) _ _, manyR_all (P := fun n : Nt => n.body.size ≤ B.length) (fun s => txtR_size B (numR B s).2) _ _⟩
end Go.Proofs.YtcmgeccgahakbaaDoor
