/- ProjectWinners: the law's walk. -/
import Derived.Test.YtobanilgofhgkaaFullOne
import Derived.Test.YtobanilgofhgkaaProjAwake
namespace Go.Proofs.Ytobanilgofhgkaa
open Go Go.RowKit
attribute [local go_sem] yields yUpon ro8 pa3 vw5 cl4 tabV viewV

def wnV : Vw := ⟨⟨#[118]⟩, 2, ⟨#[116]⟩, ⟨#[97]⟩⟩
def wnR (on : Cl) (g c : Int) : Ro := ⟨⟨#[107]⟩, ⟨⟨#[]⟩, false, 9, 0⟩, g, 7, [⟨⟨#[97]⟩, on⟩, ⟨⟨#[98]⟩, ⟨⟨#[]⟩, true, c, 0⟩⟩, ⟨⟨#[99]⟩, ⟨⟨#[122]⟩, false, c, 0⟩⟩]⟩
def wnN : List ByteArray := [⟨#[98]⟩, ⟨#[100]⟩]
theorem wn_cell (on : Cl) (g c : Int) : cellOf (wnR on g c).cols wnV.on = on := by simp [wnR, wnV, cellOf]
theorem wn_keep (on : Cl) (g c : Int) : (wnR on g c).cols.filter (keeps wnN) = [⟨⟨#[98]⟩, ⟨⟨#[]⟩, true, c, 0⟩⟩] := by
  simp [wnR, wnN, keeps, strikes, hasS, ByteArray.toList_eq]
theorem wn_best (a e g p : Int) (h : 1 ≤ a) : bestB ⟨⟨#[120]⟩, false, a, e⟩ (max g p) = (decide (g < a) && decide (p < a)) := by
  unfold bestB
  rw [Bool.eq_iff_iff]
  simp
  omega
theorem wn_dead (a g p : Int) : bestB ⟨⟨#[]⟩, true, a, 0⟩ (max g p) = false := by simp [bestB]

theorem two' (a b : Bool) : a = false ∨ (a = true ∧ b = false) ∨ (a = true ∧ b = true) := by cases a <;> cases b <;> simp
/-- The world in which the law asks for the mirror. -/
def wnT (bs : Nat) : Array Value := #[.string ⟨#[116]⟩, .int .i64 1, .string ⟨#[112]⟩, .int .i64 1, .string ⟨#[107]⟩, .int .i64 2, .slice (some ⟨bs, 0, none⟩) 4 4]
def wnC (n : Nat) : Value := .slice (some ⟨n + 1 + 1 + 1, 0, none⟩) 3 3
def wnW (w1 : World) (bs bu : Nat) (on : Cl) (g c p : Int) : World :=
  ((((((w1.alloc (.cells (wnT bs) 48)).alloc (.cells (vw5 wnV (.slice (some ⟨bu, 0, none⟩) 2 2)) 51)).alloc (.cells (cl4 on) 37)).alloc (.cells (coCells (wnR on g c).cols).toArray 55)).alloc (.cells (ro8 (wnR on g c) (wnC w1.heap.size)) 40)).alloc (.cells (ro8 (wnR on g c) (wnC w1.heap.size)) 40)).alloc (.cells (pa3 ⟨#[109]⟩ p (.slice (some ⟨w1.heap.size + 1 + 1 + 1 + 1 + 1, 0, none⟩) 1 1)) 32)
structure WnF (w1 w : World) (bs bu : Nat) (on : Cl) (g c p : Int) : Prop where
  tab : BoxAt w w1.heap.size (wnT bs) 48
  view : BoxAt w (w1.heap.size + 1) (vw5 wnV (.slice (some ⟨bu, 0, none⟩) 2 2)) 51
  cel : BoxAt w (w1.heap.size + 1 + 1) (cl4 on) 37
  row : BoxAt w (w1.heap.size + 1 + 1 + 1 + 1) (ro8 (wnR on g c) (wnC w1.heap.size)) 40
  part : BoxAt w (w1.heap.size + 1 + 1 + 1 + 1 + 1 + 1) (pa3 ⟨#[109]⟩ p (.slice (some ⟨w1.heap.size + 1 + 1 + 1 + 1 + 1, 0, none⟩) 1 1)) 32
  cols : ColsIn w (wnC w1.heap.size) (wnR on g c).cols
  rows : RowsIn w (.slice (some ⟨w1.heap.size + 1 + 1 + 1 + 1 + 1, 0, none⟩) 1 1) [(wnR on g c, wnC w1.heap.size)]
  ext : Ext w1 w
theorem WnF.on' {w1 w w' : World} {bs bu : Nat} {on : Cl} {g c p : Int} (hE : Ext w w') (h : WnF w1 w bs bu on g c p) : WnF w1 w' bs bu on g c p :=
  ⟨h.tab.ext hE, h.view.ext hE, h.cel.ext hE, h.row.ext hE, h.part.ext hE, h.cols.ext hE, h.rows.ext hE, h.ext.trans hE⟩
theorem wn_world (w1 : World) (bs bu : Nat) (on : Cl) (g c p : Int) : WnF w1 (wnW w1 bs bu on g c p) bs bu on g c p := by
  have e1 : ∀ (w : World) (o : Obj), Ext w (w.alloc o) := fun w o => (Ext.refl w).alloc o
  have hc : ColsIn (((((w1.alloc (.cells (wnT bs) 48)).alloc (.cells (vw5 wnV (.slice (some ⟨bu, 0, none⟩) 2 2)) 51)).alloc (.cells (cl4 on) 37)).alloc (.cells (coCells (wnR on g c).cols).toArray 55))) (wnC w1.heap.size) (wnR on g c).cols := by
    have h := SliceIn.made (((w1.alloc (.cells (wnT bs) 48)).alloc (.cells (vw5 wnV (.slice (some ⟨bu, 0, none⟩) 2 2)) 51)).alloc (.cells (cl4 on) 37)) (coCells (wnR on g c).cols).toArray 55 3 (by unfold maxLen; decide)
    rw [Deep.nblk_alloc, Deep.nblk_alloc, Deep.nblk_alloc] at h
    exact h
  have hrow5 : BoxAt (wnW w1 bs bu on g c p) (w1.heap.size + 1 + 1 + 1 + 1 + 1) (ro8 (wnR on g c) (wnC w1.heap.size)) 40 := (BoxAt.madeN _ _ (by simp only [Deep.nblk_alloc])).ext (e1 _ _)
  have hcols : ColsIn (wnW w1 bs bu on g c p) (wnC w1.heap.size) (wnR on g c).cols := hc.ext (((e1 _ _).trans (e1 _ _)).trans (e1 _ _))
  refine ⟨?_, ?_, ?_, ?_, ?_, hcols, rows_one hrow5 hcols, ?_⟩
  · exact (BoxAt.made w1 _ _).ext ((((((e1 _ _).trans (e1 _ _)).trans (e1 _ _)).trans (e1 _ _)).trans (e1 _ _)).trans (e1 _ _))
  · exact (BoxAt.madeN _ _ (Deep.nblk_alloc _ _)).ext (((((e1 _ _).trans (e1 _ _)).trans (e1 _ _)).trans (e1 _ _)).trans (e1 _ _))
  · exact (BoxAt.madeN _ _ (by simp only [Deep.nblk_alloc])).ext ((((e1 _ _).trans (e1 _ _)).trans (e1 _ _)).trans (e1 _ _))
  · exact (BoxAt.madeN _ _ (by simp only [Deep.nblk_alloc])).ext ((e1 _ _).trans (e1 _ _))
  · exact BoxAt.madeN _ _ (by simp only [Deep.nblk_alloc])
  · exact ((((((e1 _ _).trans (e1 _ _)).trans (e1 _ _)).trans (e1 _ _)).trans (e1 _ _)).trans (e1 _ _)).trans (e1 _ _)

set_option maxRecDepth 100000 in
set_option maxHeartbeats 8000000 in
theorem law_winners (at_ gone part : Int) (dead : Bool) (b end_ : Int) (w : World) :
    Calls Try.prog 6 #[.int .i64 at_, .int .i64 gone, .int .i64 part, .bool dead, .int .i64 b, .int .i64 end_] w fun e w' => e = .returned (.bool true) ∧ Ext w w' := by
  obtain ⟨a0, ha0⟩ : ∃ x, x = at_ % 9 := ⟨_, rfl⟩
  obtain ⟨g, hg⟩ : ∃ x, x = gone % 9 := ⟨_, rfl⟩
  obtain ⟨p, hp⟩ : ∃ x, x = part % 9 := ⟨_, rfl⟩
  obtain ⟨c0, hc0⟩ : ∃ x, x = b % 9 := ⟨_, rfl⟩
  obtain ⟨e, he⟩ : ∃ x, x = end_ % 5 := ⟨_, rfl⟩
  have a1 : 0 ≤ a0 ∧ a0 < 9 := by omega
  have c1 : 0 ≤ c0 ∧ c0 < 9 := by omega
  have Ha := Lib.hid ha0
  have Hg := Lib.hid hg
  have Hp := Lib.hid hp
  have Hc := Lib.hid hc0
  have He := Lib.hid he
  clear ha0 hg hp hc0 he
  obtain ⟨a, haa⟩ : ∃ a, a = 1 + a0 := ⟨_, rfl⟩
  obtain ⟨c, hcc⟩ : ∃ c, c = 1 + c0 := ⟨_, rfl⟩
  have wa : IntKind.i64.wrap (1 + a0) = a := by rw [IntKind.wrap_i64]; omega
  have wc : IntKind.i64.wrap (1 + c0) = c := by rw [IntKind.wrap_i64]; omega
  have ha1 : 1 ≤ a := by omega
  clear a1 c1 haa hcc
  cases dead
  · obtain ⟨R, hR⟩ : ∃ R, R = wnR ⟨⟨#[120]⟩, false, a, e⟩ g c := ⟨_, rfl⟩
    have hcell : cellOf R.cols wnV.on = ⟨⟨#[120]⟩, false, a, e⟩ := by rw [hR]; exact wn_cell _ _ _
    have hbb : bestB (cellOf R.cols wnV.on) (max R.gone p) = (decide (g < a) && decide (p < a)) := by rw [hcell, hR]; exact wn_best a e g p ha1
    have HR := Lib.hid hR
    have HCell := Lib.hid hcell
    have HBB := Lib.hid hbb
    clear hR hcell hbb
    go_enter Try.func6, Try.ntmps6
    go_wp2_with fail
    refine (view_any _).mono ?_
    rintro _ w1 ⟨bs, bu, rfl, hns, hE1⟩
    go_wp2_with fail
    refine (place_any _ _ (by omega) (by omega) _).mono ?_
    rw [← Ha.out]
    rintro _ w2 ⟨rfl, rfl⟩
    go_wp2_with fail
    refine (place_any _ _ (by omega) (by omega) _).mono ?_
    rw [← Hg.out]
    rintro _ w2 ⟨rfl, rfl⟩
    go_wp2_with fail
    refine (place_any _ _ (by omega) (by omega) _).mono ?_
    rw [← Hp.out]
    rintro _ w2 ⟨rfl, rfl⟩
    go_wp2_with fail
    refine (place_any _ _ (by omega) (by omega) _).mono ?_
    rw [← Hc.out]
    rintro _ w2 ⟨rfl, rfl⟩
    go_wp2_with fail
    refine (place_any _ _ (by omega) (by omega) _).mono ?_
    rw [← He.out]
    rintro _ w2 ⟨rfl, rfl⟩
    clear Ha Hg Hp Hc He wa wc
    go_wp2_with fail
    have hkl : (vkey ⟨#[109]⟩ ⟨#[107]⟩).size ≤ 400 := by rw [vkey_size]; decide
    have HKL := Lib.hid hkl
    clear hkl
    rcases two' (decide (g < a)) (decide (p < a)) with b1 | ⟨b1, b2⟩ | ⟨b1, b2⟩
    · have hb : (decide (g < a) && decide (p < a)) = false := by rw [b1]; rfl
      refine (mirror_none (.slice (some ⟨bs, 0, none⟩) 4 4) wnV (.slice (some ⟨bu, 0, none⟩) 2 2) ⟨#[109]⟩ p _ (wnR ⟨⟨#[120]⟩, false, a, e⟩ g c) _ _ (wn_world w1 bs bu ⟨⟨#[120]⟩, false, a, e⟩ g c p).cols (by rw [← HR.out, HBB.out]; exact hb) (by decide) (by show (⟨#[107]⟩ : ByteArray).size ≤ 10000000; decide)).mono ?_
      rintro _ w2 ⟨rfl, hE2⟩
      have F := (wn_world w1 bs bu ⟨⟨#[120]⟩, false, a, e⟩ g c p).on' hE2
      have hns2 := hns.ext F.ext
      have hX2 := hE1.trans F.ext
      have HB := Lib.hid hb
      have y0 := F.tab.allocs
      have y1 := F.view.allocs
      have y6 := F.part.allocs
      simp only [wnT] at y0
      simp only [wnV] at y1
      clear hE2 hns hE1 hb
      go_wp2_with fail
      refine (full_one (.slice (some ⟨bs, 0, none⟩) 4 4) wnV (.slice (some ⟨bu, 0, none⟩) 2 2) wnN ⟨#[109]⟩ p _ (wnR ⟨⟨#[120]⟩, false, a, e⟩ g c) _ _ (F.rows.ext ((Ext.refl _).alloc _)) (by simp [wnR]) (hns2.ext ((Ext.refl _).alloc _)) (by decide) (by show (⟨#[107]⟩ : ByteArray).size ≤ 10000000; decide) HKL.out).mono ?_
      rintro _ w3 ⟨hE3, hF⟩
      rcases hF with ⟨_, rfl⟩ | ⟨h1, _⟩
      · replace hX2 := (hX2.alloc _).trans hE3
        have bx := (BoxAt.made w2 (pa3 ⟨#[]⟩ 0 (.slice none 0 0)) 32).ext hE3
        have y9 : ∀ i, w3.cell? ⟨w2.heap.size, i, none⟩ = (pa3 ⟨#[]⟩ 0 (.slice none 0 0))[i]? := fun i => bx.cell i
        go_wp2_with fail
        refine (pawake_any _).mono ?_
        rintro _ w4 ⟨rfl, hE4⟩
        go_wp2
        go_ret
        exact ⟨rfl, hX2.trans hE4⟩
      · rw [← HR.out, HBB.out, HB.out] at h1
        cases h1
    · have hb : (decide (g < a) && decide (p < a)) = false := by rw [b1, b2]; rfl
      refine (mirror_none (.slice (some ⟨bs, 0, none⟩) 4 4) wnV (.slice (some ⟨bu, 0, none⟩) 2 2) ⟨#[109]⟩ p _ (wnR ⟨⟨#[120]⟩, false, a, e⟩ g c) _ _ (wn_world w1 bs bu ⟨⟨#[120]⟩, false, a, e⟩ g c p).cols (by rw [← HR.out, HBB.out]; exact hb) (by decide) (by show (⟨#[107]⟩ : ByteArray).size ≤ 10000000; decide)).mono ?_
      rintro _ w2 ⟨rfl, hE2⟩
      have F := (wn_world w1 bs bu ⟨⟨#[120]⟩, false, a, e⟩ g c p).on' hE2
      have hns2 := hns.ext F.ext
      have hX2 := hE1.trans F.ext
      have HB := Lib.hid hb
      have y0 := F.tab.allocs
      have y1 := F.view.allocs
      have y6 := F.part.allocs
      simp only [wnT] at y0
      simp only [wnV] at y1
      clear hE2 hns hE1 hb
      go_wp2_with fail
      refine (full_one (.slice (some ⟨bs, 0, none⟩) 4 4) wnV (.slice (some ⟨bu, 0, none⟩) 2 2) wnN ⟨#[109]⟩ p _ (wnR ⟨⟨#[120]⟩, false, a, e⟩ g c) _ _ (F.rows.ext ((Ext.refl _).alloc _)) (by simp [wnR]) (hns2.ext ((Ext.refl _).alloc _)) (by decide) (by show (⟨#[107]⟩ : ByteArray).size ≤ 10000000; decide) HKL.out).mono ?_
      rintro _ w3 ⟨hE3, hF⟩
      rcases hF with ⟨_, rfl⟩ | ⟨h1, _⟩
      · replace hX2 := (hX2.alloc _).trans hE3
        have bx := (BoxAt.made w2 (pa3 ⟨#[]⟩ 0 (.slice none 0 0)) 32).ext hE3
        have y9 : ∀ i, w3.cell? ⟨w2.heap.size, i, none⟩ = (pa3 ⟨#[]⟩ 0 (.slice none 0 0))[i]? := fun i => bx.cell i
        go_wp2_with fail
        refine (pawake_any _).mono ?_
        rintro _ w4 ⟨rfl, hE4⟩
        go_wp2
        go_ret
        exact ⟨rfl, hX2.trans hE4⟩
      · rw [← HR.out, HBB.out, HB.out] at h1
        cases h1
    · have hb : (decide (g < a) && decide (p < a)) = true := by rw [b1, b2]; rfl
      have hr2 := mirror_some (.slice (some ⟨bs, 0, none⟩) 4 4) wnV (.slice (some ⟨bu, 0, none⟩) 2 2) wnN ⟨#[109]⟩ p (.slice (some ⟨w1.heap.size + 1 + 1 + 1 + 1 + 1, 0, none⟩) 1 1) (wnR ⟨⟨#[120]⟩, false, a, e⟩ g c) _ _ (wn_world w1 bs bu ⟨⟨#[120]⟩, false, a, e⟩ g c p).cols (by simp [wnR]) (hns.ext (wn_world w1 bs bu ⟨⟨#[120]⟩, false, a, e⟩ g c p).ext) (by rw [← HR.out, HBB.out]; exact hb) (by decide) (by show (⟨#[107]⟩ : ByteArray).size ≤ 10000000; decide) HKL.out
      rw [wn_cell, wn_keep] at hr2
      refine hr2.mono ?_
      clear hr2
      rintro _ w2 ⟨b2', v', rfl, hbs, hbox, hown, hE2⟩
      have F := (wn_world w1 bs bu ⟨⟨#[120]⟩, false, a, e⟩ g c p).on' hE2
      have hns2 := hns.ext F.ext
      have hX2 := hE1.trans F.ext
      have HB := Lib.hid hb
      have hRI := rows_one hbox (cols_own hown)
      have y0 := F.tab.allocs
      have y1 := F.view.allocs
      have y6 := F.part.allocs
      simp only [wnT] at y0
      simp only [wnV] at y1
      clear hE2 hns hE1 hb
      go_wp2_with fail
      have hr3 := full_one (.slice (some ⟨bs, 0, none⟩) 4 4) wnV (.slice (some ⟨bu, 0, none⟩) 2 2) wnN ⟨#[109]⟩ p _ (wnR ⟨⟨#[120]⟩, false, a, e⟩ g c) _ (w2.alloc (.cells (pa3 ⟨#[120]⟩ 0 (.slice (some ⟨b2', 0, none⟩) 1 1)) 32)) (F.rows.ext ((Ext.refl _).alloc _)) (by simp [wnR]) (hns2.ext ((Ext.refl _).alloc _)) (by decide) (by show (⟨#[107]⟩ : ByteArray).size ≤ 10000000; decide) HKL.out
      rw [wn_cell] at hr3
      refine hr3.mono ?_
      clear hr3
      rintro _ w3 ⟨hE3, hF⟩
      rcases hF with ⟨h1, _⟩ | ⟨_, gg, cap, rv, v3, rfl, hc1, hc2, m0, m1, m2, hRI3⟩
      · exfalso
        have h2 := wn_best a e g p ha1
        rw [show max (wnR ⟨⟨#[120]⟩, false, a, e⟩ g c).gone p = max g p from rfl, h2, HB.out] at h1
        cases h1
      · have bx := (BoxAt.made w2 (pa3 ⟨#[120]⟩ 0 (.slice (some ⟨b2', 0, none⟩) 1 1)) 32).ext hE3
        replace hX2 := (hX2.alloc _).trans hE3
        replace hRI := (hRI.ext ((Ext.refl w2).alloc (.cells (pa3 ⟨#[120]⟩ 0 (.slice (some ⟨b2', 0, none⟩) 1 1)) 32))).ext hE3
        have hbox3 : BoxAt w3 b2' (ro8 ⟨vkey ⟨#[109]⟩ ⟨#[107]⟩, ⟨⟨#[]⟩, false, a, e⟩, max g p, 0, [⟨⟨#[98]⟩, ⟨⟨#[]⟩, true, c, 0⟩⟩]⟩ v') 40 := (hbox.ext ((Ext.refl w2).alloc (.cells (pa3 ⟨#[120]⟩ 0 (.slice (some ⟨b2', 0, none⟩) 1 1)) 32))).ext hE3
        have hcv := ((cols_own hown).ext ((Ext.refl w2).alloc (.cells (pa3 ⟨#[120]⟩ 0 (.slice (some ⟨b2', 0, none⟩) 1 1)) 32))).ext hE3
        have hcel := (F.cel.ext ((Ext.refl w2).alloc (.cells (pa3 ⟨#[120]⟩ 0 (.slice (some ⟨b2', 0, none⟩) 1 1)) 32))).ext hE3
        obtain ⟨av, cv, rfl, hcc1, hcc2, hcell⟩ := hcv.get
        obtain ⟨bv, ov, rfl, hco⟩ := hcell 0 (by simp)
        simp only [List.getElem_cons_zero, Nat.zero_mul, Nat.add_zero, List.length_singleton] at hco hcc1
        clear hE3 y0 y1 y6 hcell hcv hbox hown
        go_wp2_with fail
        obtain ⟨q0, q1, q2⟩ := bx.pa
        replace q0 := held q0
        replace q1 := held q1
        replace q2 := held q2
        replace m0 := held m0
        replace m1 := held m1
        replace m2 := held m2
        refine wp_region_tab 27 [(8, fun v _ => v = .bool true)] (by kernel_rfl) (by kernel_rfl) (by kernel_rfl) ⟨stays_eq _, trivial⟩ ?_
        have hmir : Hid (mirR wnV wnN ⟨#[109]⟩ p (wnR ⟨⟨#[120]⟩, false, a, e⟩ g c) = ⟨vkey ⟨#[109]⟩ ⟨#[107]⟩, ⟨⟨#[]⟩, false, a, e⟩, max g p, 0, [⟨⟨#[98]⟩, ⟨⟨#[]⟩, true, c, 0⟩⟩]⟩) := by show mirR wnV wnN ⟨#[109]⟩ p (wnR ⟨⟨#[120]⟩, false, a, e⟩ g c) = _; unfold mirR; rw [wn_cell, wn_keep]; rfl
        refine rg_quiet rfl rfl rfl rfl ?_; intro K hK; go_big_quiet_op; go_big_quiet_on
        refine rg_quiet rfl rfl rfl rfl ?_; intro K hK; go_big_quiet_op; go_big_quiet_on
        refine rg_quiet rfl rfl rfl rfl ?_; intro K hK; go_big_quiet_op; go_big_quiet_on
        refine rg_quiet rfl rfl rfl rfl ?_; intro K hK; go_big_quiet_op; go_big_quiet_on
        refine rg_quiet rfl rfl rfl rfl ?_; intro K hK; go_big_quiet_op; go_big_quiet_on
        refine rg_quiet rfl rfl rfl rfl ?_; intro K hK; go_big_quiet_op; go_big_quiet_on
        refine rg_quiet rfl rfl rfl rfl ?_; intro K hK; go_big_quiet_op; go_big_quiet_on
        refine rg_quiet rfl rfl rfl rfl ?_; intro K hK; go_big_quiet_op; go_big_quiet_on
        refine rg_val [] rfl rfl rfl (by kernel_rfl) (fun w1 hE hf => ?_) ?_
        · go_simp
          exact (same8_self ⟨#[120]⟩ 0 rv (.slice (some ⟨b2', 0, none⟩) 1 1) _ _ w1 (hRI3.ext hE) (hRI.ext hE) (by simp only [List.map]; rw [hmir.out]; rfl)).mono fun e w' ⟨he, hw⟩ => ⟨_, he, rg_done hE hw (rfl)⟩
        simp only [Act.put, List.setIfInBounds_toArray, List.set_cons_zero, List.set_cons_succ]
        refine rg_quiet rfl rfl rfl rfl ?_; intro K hK; go_big_quiet_op; go_big_quiet_on
        refine rg_quiet rfl rfl rfl rfl ?_; intro K hK; go_big_quiet_op; go_big_quiet_on
        refine rg_quiet rfl rfl rfl rfl ?_; intro K hK; go_big_quiet_op; go_big_quiet_on
        refine rg_quiet rfl rfl rfl rfl ?_; intro K hK; go_big_quiet_op; go_big_quiet_on
        refine rg_quiet rfl rfl rfl rfl ?_; intro K hK; go_big_quiet_op; go_big_quiet_on
        refine rg_quiet rfl rfl rfl rfl ?_; intro K hK; go_big_quiet_op; go_big_quiet_on
        refine rg_quiet rfl rfl rfl rfl ?_; intro K hK; go_big_quiet_op; go_big_quiet_on
        refine rg_quiet rfl rfl rfl rfl ?_; intro K hK; go_big_quiet_op; go_big_quiet_on
        refine rg_quiet rfl rfl rfl rfl ?_; intro K hK; go_big_quiet_op; go_big_quiet_on
        refine rg_quiet rfl rfl rfl rfl ?_; intro K hK; go_big_quiet_op; go_big_quiet_on
        refine rg_quiet rfl rfl rfl rfl ?_; intro K hK; go_big_quiet_op; go_big_quiet_on
        refine rg_quiet rfl rfl rfl rfl ?_; intro K hK; go_big_quiet_op; go_big_quiet_on
        refine rg_quiet rfl rfl rfl rfl ?_; intro K hK; go_big_quiet_op; go_big_quiet_on
        refine rg_quiet rfl rfl rfl rfl ?_; intro K hK; go_big_quiet_op; go_big_quiet_on
        refine rg_quiet rfl rfl rfl rfl ?_; intro K hK; go_big_quiet_op; go_big_quiet_on
        refine rg_quiet rfl rfl rfl rfl ?_; intro K hK; go_big_quiet_op; go_big_quiet_on
        refine rg_quiet rfl rfl rfl rfl ?_; intro K hK; go_big_quiet_op; go_big_quiet_on
        refine rg_quiet rfl rfl rfl rfl ?_; intro K hK; go_big_quiet_op; go_big_quiet_on
        refine rel_nil fun w5 hE5 _ => ?_
        replace bx := bx.ext hE5
        replace hbox3 := hbox3.ext hE5
        replace hco := hco.ext hE5
        replace hcel := hcel.ext hE5
        replace hX2 := hX2.trans hE5
        clear q0 q1 q2 m0 m1 m2 hE5 hRI3 hRI
        have y1 : ∀ i, w5.cell? ⟨w2.heap.size, i, none⟩ = (pa3 ⟨#[120]⟩ 0 (.slice (some ⟨b2', 0, none⟩) 1 1))[i]? := fun i => bx.cell i
        have y2 : ∀ i, w5.cell? ⟨b2', i, none⟩ = (ro8 ⟨vkey ⟨#[109]⟩ ⟨#[107]⟩, ⟨⟨#[]⟩, false, a, e⟩, max g p, 0, [⟨⟨#[98]⟩, ⟨⟨#[]⟩, true, c, 0⟩⟩]⟩ (.slice (some ⟨bv, ov, none⟩) 1 cv))[i]? := fun i => hbox3.cell i
        go_wp2_with fail
        refine wp_region_in 80 [(2, fun v _ => v = .string (vkey ⟨#[109]⟩ ⟨#[107]⟩)), (77, fun v _ => v = .bool true)] (fun w0 => BoxAt w0 w5.heap.size (ro8 ⟨vkey ⟨#[109]⟩ ⟨#[107]⟩, ⟨⟨#[]⟩, false, a, e⟩, max g p, 0, [⟨⟨#[98]⟩, ⟨⟨#[]⟩, true, c, 0⟩⟩]⟩ (.slice (some ⟨bv, ov, none⟩) 1 cv)) 40 ∧ CoAt w0 bv ov ⟨⟨#[98]⟩, ⟨⟨#[]⟩, true, c, 0⟩⟩ ∧ BoxAt w0 (w1.heap.size + 1 + 1) (cl4 ⟨⟨#[120]⟩, false, a, e⟩) 37 ∧ Ext w w0) (by kernel_rfl) (by kernel_rfl) (by kernel_rfl) ⟨stays_eq _, stays_eq _, trivial⟩ ?_ ?_
        · exact ⟨BoxAt.made _ _ _, hco.ext ((Ext.refl _).alloc _), hcel.ext ((Ext.refl _).alloc _), hX2.alloc _⟩
        clear y1 y2 bx hbox3 hco hcel hX2 F hns2 hmir
        rintro w6 ⟨r0, hco, hcel, hX6⟩
        obtain ⟨x0, x1, x2, x3, x4, x5, x6, x7⟩ := r0.ro
        obtain ⟨g0, g1, g2, g3, g4⟩ := hco
        obtain ⟨e0, e1, e2, e3⟩ := hcel.cl
        clear r0 hcel
        replace x0 := held x0
        replace x1 := held x1
        replace x2 := held x2
        replace x3 := held x3
        replace x4 := held x4
        replace x5 := held x5
        replace x6 := held x6
        replace x7 := held x7
        replace g0 := held g0
        replace g1 := held g1
        replace g2 := held g2
        replace g3 := held g3
        replace g4 := held g4
        replace e3 := held e3
        refine rg_quiet rfl rfl rfl rfl ?_; intro K hK; go_big_quiet_op; go_big_quiet_on
        refine rg_quiet rfl rfl rfl rfl ?_; intro K hK; go_big_quiet_op; go_big_quiet_on
        refine rg_val [] rfl rfl rfl (by kernel_rfl) (fun w1 hE hf => ?_) ?_
        · go_simp
          exact (key_any ⟨#[109]⟩ ⟨#[107]⟩ w1 (by decide) (by decide)).mono fun e w' ⟨he, hw⟩ => ⟨_, he, rg_done hE hw (rfl)⟩
        simp only [Act.put, List.setIfInBounds_toArray, List.set_cons_zero, List.set_cons_succ]
        refine rg_quiet rfl rfl rfl rfl ?_; intro K hK; go_big_quiet_op; go_big_quiet_on
        refine rg_quiet rfl rfl rfl rfl ?_; intro K hK; go_big_quiet_op; go_big_quiet_on
        refine rg_quiet rfl rfl rfl rfl ?_; intro K hK; go_big_quiet_op; go_big_quiet_on
        refine rg_quiet rfl rfl rfl rfl ?_; intro K hK; go_big_quiet_op; go_big_quiet_on
        refine rg_quiet rfl rfl rfl rfl ?_; intro K hK; go_big_quiet_op; go_big_quiet_on
        refine rg_quiet rfl rfl rfl rfl ?_; intro K hK; go_big_quiet_op; go_big_quiet_on
        refine rg_quiet rfl rfl rfl rfl ?_; intro K hK; go_big_quiet_op; go_big_quiet_on
        refine rg_quiet rfl rfl rfl rfl ?_; intro K hK; go_big_quiet_op; go_big_quiet_on
        refine rg_quiet rfl rfl rfl rfl ?_; intro K hK; go_big_quiet_op; go_big_quiet_on
        refine rg_quiet rfl rfl rfl rfl ?_; intro K hK; go_big_quiet_op; go_big_quiet_on
        refine rg_quiet rfl rfl rfl rfl ?_; intro K hK; go_big_quiet_op; go_big_quiet_on
        refine rg_quiet rfl rfl rfl rfl ?_; intro K hK; go_big_quiet_op; go_big_quiet_on
        refine rg_quiet rfl rfl rfl rfl ?_; intro K hK; go_big_quiet_op; go_big_quiet_on
        refine rg_quiet rfl rfl rfl rfl ?_; intro K hK; go_big_quiet_op; go_big_quiet_on
        refine rg_quiet rfl rfl rfl rfl ?_; intro K hK; go_big_quiet_op; go_big_quiet_on
        refine rg_quiet rfl rfl rfl rfl ?_; intro K hK; go_big_quiet_op; go_big_quiet_on
        refine rg_quiet rfl rfl rfl rfl ?_; intro K hK; go_big_quiet_op; go_big_quiet_on
        refine rg_quiet rfl rfl rfl rfl ?_; intro K hK; go_big_quiet_op; go_big_quiet_on
        refine rg_quiet rfl rfl rfl rfl ?_; intro K hK; go_big_quiet_op; go_big_quiet_on
        refine rg_quiet rfl rfl rfl rfl ?_; intro K hK; go_big_quiet_op; go_big_quiet_on
        refine rg_quiet rfl rfl rfl rfl ?_; intro K hK; go_big_quiet_op; go_big_quiet_on
        refine rg_quiet rfl rfl rfl rfl ?_; intro K hK; go_big_quiet_op; go_big_quiet_on
        refine rg_quiet rfl rfl rfl rfl ?_; intro K hK; go_big_quiet_op; go_big_quiet_on
        refine rg_quiet rfl rfl rfl rfl ?_; intro K hK; go_big_quiet_op; go_big_quiet_on
        refine rg_quiet rfl rfl rfl rfl ?_; intro K hK; go_big_quiet_op; go_big_quiet_on
        refine rg_quiet rfl rfl rfl rfl ?_; intro K hK; go_big_quiet_op; go_big_quiet_on
        refine rg_quiet rfl rfl rfl rfl ?_; intro K hK; go_big_quiet_op; go_big_quiet_on
        refine rg_quiet rfl rfl rfl rfl ?_; intro K hK; go_big_quiet_op; go_big_quiet_on
        refine rg_quiet rfl rfl rfl rfl ?_; intro K hK; go_big_quiet_op; go_big_quiet_on
        refine rg_quiet rfl rfl rfl rfl ?_; intro K hK; go_big_quiet_op; go_big_quiet_on
        refine rg_quiet rfl rfl rfl rfl ?_; intro K hK; go_big_quiet_op; go_big_quiet_on
        refine rg_quiet rfl rfl rfl rfl ?_; intro K hK; go_big_quiet_op; go_big_quiet_on
        refine rg_quiet rfl rfl rfl rfl ?_; intro K hK; go_big_quiet_op; go_big_quiet_on
        refine rg_quiet rfl rfl rfl rfl ?_; intro K hK; go_big_quiet_op; go_big_quiet_on
        refine rg_quiet rfl rfl rfl rfl ?_; intro K hK; go_big_quiet_op; go_big_quiet_on
        refine rg_quiet rfl rfl rfl rfl ?_; intro K hK; go_big_quiet_op; go_big_quiet_on
        refine rg_quiet rfl rfl rfl rfl ?_; intro K hK; go_big_quiet_op; go_big_quiet_on
        refine rg_quiet rfl rfl rfl rfl ?_; intro K hK; go_big_quiet_op; go_big_quiet_on
        refine rg_quiet rfl rfl rfl rfl ?_; intro K hK; go_big_quiet_op; go_big_quiet_on
        refine rg_quiet rfl rfl rfl rfl ?_; intro K hK; go_big_quiet_op; go_big_quiet_on
        refine rg_quiet rfl rfl rfl rfl ?_; intro K hK; go_big_quiet_op; go_big_quiet_on
        refine rg_quiet rfl rfl rfl rfl ?_; intro K hK; go_big_quiet_op; go_big_quiet_on
        refine rg_quiet rfl rfl rfl rfl ?_; intro K hK; go_big_quiet_op; go_big_quiet_on
        refine rg_quiet rfl rfl rfl rfl ?_; intro K hK; go_big_quiet_op; go_big_quiet_on
        refine rg_quiet rfl rfl rfl rfl ?_; intro K hK; go_big_quiet_op; go_big_quiet_on
        refine rg_quiet rfl rfl rfl rfl ?_; intro K hK; go_big_quiet_op; go_big_quiet_on
        refine rg_quiet rfl rfl rfl rfl ?_; intro K hK; go_big_quiet_op; go_big_quiet_on
        refine rg_quiet rfl rfl rfl rfl ?_; intro K hK; go_big_quiet_op; go_big_quiet_on
        refine rg_quiet rfl rfl rfl rfl ?_; intro K hK; go_big_quiet_op; go_big_quiet_on
        refine rg_quiet rfl rfl rfl rfl ?_; intro K hK; go_big_quiet_op; go_big_quiet_on
        refine rg_quiet rfl rfl rfl rfl ?_; intro K hK; go_big_quiet_op; go_big_quiet_on
        refine rg_quiet rfl rfl rfl rfl ?_; intro K hK; go_big_quiet_op; go_big_quiet_on
        refine rg_quiet rfl rfl rfl rfl ?_; intro K hK; go_big_quiet_op; go_big_quiet_on
        refine rg_quiet rfl rfl rfl rfl ?_; intro K hK; go_big_quiet_op; go_big_quiet_on
        refine rg_quiet rfl rfl rfl rfl ?_; intro K hK; go_big_quiet_op; go_big_quiet_on
        refine rg_quiet rfl rfl rfl rfl ?_; intro K hK; go_big_quiet_op; go_big_quiet_on
        refine rg_quiet rfl rfl rfl rfl ?_; intro K hK; go_big_quiet_op; go_big_quiet_on
        refine rg_quiet rfl rfl rfl rfl ?_; intro K hK; go_big_quiet_op; go_big_quiet_on
        refine rg_quiet rfl rfl rfl rfl ?_; intro K hK; go_big_quiet_op; go_big_quiet_on
        refine rg_quiet rfl rfl rfl rfl ?_; intro K hK; go_big_quiet_op; go_big_quiet_on
        refine rg_quiet rfl rfl rfl rfl ?_; intro K hK; go_big_quiet_op; go_big_quiet_on
        refine rg_quiet rfl rfl rfl rfl ?_; intro K hK; go_big_quiet_op; go_big_quiet_on
        refine rg_quiet rfl rfl rfl rfl ?_; intro K hK; go_big_quiet_op; go_big_quiet_on
        refine rg_quiet rfl rfl rfl rfl ?_; intro K hK; go_big_quiet_op; go_big_quiet_on
        refine rg_quiet rfl rfl rfl rfl ?_; intro K hK; go_big_quiet_op; go_big_quiet_on
        refine rg_quiet rfl rfl rfl rfl ?_; intro K hK; go_big_quiet_op; go_big_quiet_on
        refine rg_quiet rfl rfl rfl rfl ?_; intro K hK; go_big_quiet_op; go_big_quiet_on
        refine rg_quiet rfl rfl rfl rfl ?_; intro K hK; go_big_quiet_op; go_big_quiet_on
        refine rg_quiet rfl rfl rfl rfl ?_; intro K hK; go_big_quiet_op; go_big_quiet_on
        refine rg_quiet rfl rfl rfl rfl ?_; intro K hK; go_big_quiet_op; go_big_quiet_on
        refine rg_quiet rfl rfl rfl rfl ?_; intro K hK; go_big_quiet_op; go_big_quiet_on
        refine rg_quiet rfl rfl rfl rfl ?_; intro K hK; go_big_quiet_op; go_big_quiet_on
        refine rg_quiet rfl rfl rfl rfl ?_; intro K hK; go_big_quiet_op; go_big_quiet_on
        refine rg_quiet rfl rfl rfl rfl ?_; intro K hK; go_big_quiet_op; go_big_quiet_on
        refine rg_val [] rfl rfl rfl (by kernel_rfl) (fun w1 hE hf => ?_) ?_
        · go_simp
          exact (pawake_any w1).mono fun e w' ⟨he, hw⟩ => ⟨_, he, rg_done hE hw (rfl)⟩
        simp only [Act.put, List.setIfInBounds_toArray, List.set_cons_zero, List.set_cons_succ]
        refine rg_quiet rfl rfl rfl rfl ?_; intro K hK; go_big_quiet_op; go_big_quiet_on
        refine rg_quiet rfl rfl rfl rfl ?_; intro K hK; go_big_quiet_op; go_big_quiet_on
        refine rel_nil fun w7 hE7 _ => ?_
        clear x0 x1 x2 x3 x4 x5 x6 x7 g0 g1 g2 g3 g4 e0 e1 e2 e3
        go_wp2_with fail
        go_ret
        exact ⟨rfl, hX6.trans hE7⟩
  · have hkl : (vkey ⟨#[109]⟩ ⟨#[107]⟩).size ≤ 400 := by rw [vkey_size]; decide
    have HKL := Lib.hid hkl
    clear hkl
    go_enter Try.func6, Try.ntmps6
    go_wp2_with fail
    refine (view_any _).mono ?_
    rintro _ w1 ⟨bs, bu, rfl, hns, hE1⟩
    go_wp2_with fail
    refine (place_any _ _ (by omega) (by omega) _).mono ?_
    rw [← Ha.out]
    rintro _ w2 ⟨rfl, rfl⟩
    go_wp2_with fail
    refine (place_any _ _ (by omega) (by omega) _).mono ?_
    rw [← Hg.out]
    rintro _ w2 ⟨rfl, rfl⟩
    go_wp2_with fail
    refine (place_any _ _ (by omega) (by omega) _).mono ?_
    rw [← Hp.out]
    rintro _ w2 ⟨rfl, rfl⟩
    go_wp2_with fail
    refine (place_any _ _ (by omega) (by omega) _).mono ?_
    rw [← Hc.out]
    rintro _ w2 ⟨rfl, rfl⟩
    go_wp2_with fail
    refine (place_any _ _ (by omega) (by omega) _).mono ?_
    rw [← He.out]
    rintro _ w2 ⟨rfl, rfl⟩
    clear Ha Hg Hp Hc He wa wc
    go_wp2_with fail
    refine (mirror_none (.slice (some ⟨bs, 0, none⟩) 4 4) wnV (.slice (some ⟨bu, 0, none⟩) 2 2) ⟨#[109]⟩ p _ (wnR ⟨⟨#[]⟩, true, a, 0⟩ g c) _ _ (wn_world w1 bs bu ⟨⟨#[]⟩, true, a, 0⟩ g c p).cols (by rw [wn_cell]; exact wn_dead a _ p) (by decide) (by show (⟨#[107]⟩ : ByteArray).size ≤ 10000000; decide)).mono ?_
    rintro _ w2 ⟨rfl, hE2⟩
    have F := (wn_world w1 bs bu ⟨⟨#[]⟩, true, a, 0⟩ g c p).on' hE2
    have hns2 := hns.ext F.ext
    have hX2 := hE1.trans F.ext
    have y0 := F.tab.allocs
    have y1 := F.view.allocs
    have y6 := F.part.allocs
    simp only [wnT] at y0
    simp only [wnV] at y1
    clear hE2 hns hE1
    go_wp2_with fail
    refine (full_one (.slice (some ⟨bs, 0, none⟩) 4 4) wnV (.slice (some ⟨bu, 0, none⟩) 2 2) wnN ⟨#[109]⟩ p _ (wnR ⟨⟨#[]⟩, true, a, 0⟩ g c) _ _ (F.rows.ext ((Ext.refl _).alloc _)) (by simp [wnR]) (hns2.ext ((Ext.refl _).alloc _)) (by decide) (by show (⟨#[107]⟩ : ByteArray).size ≤ 10000000; decide) HKL.out).mono ?_
    rintro _ w3 ⟨hE3, hF⟩
    rcases hF with ⟨_, rfl⟩ | ⟨h1, _⟩
    · replace hX2 := (hX2.alloc _).trans hE3
      have bx := (BoxAt.made w2 (pa3 ⟨#[]⟩ 0 (.slice none 0 0)) 32).ext hE3
      have y9 : ∀ i, w3.cell? ⟨w2.heap.size, i, none⟩ = (pa3 ⟨#[]⟩ 0 (.slice none 0 0))[i]? := fun i => bx.cell i
      go_wp2_with fail
      refine (pawake_any _).mono ?_
      rintro _ w4 ⟨rfl, hE4⟩
      go_wp2
      go_ret
      exact ⟨rfl, hX2.trans hE4⟩
    · rw [wn_cell, wn_dead] at h1
      cases h1

theorem walk_projectWinners (a0 a1 a2 : Int) (a3 : Bool) (a4 a5 : Int) (_ : (Lit.int .i64 a0).wf = true) (_ : (Lit.int .i64 a1).wf = true) (_ : (Lit.int .i64 a2).wf = true) (_ : (Lit.int .i64 a4).wf = true) (_ : (Lit.int .i64 a5).wf = true) (w : World) :
    Calls Try.prog 6 #[.int .i64 a0, .int .i64 a1, .int .i64 a2, .bool a3, .int .i64 a4, .int .i64 a5] w fun e w' => e = .returned (.bool true) ∧ Ext w w' := law_winners a0 a1 a2 a3 a4 a5 w
end Go.Proofs.Ytobanilgofhgkaa
