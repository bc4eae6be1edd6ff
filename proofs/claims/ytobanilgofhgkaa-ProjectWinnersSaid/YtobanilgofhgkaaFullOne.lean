/- project.Full of a partition with one row. -/
import Derived.Test.YtobanilgofhgkaaMirror
import Derived.Test.YtobanilgofhgkaaRowsMem
namespace Go.Proofs.Ytobanilgofhgkaa
open Go Go.RowKit
attribute [local go_sem] yields yUpon ro8 pa3 vw5 cl4 tabV

theorem info_Part : (Try.prog.info? 32).map (fun i => (i.zero, i.size, i.bytes)) = some (some (.agg #[.string ⟨#[]⟩, .int .i64 0, .slice none 0 0]), 3, 48) := by kernel_rfl
theorem und_Parts : Try.prog.underlying 57 = some (.slice 32) := by kernel_rfl
/-- A row's mirror, as plain data. -/
def mirR (x : Vw) (ns : List ByteArray) (pk : ByteArray) (pg : Int) (r : Ro) : Ro := ⟨vkey pk r.key, ⟨⟨#[]⟩, false, (cellOf r.cols x.on).at_, (cellOf r.cols x.on).fin⟩, max r.gone pg, 0, r.cols.filter (keeps ns)⟩

/-- What the mirrors of one row are, in memory. -/
def FullR (x : Vw) (ns : List ByteArray) (pk : ByteArray) (pg : Int) (r : Ro) (m : Value) (w : World) : Prop :=
  (bestB (cellOf r.cols x.on) (max r.gone pg) = false ∧ m = .slice none 0 0) ∨
  (bestB (cellOf r.cols x.on) (max r.gone pg) = true ∧ ∃ (g cap : Nat) (rv : Value) (v' : Value), m = .slice (some ⟨g, 0, none⟩) 1 cap ∧ 1 ≤ cap ∧ cap ≤ 9223372036854775807 ∧ w.cell? ⟨g, 0, none⟩ = some (.string (cellOf r.cols x.on).val) ∧ w.cell? ⟨g, 1, none⟩ = some (.int .i64 0) ∧ w.cell? ⟨g, 2, none⟩ = some rv ∧ RowsIn w rv [(mirR x ns pk pg r, v')])
set_option maxRecDepth 100000 in
set_option maxHeartbeats 8000000 in
theorem full_one (s : Value) (x : Vw) (u : Value) (ns : List ByteArray) (pk : ByteArray) (pg : Int) (pu : Value) (r : Ro) (v : Value) (w : World) (hrows : RowsIn w pu [(r, v)]) (hlc : r.cols.length ≤ 1000000) (hns : StrsIn w u ns)
    (hk : pk.size ≤ 10000000) (hr : r.key.size ≤ 10000000) (hkl : (vkey pk r.key).size ≤ 400) :
    Calls Try.prog 24 #[.agg #[.string ⟨#[116]⟩, .int .i64 1, .string ⟨#[112]⟩, .int .i64 1, .string ⟨#[107]⟩, .int .i64 2, s], .agg #[.string x.name, .int .i64 x.id, .string x.table, .string x.on, u], .agg #[.string pk, .int .i64 pg, pu]] w fun e w' => Ext w w' ∧
      ((bestB (cellOf r.cols x.on) (max r.gone pg) = false ∧ e = .returned (.slice none 0 0)) ∨
       (bestB (cellOf r.cols x.on) (max r.gone pg) = true ∧ ∃ (g cap : Nat) (rv : Value) (v' : Value), e = .returned (.slice (some ⟨g, 0, none⟩) 1 cap) ∧ 1 ≤ cap ∧ cap ≤ 9223372036854775807 ∧ w'.cell? ⟨g, 0, none⟩ = some (.string (cellOf r.cols x.on).val) ∧ w'.cell? ⟨g, 1, none⟩ = some (.int .i64 0) ∧ w'.cell? ⟨g, 2, none⟩ = some rv ∧ RowsIn w' rv [(mirR x ns pk pg r, v')])) := by
  obtain ⟨a, c, rfl, hc, hcm, hcell⟩ := hrows.get
  obtain ⟨b, o, rfl, hco⟩ := hcell 0 (by simp)
  have hcv : ColsIn w v r.cols := hrows.cols (r, v) (by simp)
  obtain ⟨av, cv, rfl, _, _, _⟩ := hcv.get
  simp only [List.length_singleton, List.getElem_cons_zero, Nat.zero_mul, Nat.add_zero] at hco hc ⊢
  clear hcell hrows
  obtain ⟨a0, a1, a2, hE⟩ := boxes3 w #[.string ⟨#[116]⟩, .int .i64 1, .string ⟨#[112]⟩, .int .i64 1, .string ⟨#[107]⟩, .int .i64 2, s] (vw5 x u) (pa3 pk pg (.slice (some ⟨b, o, none⟩) 1 c)) 48 51 32
  obtain ⟨g0, g1, g2, g3, g4, g5, g6, g7⟩ := hco.ext hE
  replace hcv := hcv.ext hE
  replace hns := hns.ext hE
  clear hco
  obtain ⟨W, hW⟩ : ∃ W, W = (((w.alloc (.cells #[.string ⟨#[116]⟩, .int .i64 1, .string ⟨#[112]⟩, .int .i64 1, .string ⟨#[107]⟩, .int .i64 2, s] 48)).alloc (.cells (vw5 x u) 51)).alloc (.cells (pa3 pk pg (.slice (some ⟨b, o, none⟩) 1 c)) 32)) := ⟨_, rfl⟩
  rw [← hW] at g0 g1 g2 g3 g4 g5 g6 g7 hcv hns hE a0 a1 a2
  go_enter Try.func24, Try.ntmps24
  go_wp2
  go_loopw [7, 15] (fun m i wr => ∃ k : Nat, k ≤ 1 ∧ i = .int .i64 k ∧ BoxAt wr w.heap.size #[.string ⟨#[116]⟩, .int .i64 1, .string ⟨#[112]⟩, .int .i64 1, .string ⟨#[107]⟩, .int .i64 2, s] 48 ∧ BoxAt wr (w.heap.size + 1) (vw5 x u) 51 ∧ BoxAt wr (w.heap.size + 1 + 1) (pa3 pk pg (.slice (some ⟨b, o, none⟩) 1 c)) 32 ∧ Ext W wr ∧ ((k = 0 ∧ m = .slice none 0 0) ∨ (k = 1 ∧ FullR x ns pk pg r m wr))) (fun _ i _ => 1 - (intOf i).toNat)
  case atStart => exact ⟨0, Nat.zero_le _, rfl, hW ▸ a0, hW ▸ a1, hW ▸ a2, hW ▸ Ext.refl _, .inl ⟨rfl, rfl⟩⟩
  case round =>
    obtain ⟨k, hk1, rfl, b0, b1, b2, hEr, hst⟩ := hrel
    rcases hst with ⟨rfl, rfl⟩ | ⟨rfl, hF⟩
    · have hr0 := hcv.ext hEr
      have hn0 := hns.ext hEr
      replace g0 := hEr.cell g0
      replace g1 := hEr.cell g1
      replace g2 := hEr.cell g2
      replace g3 := hEr.cell g3
      replace g4 := hEr.cell g4
      replace g5 := hEr.cell g5
      replace g6 := hEr.cell g6
      replace g7 := hEr.cell g7
      have y0 := b0.allocs
      have y1 := b1.allocs
      have y2 := b2.allocs
      go_wp2_with fail
      cases hb : bestB (cellOf r.cols x.on) (max r.gone pg)
      · refine (mirror_none s x u pk pg (.slice (some ⟨b, o, none⟩) 1 c) r _ _ (hr0.ext ((Ext.refl _).alloc _)) hb hk hr).mono ?_
        rintro e w1 ⟨rfl, hE1⟩
        have HB := Lib.hid hb
        replace hE1 := ((Ext.refl wr).alloc (.cells (ro8 r (.slice av r.cols.length cv)) 40)).trans hE1
        clear hb g0 g1 g2 g3 g4 g5 g6 g7 y0 y1 y2 hr0 hn0
        go_wp2_with fail
        go_roundw
        case rel => exact ⟨1, Nat.le_refl 1, rfl, (b0.ext hE1).ext ((Ext.refl _).alloc _), (b1.ext hE1).ext ((Ext.refl _).alloc _), (b2.ext hE1).ext ((Ext.refl _).alloc _), (hEr.trans hE1).alloc _, .inr ⟨rfl, .inl ⟨HB.out, rfl⟩⟩⟩
        case measure => simp [intOf]
      · refine (mirror_some s x u ns pk pg (.slice (some ⟨b, o, none⟩) 1 c) r _ _ (hr0.ext ((Ext.refl _).alloc _)) hlc (hn0.ext ((Ext.refl _).alloc _)) hb hk hr hkl).mono ?_
        rintro e w1 ⟨bm, v', rfl, hbs, hbox, hown, hE1⟩
        have HB := Lib.hid hb
        have hRI := rows_one hbox (cols_own hown)
        replace hE1 := ((Ext.refl wr).alloc (.cells (ro8 r (.slice av r.cols.length cv)) 40)).trans hE1
        clear hb g0 g1 g2 g3 g4 g5 g6 g7 y0 y1 y2 hr0 hn0 hbox hown
        go_wp2_with (at_builtin; go_must (refine appR info_Part und_Parts rfl (by decide) (w1.alloc (.cells (pa3 (cellOf r.cols x.on).val 0 (.slice (some ⟨bm, 0, none⟩) 1 1)) 32)) rfl (.tmp 28) (.tmp 30) rfl 0 (Nat.zero_le _) _ 0 [] (World.ownsRow_nil _ _ _ _) (by rfl) 1 _ (by rw [Deep.nblk_alloc]; rfl) (by rfl) (by simp [Value.oneCell']) (by unfold maxLen; decide) (by decide) ?_); intro m3 w3 hown3 hg3)
        have hX3 : Ext w1 w3 := (((Ext.refl w1).alloc _).alloc _).grown hg3 (fun q hq => by cases hq)
        obtain ⟨gg, cap, rfl, hc1, hc2, hcells⟩ : ∃ gg cap, m3 = .slice (some ⟨gg, 0, none⟩) 1 cap ∧ 1 ≤ cap ∧ cap ≤ 9223372036854775807 ∧ ∀ j u, [Value.string (cellOf r.cols x.on).val, .int .i64 0, .slice (some ⟨bm, 0, none⟩) 1 1][j]? = some u → w3.cell? ⟨gg, j, none⟩ = some u := by
          rcases hown3.2 with ⟨_, h0⟩ | ⟨g, cap, cur, h', hb', hg', hnc, hcm', hcs, htake⟩
          · cases h0
          · unfold maxLen at hcm'
            refine ⟨g, cap, h', hnc, by omega, fun j u hj => ?_⟩
            have := hown3.cells (g := g) (by rw [h']; rfl) j u hj
            rwa [Addr.add_lit, Nat.zero_add] at this
        clear hown3 hg3
        go_roundw
        case rel => exact ⟨1, Nat.le_refl 1, rfl, (b0.ext hE1).ext hX3, (b1.ext hE1).ext hX3, (b2.ext hE1).ext hX3, (hEr.trans hE1).trans hX3, .inr ⟨rfl, .inr ⟨HB.out, gg, cap, _, v', rfl, hc1, hc2, hcells 0 _ rfl, hcells 1 _ rfl, hcells 2 _ rfl, hRI.ext hX3⟩⟩⟩
        case measure => simp [intOf]
    · go_wp2_with fail
      go_ret
      refine ⟨hE.trans hEr, ?_⟩
      rcases hF with ⟨h1, rfl⟩ | ⟨h1, g, cap, rv, v', rfl, h2⟩
      · exact .inl ⟨h1, rfl⟩
      · exact .inr ⟨h1, g, cap, rv, v', rfl, h2⟩
end Go.Proofs.Ytobanilgofhgkaa
