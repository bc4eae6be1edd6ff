/- Made, Several: partitions by numbers. -/
import Derived.Test.YtkiodandnjbhoaaDoorLPart
namespace Go.Proofs.YtkiodandnjbhoaaDoor
open Go Go.RowKit
attribute [local go_sem] yields yUpon ro8 pa3

/-- A partition by numbers, of a key. -/
structure GenPa (key : ByteArray) (p : Pa) : Prop where
  key : p.key = key
  gone : 0 ≤ p.gone ∧ p.gone ≤ 7
  rows : GenRows 4 (p.ps.map (·.1))

set_option maxRecDepth 100000 in
set_option maxHeartbeats 4000000 in
theorem several_any (v : Value) (l : List Int) (many : Nat) (hm : many ≤ 1000) (key : ByteArray) (w : World) (hin : IntsIn w v .i64 l) :
    Calls Tryd.prog 36 #[v, .int .i64 (many : Int), .string key] w fun e w' => ∃ (v' : Value) (L : List Pa), e = .returned v' ∧ L.length = many ∧ PartsT w' v' L ∧ (∀ p ∈ L, GenPa key p) ∧ Ext w w' := by
  have a0 := BoxAt.made w #[v] 62
  have hE0 := (Ext.refl w).alloc (.cells #[v] 62)
  obtain ⟨av, cv, rfl, _⟩ := hin.block
  go_enter Tryd.func36, Tryd.ntmps36
  go_wp2_with fail
  go_loopw [8, 9] (fun m i wr => ∃ (k : Nat) (vo : Value) (L : List Pa), k ≤ many ∧ i = .int .i64 k ∧ m = vo ∧ L.length = k ∧ wr.ownsRow (w.heap.size + 1) 35 3 vo L.length (paCells L) ∧ (∀ p ∈ L, RowsT wr p.rv p.ps) ∧ (∀ p ∈ L, GenPa key p) ∧ LeftIn w wr w.heap.size ∧ w.heap.size < wr.heap.size ∧ Ext w wr) (fun _ i _ => many - (intOf i).toNat)
  case atStart => exact ⟨0, _, [], Nat.zero_le _, rfl, rfl, rfl, World.ownsRow_nil _ _ _ _, nofun, nofun, ⟨_, l, a0, hin⟩, a0.lt, hE0⟩
  case round =>
    obtain ⟨k, vo, L, hk, rfl, rfl, hLk, hown, hrows, hgen, hleft, hlt0, hE⟩ := hrel
    clear a0 hE0
    subst hLk
    obtain ⟨ao, co, rfl⟩ := own_shape hown
    by_cases hlt : L.length < many
    · have t1 : decide ((L.length : Int) < (many : Int)) = true := by simp; omega
      go_wp2_with fail
      refine (lpart_any w w.heap.size (Nat.le_refl _) key wr hE hleft).mono ?_
      rintro e w1 ⟨g, v1, qs, rfl, hg8, hgr, hq, hg, hleft1⟩
      obtain ⟨v0, hb0⟩ := hleft.box
      have hrows1 : ∀ p ∈ L, RowsT w1 p.rv p.ps := fun p hp => (hrows p hp).keep hg hb0 (by decide) (by decide)
      have hown1 : w1.ownsRow (w.heap.size + 1) 35 3 (.slice ao L.length co) L.length (paCells L) := hown.kept hg (own_ne_box hown hb0 (by decide))
      have hX1 : Ext w w1 := hE.grown hg (fun q hq => by cases hq; omega)
      have hsz1 : w.heap.size + 1 ≤ w1.heap.size := by have := hg.size; omega
      obtain ⟨aq, cq, rfl⟩ := hq.shape
      obtain ⟨nq, hnq⟩ : ∃ nq, nq = qs.length := ⟨_, rfl⟩
      rw [← hnq] at hq ⊢
      clear hnq hown hrows hleft hb0 hg
      go_wp2_with (at_builtin; go_must (refine appR info_Part und_Parts rfl (by decide) w1 rfl (.tmp 18) (.tmp 22) rfl (w.heap.size + 1) hsz1 (.slice ao L.length co) L.length (paCells L) hown1 rfl 1 (pa3 key g (.slice aq nq cq)) rfl rfl (by simp [pa3, Value.oneCell']) (by unfold maxLen; omega) (by omega) ?_); intro v20 w20 hown20 hg20)
      go_roundw
      case rel =>
        have hXa := (Ext.refl w1).alloc (.cells (pa3 key g (.slice aq nq cq)) 35)
        have howna := ownsRow_ext hown1 hXa
        have hkr : ∀ {rv ps}, RowsT w1 rv ps → RowsT w20 rv ps := fun h => (h.ext hXa).keepOwn howna hg20 (by decide) (by decide)
        refine ⟨L.length + 1, _, L ++ [⟨key, g, .slice aq nq cq, qs⟩], by omega, by go_num, rfl, by simp, ?_, fun p hp => ?_, fun p hp => ?_, ?_, ?_, ?_⟩
        · rw [paCells_append, List.length_append]
          exact hown20
        · rcases List.mem_append.1 hp with hp | hp
          · exact hkr (hrows1 p hp)
          · rw [List.mem_singleton.1 hp]
            exact hkr hq
        · rcases List.mem_append.1 hp with hp | hp
          · exact hgen p hp
          · rw [List.mem_singleton.1 hp]
            exact ⟨rfl, hg8, hgr⟩
        · obtain ⟨vl, ll, hv, hli⟩ := hleft1.ext hXa
          exact ⟨vl, ll, hv.grown hg20 (fun e => by have := (howna.lt _ e.symm).1; omega), hli⟩
        · have := hg20.size
          have := hXa.le
          omega
        · exact (hX1.trans hXa).grown hg20 (fun q hq => by have := (howna.lt _ hq).1; omega)
      case measure => simp [intOf]; omega
    · go_wp2_with fail
      have hkm : L.length = many := by omega
      go_ret
      exact ⟨_, L, rfl, hkm, ⟨TIn.own hown, hrows⟩, hgen, hE⟩
end Go.Proofs.YtkiodandnjbhoaaDoor
