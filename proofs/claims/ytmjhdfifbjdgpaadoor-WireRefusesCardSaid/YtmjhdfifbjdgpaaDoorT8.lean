/- WireRefuses: the law's walk. -/
import Derived.Test.YtmjhdfifbjdgpaaDoorT6
import Derived.Test.YtmjhdfifbjdgpaaDoorT7
import Derived.Deep.CutBlock
import Derived.Deep.CutRange
set_option linter.unusedSimpArgs false
set_option linter.unusedVariables false
namespace Go.Proofs.YtmjhdfifbjdgpaaDoor
open Go Go.RowKit
attribute [local go_sem] yields yUpon

def ms0 : Ms := ⟨2, 0, 0, 0, [], [], 0⟩
theorem ms0_bytes : bytesW ms0 = [1, 2, 0, 0, 0, 0, 0, 0] := by decide
theorem headB_ms0 : headB ms0 := by unfold headB ms0; simp
set_option maxHeartbeats 2000000 in
theorem awake21_any (w : World) (hT : TabU w) : Calls Tryd.prog 31 #[] w fun e w' => e = .returned (.bool true) ∧ Ext w w' := by
  go_enter Tryd.func31, Tryd.ntmps31
  go_wp2_with (go_at_call 29; go_must (refine (wput_ok ms0 (.slice none 0 0) (.slice none 0 0) _ hT (SliceIn.nil _) (SliceIn.nil _) (by simp [ms0]) (by simp [ms0]) headB_ms0 rfl rfl (by rw [ms0_bytes]; decide)).mono ?_); rintro e w1 ⟨rfl, hE1⟩; rw [ms0_bytes])
  go_ret
  exact ⟨rfl, hE1⟩

def msb : Ms := ⟨3, 1, 2, 5, [], [⟨#[116, 95, 49]⟩, ⟨#[109]⟩], 0⟩
theorem msb_bytes : (bytesW msb).length = 20 := by decide
theorem headB_msb : headB msb := by unfold headB msb; simp
theorem tx_two {w : World} {b : Nat} {s t : ByteArray} {e : TypeId} (h : BoxAt w b #[.string s, .string t] e) : TxIn w (.slice (some ⟨b, 0, none⟩) 2 2) [s, t] :=
  ⟨_, _, rfl, Nat.le_refl _, by unfold maxLen; simp, nofun, fun j u hj => ⟨b, 0, rfl, by rw [Nat.zero_add, h.cell j]; simpa using hj⟩⟩
theorem tx_one {w : World} {b : Nat} {s : ByteArray} {e : TypeId} (h : BoxAt w b #[.string s] e) : TxIn w (.slice (some ⟨b, 0, none⟩) 1 1) [s] :=
  ⟨_, _, rfl, Nat.le_refl _, by unfold maxLen; simp, nofun, fun j u hj => ⟨b, 0, rfl, by rw [Nat.zero_add, h.cell j]; simpa using hj⟩⟩
/-- A message in memory that is refused; why. -/
structure BadW (w wc : World) (q : Nat) (want : Value) : Prop where
  ext : Ext w wc
  some_ : ∃ (m : Ms) (vm vk : Value), BoxAt wc q (ms7 m vm vk) 66 ∧ MusIn wc vm m.muts ∧ TxIn wc vk m.keys ∧
    ((want = .int .i64 1 ∧ ∀ w', Ext wc w' → Calls Tryd.prog 30 #[.agg (ms7 m vm vk)] w' fun e w'' => e = .returned (.bool false) ∧ Ext w' w'') ∨
     (want = .int .i64 2 ∧ (∀ w', Ext wc w' → Calls Tryd.prog 30 #[.agg (ms7 m vm vk)] w' fun e w'' => e = .returned (.bool true) ∧ Ext w' w'') ∧
       ∀ w', Ext wc w' → Calls Tryd.prog 29 #[.agg (ms7 m vm vk)] w' fun e w'' => e = .returned (.tuple #[.string ⟨#[]⟩, .int .i64 2]) ∧ Ext w' w''))

theorem badw_no {w wc : World} {q : Nat} {m : Ms} {vm vk : Value} (hE : Ext w wc) (hb : BoxAt wc q (ms7 m vm vk) 66) (hM : MusIn wc vm m.muts) (hK : TxIn wc vk m.keys)
    (hh : 8 < m.kind ∨ ((1 ≤ m.kind ∧ m.kind ≤ 8) ∧ m.from_ < 0) ∨ ((1 ≤ m.kind ∧ m.kind ≤ 8) ∧ (0 ≤ m.from_ ∧ m.from_ ≤ 4) ∧ 4 < m.to_) ∨ ((1 ≤ m.kind ∧ m.kind ≤ 8) ∧ (0 ≤ m.from_ ∧ m.from_ ≤ 4) ∧ (0 ≤ m.to_ ∧ m.to_ ≤ 4) ∧ 1099511627776 < m.id) ∨ ((1 ≤ m.kind ∧ m.kind ≤ 8) ∧ (0 ≤ m.from_ ∧ m.from_ ≤ 4) ∧ (0 ≤ m.to_ ∧ m.to_ ≤ 4) ∧ (0 ≤ m.id ∧ m.id ≤ 1099511627776) ∧ (0 ≤ m.num ∧ m.num ≤ 1099511627776) ∧ m.muts.length ≤ 100 ∧ 40 < m.keys.length)) : BadW w wc q (.int .i64 1) :=
  ⟨hE, m, vm, vk, hb, hM, hK, .inl ⟨rfl, fun w' hE' => wcheck_no m vm vk w' (hM.ext hE') (hK.ext hE') hh⟩⟩
theorem badw_any {w wc : World} {q : Nat} {m : Ms} {vm vk : Value} (hT : TabU w) (hE : Ext w wc) (hb : BoxAt wc q (ms7 m vm vk) 66) (hM : MusIn wc vm m.muts) (hK : TxIn wc vk m.keys) (hMb : ∀ x ∈ m.muts, x.table.size ≤ 100 ∧ x.key.size ≤ 100 ∧ x.gone ≤ 1099511627776) (hKb : ∀ s ∈ m.keys, s.size ≤ 1000000) (hh : headB m) (hbad : (!m.keys.any longB && !m.muts.any badM) = false) : BadW w wc q (.int .i64 1) :=
  ⟨hE, m, vm, vk, hb, hM, hK, .inl ⟨rfl, fun w' hE' => by
    have h := wcheck_head m vm vk w' ((hT.ext hE).ext hE') (hM.ext hE') (hK.ext hE') hMb hKb hh
    rw [hbad] at h
    exact h⟩⟩

/-- Appends of one text, again and again, to a row of one's own that a field of a message holds. -/
def pKey (k : Nat) (X N : List Value) (j : Nat) : Option (Nat × List Value × List Value) := if j = 5 then some (k, X, N) else none
theorem pKey_none {k : Nat} {X N : List Value} {j : Nat} (h : j ≠ 5) : pKey k X N j = none := by unfold pKey; rw [if_neg h]
theorem pKey_some {k k' : Nat} {X N X' N' : List Value} {j : Nat} (h : pKey k X N j = some (k', X', N')) : j = 5 ∧ k' = k ∧ X' = X ∧ N' = N := by
  unfold pKey at h
  split at h
  · cases h; exact ⟨by assumption, rfl, rfl, rfl⟩
  · cases h
structure KeyC (w7 : World) (q S : Nat) (cs : Array Value) (v : Value) (k : Nat) (X : List Value) (x : World) : Prop where
  box : BoxAt x q cs 66
  own : x.ownsRow S 9 1 v k X
  touch : Touch9 w7 x q
theorem KeyC.grow {w7 : World} {q S : Nat} {cs : Array Value} {v : Value} {k : Nat} {X : List Value} {x y : World} (h : KeyC w7 q S cs v k X x) (hE : Ext x y) : KeyC w7 q S cs v k X y := ⟨h.box.ext hE, ownsRow_ext h.own hE, h.touch.more hE⟩
theorem KeyC.app {w7 : World} {q S : Nat} {cs : Array Value} {v : Value} {k : Nat} {X N : List Value} {x y : World} (hS : w7.heap.size ≤ S) (h : KeyC w7 q S cs v k X x) (hA : AppE 9 1 S k X N x y) : KeyC w7 q S cs v k X y := by
  refine ⟨hA.box h.box (fun e => absurd e (by decide)), hA.keep_short h.own (Nat.le_refl _), ?_⟩
  obtain ⟨vo, ho, hg, _⟩ := hA
  exact h.touch.grown hg (fun b hb => Nat.le_trans hS (ho.lt b hb).1)
theorem AppE.keepOther {T U : TypeId} {size S k : Nat} {X N : List Value} {x y : World} (h : AppE T size S k X N x y) (hne : U ≠ T) {S' size' : Nat} {v : Value} {m : Nat} {Y : List Value} (ho : x.ownsRow S' U size' v m Y) : y.ownsRow S' U size' v m Y := by
  obtain ⟨vo, hvo, hg, hc⟩ := h
  refine ⟨ho.1, ho.2.imp id ?_⟩
  rintro ⟨g, cap, cur, rfl, hb, hh, hmc, hcm, hcs, ht⟩
  refine ⟨g, cap, cur, rfl, hb, ?_, hmc, hcm, hcs, ht⟩
  by_cases e : vo.ownBlock = some g
  · rcases hvo.2 with ⟨rfl, _⟩ | ⟨g', cap', cur', rfl, hb', hh', _⟩
    · cases e
    · have e' : g' = g := Option.some.inj e
      subst e'
      rw [hh] at hh'
      cases hh'
      exact absurd rfl hne
  · rw [hg.block g (Array.getElem?_eq_some_iff.1 hh).1 (fun h => e h.symm)]
    exact hh
theorem keyE_own {S k : Nat} {X N : List Value} {j : Nat} {x y : World} (h : NE 9 1 S (pKey k X N) j x y) {S' : Nat} {v : Value} {m : Nat} {Y : List Value} (ho : x.ownsRow S' 5 1 v m Y) : y.ownsRow S' 5 1 v m Y := by
  rcases h with ⟨_, h⟩ | ⟨_, _, _, _, h⟩
  · exact ownsRow_ext ho h
  · exact h.keepOther (by decide) ho
theorem keyE_box {S k : Nat} {X : List Value} {u0 : Value} {j : Nat} {x y : World} (h : NE 9 1 S (pKey k X [u0]) j x y) {b : Nat} (hb : BoxAt x b #[u0] 9) : BoxAt y b #[u0] 9 :=
  NE_box h hb fun k' X' N' hp _ i u hu h1 h2 => by
    have hi : i < 1 := by have := (Array.getElem?_eq_some_iff.1 hu).1; simpa using this
    obtain ⟨_, rfl, rfl, rfl⟩ := pKey_some hp
    have hk0 : k' = 0 := by omega
    subst hk0
    simpa using hu
theorem keyE_end {S k m : Nat} {X N : List Value} {j : Nat} (hj : j ≠ 5) {x y : World} (h : NE 9 1 S (pKey k X N) j x y) {v : Value} {Y : List Value} (ho : x.ownsRow S 9 1 v m Y) : y.ownsRow S 9 1 v m Y :=
  NE_own h ho fun k' X' N' hp i u hu h1 h2 => absurd (pKey_some hp).1 hj

theorem own_shapeW {w : World} {B : Nat} {e : TypeId} {size : Nat} {v : Value} {n : Nat} {xs : List Value} (h : w.ownsRow B e size v n xs) : ∃ a c, v = .slice a n c := by
  obtain ⟨a, c, h, _⟩ := SliceIn.of_owns h
  exact ⟨a, c, h⟩

def Z100 : ByteArray := str (List.replicate 100 0)
theorem Z100_size : Z100.size = 100 := by unfold Z100; rw [str_size, List.length_replicate]
def mBig (N : Nat) : Ms := ⟨3, 1, 2, 5, [⟨⟨#[116]⟩, Z100, 0⟩], List.replicate N Z100, 0⟩
theorem tbZ : (tb Z100).length = 102 := by decide
theorem mbZ : (mb ⟨⟨#[116]⟩, Z100, 0⟩).length = 109 := by decide
theorem sum_rep (N : Nat) : ((List.replicate N Z100).flatMap tb).length = N * 102 := by
  induction N with
  | zero => rfl
  | succ N ih => rw [List.replicate_succ, List.flatMap_cons, List.length_append, ih, tbZ]; omega
theorem mBig_len : (bytesW (mBig 40)).length = 4202 := by
  unfold bytesW partsW mBig
  simp only [List.flatten_cons, List.flatten_nil, List.length_append, List.length_replicate, sum_rep, List.flatMap_cons, List.flatMap_nil, mbZ, List.length_nil, List.length_cons]
  decide
theorem mBig_head : headB (mBig 40) := by unfold headB mBig; simp
theorem anyB (N : Nat) : (mBig N).keys.any longB = false := by
  have h : longB Z100 = false := by unfold longB; rw [Z100_size]; rfl
  unfold mBig
  rw [List.any_eq_false]
  intro x hx
  rw [(List.mem_replicate.1 hx).2, h]
  simp
theorem anyM (N : Nat) : (mBig N).muts.any badM = false := by
  show [(⟨⟨#[116]⟩, Z100, 0⟩ : Mu)].any badM = false
  unfold badM okMu
  simp [name_t]

theorem bad_big {w wc : World} {q : Nat} {vm vk : Value} (hT : TabU w) (hE : Ext w wc) (hb : BoxAt wc q (ms7 (mBig 40) vm vk) 66) (hM : MusIn wc vm (mBig 40).muts) (hK : SliceIn wc vk 40 ((List.replicate 40 Z100).map Value.string)) : BadW w wc q (.int .i64 2) := by
  have hK' : TxIn wc vk (mBig 40).keys := by
    unfold TxIn mBig
    simp only [List.length_replicate]
    exact hK
  have hMb : ∀ x ∈ (mBig 40).muts, x.table.size ≤ 100 ∧ x.key.size ≤ 100 ∧ x.gone = 0 := by
    intro x hx
    have e : x = ⟨⟨#[116]⟩, Z100, 0⟩ := by unfold mBig at hx; simpa using hx
    rw [e]
    exact ⟨by show 1 ≤ 100; omega, by show Z100.size ≤ 100; rw [Z100_size]; omega, rfl⟩
  have hKb : ∀ s ∈ (mBig 40).keys, s.size ≤ 1000 := by
    intro s hs
    unfold mBig at hs
    rw [(List.mem_replicate.1 hs).2, Z100_size]
    omega
  refine ⟨hE, mBig 40, vm, vk, hb, hM, hK', .inr ⟨rfl, fun w' hE' => ?_, fun w' hE' => ?_⟩⟩
  · have h := wcheck_head (mBig 40) vm vk w' ((hT.ext hE).ext hE') (hM.ext hE') (hK'.ext hE') (fun x hx => by have h := hMb x hx; exact ⟨h.1, h.2.1, by rw [h.2.2]; omega⟩) (fun s hs => by have := hKb s hs; omega) mBig_head
    rw [anyB, anyM] at h
    exact h
  · have h := wput_ok (mBig 40) vm vk w' ((hT.ext hE).ext hE') (hM.ext hE') (hK'.ext hE') hMb hKb mBig_head (anyB 40) (anyM 40) (by rw [mBig_len]; omega)
    rw [mBig_len, if_neg (by omega)] at h
    exact h

set_option maxRecDepth 100000 in
set_option maxHeartbeats 8000000 in
theorem law_wireRefuses (how v : Int) (w : World) (hT : TabU w) :
    Calls Tryd.prog 8 #[.int .i64 how, .int .i64 v] w fun e w' => e = .returned (.bool true) ∧ Ext w w' := by
  obtain ⟨K, hK⟩ : ∃ K : Nat, (K : Int) = 1 + v % 100 := ⟨(1 + v % 100).toNat, by omega⟩
  have hKl : 1 ≤ K ∧ K ≤ 100 := by omega
  have HK := Lib.hid hK.symm
  clear hK
  obtain ⟨V, hV⟩ : ∃ V, V = how % 8 := ⟨_, rfl⟩
  have hVc : V = 0 ∨ V = 1 ∨ V = 2 ∨ V = 3 ∨ V = 4 ∨ V = 5 ∨ V = 6 ∨ V = 7 := by omega
  have HV := Lib.hid hV
  clear hV
  obtain ⟨h1, h2, hE⟩ := boxes2 w #[.string ⟨#[116, 95, 49]⟩, .string ⟨#[109]⟩] (ms7 msb (.slice none 0 0) (.slice (some ⟨w.heap.size, 0, none⟩) 2 2)) 9 66
  have hk := tx_two h1
  have hT5 := hT.ext hE
  obtain ⟨S, hS⟩ : ∃ S, S = str (bytesW msb) := ⟨_, rfl⟩
  have hSl : S.size = 20 := by rw [hS, str_size]; exact msb_bytes
  have HS := Lib.hid hS
  clear hS
  go_enter Tryd.func8, Tryd.ntmps8
  go_upto_block 0 with (first
    | (go_at_call 9; go_must (refine (place_any _ _ (by omega) (by omega) _).mono ?_); rintro e w3 ⟨rfl, rfl⟩; (try rw [HK.out]); (try rw [← HV.out]))
    | (go_at_call 29; go_must (refine (wput_ok msb (.slice none 0 0) (.slice (some ⟨w.heap.size, 0, none⟩) 2 2) _ hT5 (SliceIn.nil _) hk (by simp [msb]) (by intro s hs; simp [msb] at hs; rcases hs with rfl | rfl <;> decide) headB_msb (by decide) rfl (by rw [msb_bytes]; decide)).mono ?_); rintro e w6 ⟨rfl, hE6⟩; rw [if_pos (by rw [msb_bytes]; decide), ← HS.out]; have g6 := h2.ext hE6; have c0 : w6.cell? ⟨w.heap.size + 1, 0, none⟩ = some (.int .i64 3) := g6.cell 0; have c1 : w6.cell? ⟨w.heap.size + 1, 1, none⟩ = some (.int .i64 1) := g6.cell 1; have c2 : w6.cell? ⟨w.heap.size + 1, 2, none⟩ = some (.int .i64 2) := g6.cell 2; have c3 : w6.cell? ⟨w.heap.size + 1, 3, none⟩ = some (.int .i64 5) := g6.cell 3; have c4 : w6.cell? ⟨w.heap.size + 1, 4, none⟩ = some (.slice none 0 0) := g6.cell 4; have c5 : w6.cell? ⟨w.heap.size + 1, 5, none⟩ = some (.slice (some ⟨w.heap.size, 0, none⟩) 2 2) := g6.cell 5; have c6 : w6.cell? ⟨w.heap.size + 1, 6, none⟩ = some (.int .i64 0) := g6.cell 6)
    | (go_at_call 30; go_must (refine (wcheck_head msb (.slice none 0 0) (.slice (some ⟨w.heap.size, 0, none⟩) 2 2) _ (hT5.ext hE6) (SliceIn.nil _) (hk.ext hE6) (by simp [msb]) (by intro s hs; simp [msb] at hs; rcases hs with rfl | rfl <;> decide) headB_msb).mono ?_); rintro e w7 ⟨rfl, hE7⟩; rw [show (!msb.keys.any longB && !msb.muts.any badM) = true from by decide]))
  have g7 := g6.ext hE7
  have hk7 := hk.ext (hE6.trans hE7)
  have hE7w : Ext w w7 := (hE.trans hE6).trans hE7
  have hqw : w.heap.size ≤ w.heap.size + 1 := by omega
  have c0 : w7.cell? ⟨w.heap.size + 1, 0, none⟩ = some (.int .i64 3) := g7.cell 0
  have f0 := g7.free 0
  have c1 : w7.cell? ⟨w.heap.size + 1, 1, none⟩ = some (.int .i64 1) := g7.cell 1
  have f1 := g7.free 1
  have c2 : w7.cell? ⟨w.heap.size + 1, 2, none⟩ = some (.int .i64 2) := g7.cell 2
  have f2 := g7.free 2
  have c3 : w7.cell? ⟨w.heap.size + 1, 3, none⟩ = some (.int .i64 5) := g7.cell 3
  have f3 := g7.free 3
  have c4 : w7.cell? ⟨w.heap.size + 1, 4, none⟩ = some (.slice none 0 0) := g7.cell 4
  have f4 := g7.free 4
  have c5 : w7.cell? ⟨w.heap.size + 1, 5, none⟩ = some (.slice (some ⟨w.heap.size, 0, none⟩) 2 2) := g7.cell 5
  have f5 := g7.free 5
  have c6 : w7.cell? ⟨w.heap.size + 1, 6, none⟩ = some (.int .i64 0) := g7.cell 6
  have f6 := g7.free 6
  clear hE h1 h2 hk hT5 hE6 hE7 HS
  go_cut [9, 10] from 37 to 93 (fun want _ wc => BadW w wc (w.heap.size + 1) want)
  case first =>
    rcases hVc with rfl | rfl | rfl | rfl | rfl | rfl | rfl | rfl
    · go_wp2_with fail
      go_meet
      case rel =>
        exact badw_no (m := ⟨8 + (K : Int), 1, 2, 5, [], [⟨#[116, 95, 49]⟩, ⟨#[109]⟩], 0⟩) (hE7w.setCell (by exact hqw) _) (g7.set 0 _) (SliceIn.nil _) (slice_off hk7 (off_blk (by omega) _ _)) (by simp only; omega)
    · go_wp2_with fail
      go_meet
      case rel =>
        exact badw_no (m := ⟨3, -(K : Int), 2, 5, [], [⟨#[116, 95, 49]⟩, ⟨#[109]⟩], 0⟩) (hE7w.setCell (by exact hqw) _) (g7.set 1 _) (SliceIn.nil _) (slice_off hk7 (off_blk (by omega) _ _)) (by simp only; omega)
    · go_wp2_with fail
      go_meet
      case rel =>
        exact badw_no (m := ⟨3, 1, 4 + (K : Int), 5, [], [⟨#[116, 95, 49]⟩, ⟨#[109]⟩], 0⟩) (hE7w.setCell (by exact hqw) _) (g7.set 2 _) (SliceIn.nil _) (slice_off hk7 (off_blk (by omega) _ _)) (by simp only; omega)
    · go_wp2_with fail
      go_meet
      case rel =>
        exact badw_no (m := ⟨3, 1, 2, 1099511627776 + (K : Int), [], [⟨#[116, 95, 49]⟩, ⟨#[109]⟩], 0⟩) (hE7w.setCell (by exact hqw) _) (g7.set 3 _) (SliceIn.nil _) (slice_off hk7 (off_blk (by omega) _ _)) (by simp only; omega)
    · obtain ⟨N, hN⟩ : ∃ N : Nat, (40 : Int) + (K : Int) = (N : Int) := ⟨40 + K, by omega⟩
      have hNl : 40 < N ∧ N ≤ 200 := by omega
      obtain ⟨wz, hr1, hbz, hEz⟩ := run_sts0 w7 N (by omega)
      have gz := g7.ext hEz
      have z5 : wz.cell? ⟨w.heap.size + 1, 5, none⟩ = some (.slice (some ⟨w.heap.size, 0, none⟩) 2 2) := gz.cell 5
      have zf := gz.free 5
      go_wp2_with fail
      go_meet
      case rel =>
        exact badw_no (m := ⟨3, 1, 2, 5, [], List.replicate N ⟨#[]⟩, 0⟩) ((hE7w.trans hEz).setCell (by exact hqw) _) (gz.set 5 _) (SliceIn.nil _) (slice_off hbz (off_blk (by have := g7.lt; omega) _ _)) (by simp only [List.length_replicate, List.length_nil]; omega)
    · obtain ⟨N, hN⟩ : ∃ N : Nat, (100 : Int) + (K : Int) = (N : Int) := ⟨100 + K, by omega⟩
      have hNl : 100 < N ∧ N ≤ 300 := by omega
      obtain ⟨wz, hr1, hr2, hEz⟩ := run_zero_text w7 N (by omega)
      have gz := g7.ext hEz
      have hAz := gz.allocs
      have hFz := gz.frees
      have hqz : w.heap.size + 1 ≠ wz.heap.size := by have := gz.lt; omega
      obtain ⟨Z, hZ⟩ : ∃ Z, Z = str (List.replicate N 0) := ⟨_, rfl⟩
      have hZl : Z.size = N := by rw [hZ, str_size, List.length_replicate]
      rw [← hZ] at hr2
      clear hZ
      go_wp2_with fail
      go_meet
      case rel =>
        have hb := BoxAt.made wz #[.string Z] 9
        have hEa := (Ext.refl wz).alloc (.cells #[.string Z] 9)
        refine badw_any (m := ⟨3, 1, 2, 5, [], [Z], 0⟩) hT (((hE7w.trans hEz).trans hEa).setCell (by exact hqw) _) ((gz.ext hEa).set 5 _) (SliceIn.nil _) (slice_off (tx_one hb) (off_blk hqz.symm _ _)) (by simp) (by intro s hs; simp only [List.mem_singleton] at hs; rw [hs]; omega) ?_ ?_
        · unfold headB; simp
        · have hlz : longB Z = true := by unfold longB; exact decide_eq_true (by omega)
          simp [hlz]
    · have hA7 := g7.allocs
      have hF7 := g7.frees
      have hqz : w.heap.size + 1 ≠ w7.heap.size := by have := g7.lt; omega
      go_wp2_with fail
      go_meet
      case rel =>
        have hb := BoxAt.made w7 #[.string ⟨#[84]⟩, .string ⟨#[]⟩, .int .i64 0, .slice none 0 0] 27
        have hEa := (Ext.refl w7).alloc (.cells #[.string ⟨#[84]⟩, .string ⟨#[]⟩, .int .i64 0, .slice none 0 0] 27)
        refine badw_any (m := ⟨3, 1, 2, 5, [⟨⟨#[84]⟩, ⟨#[]⟩, 0⟩], [⟨#[116, 95, 49]⟩, ⟨#[109]⟩], 0⟩) hT ((hE7w.trans hEa).setCell (by exact hqw) _) ((g7.ext hEa).set 4 _) (slice_off (mus_one hb) (off_blk hqz.symm _ _)) (slice_off (hk7.ext hEa) (off_blk (by omega) _ _)) (mu_ok (by decide) (by decide) (by decide)) ?_ ?_ (by decide)
        · intro s hs
          simp only [List.mem_cons, List.not_mem_nil, or_false] at hs
          rcases hs with rfl | rfl <;> decide
        · unfold headB; simp
    · have hle7 : w.heap.size + 1 < w7.heap.size := g7.lt
      go_wp2_with fail
      have hT0 : Touch9 w7 (w7.setCell ⟨w.heap.size + 1, 5, none⟩ (.slice none 0 0)) (w.heap.size + 1) := Touch9.set w7 5 _
      have hq0 : BoxAt (w7.setCell ⟨w.heap.size + 1, 5, none⟩ (.slice none 0 0)) (w.heap.size + 1) #[.int .i64 3, .int .i64 1, .int .i64 2, .int .i64 5, .slice none 0 0, .slice none 0 0, .int .i64 0] 66 := g7.set 5 _
      generalize (w7.setCell ⟨w.heap.size + 1, 5, none⟩ (.slice none 0 0)) = w8 at hT0 hq0 ⊢
      go_loopw [10] (fun i wr => ∃ (j : Nat) (v0 : Value), j ≤ 40 ∧ i = .int .i64 (j : Int) ∧ wr.ownsRow w7.heap.size 9 1 v0 j ((List.replicate j Z100).map Value.string) ∧ BoxAt wr (w.heap.size + 1) #[.int .i64 3, .int .i64 1, .int .i64 2, .int .i64 5, .slice none 0 0, v0, .int .i64 0] 66 ∧ Touch9 w7 wr (w.heap.size + 1)) (fun i _ => 40 - (intOf i).toNat)
      case atStart => exact ⟨0, _, Nat.zero_le _, rfl, World.ownsRow_nil _ _ _ _, hq0, hT0⟩
      case round =>
        obtain ⟨j, v0, hj, rfl, hown, hq, hTr⟩ := hrel
        by_cases hlt : j < 40
        · go_wp2_with fail
          have hsh := hown
          obtain ⟨a0, c0, rfl⟩ := own_shapeW hsh
          clear hsh
          obtain ⟨X, hX⟩ : ∃ X, X = (List.replicate j Z100).map Value.string := ⟨_, rfl⟩
          rw [← hX] at hown
          have HX := Lib.hid hX
          clear hX
          have hC0 : KeyC w7 (w.heap.size + 1) w7.heap.size #[.int .i64 3, .int .i64 1, .int .i64 2, .int .i64 5, .slice none 0 0, .slice a0 j c0, .int .i64 0] (.slice a0 j c0) j X wr.drew := KeyC.grow ⟨hq, hown, hTr⟩ (Ext.refl wr).drew
          refine wp_region_relE (KeyC w7 (w.heap.size + 1) w7.heap.size #[.int .i64 3, .int .i64 1, .int .i64 2, .int .i64 5, .slice none 0 0, .slice a0 j c0, .int .i64 0] (.slice a0 j c0) j X) (NE 9 1 w7.heap.size (pKey j X [.string Z100]))
            (Tab.atE [(0, fun v _ => v = .pointer (some ⟨w.heap.size + 1, 5, none⟩)), (1, fun v _ => v = .slice a0 j c0), (2, fun v x => ∃ B, x.ownsRow B 5 1 v 100 (bcells (List.replicate 100 0))), (3, fun v _ => v = .string Z100), (4, fun v x => ∃ bb, v = .slice (some ⟨bb, 0, none⟩) 1 1 ∧ BoxAt x bb #[.string Z100] 9), (5, fun v x => x.ownsRow w7.heap.size 9 1 v (j + 1) (X ++ [.string Z100])), (6, fun v _ => v = .pointer (some ⟨w.heap.size + 1, 5, none⟩))])
            (Tab.staysE ⟨fun _ _ _ _ _ _ h => h, fun _ _ _ _ _ _ h => h, fun j hj v x y hR ⟨B, hx⟩ => ⟨B, keyE_own hR hx⟩, fun _ _ _ _ _ _ h => h, fun j hj v x y hR ⟨bb, e, hx⟩ => ⟨bb, e, keyE_box hR hx⟩, fun j hj v x y hR hx => keyE_end hj hR hx, fun _ _ _ _ _ _ h => h, trivial⟩)
            7 (by kernel_rfl) (by kernel_rfl) (by kernel_rfl) hC0 ?_
          refine relE_val [] rfl rfl rfl (by kernel_rfl) (fun y hy hf => ?_) ?_
          · go_simp
            exact ⟨hy, NE_ext rfl (Ext.refl y), rfl⟩
          simp only [Act.put, List.setIfInBounds_toArray, List.set_cons_zero, List.set_cons_succ]
          refine relE_val [] rfl rfl rfl (by kernel_rfl) (fun y hy hf => ?_) ?_
          · have z5 : y.cell? ⟨w.heap.size + 1, 5, none⟩ = some (.slice a0 j c0) := hy.box.cell 5
            go_simp
            exact ⟨hy, NE_ext rfl (Ext.refl y), rfl⟩
          simp only [Act.put, List.setIfInBounds_toArray, List.set_cons_zero, List.set_cons_succ]
          refine relE_fact [] rfl rfl rfl (by kernel_rfl) (fun y hy hf => ?_) (fun v2 y2 hC2 hG2 h2 => ?_)
          · refine yields_zeros _ _ rfl (N := 100) (by rfl) (by rfl) (by omega) ?_
            intro v' w' ho hE
            refine ⟨hy.grow hE, NE_ext rfl hE, y.heap.size, ?_⟩
            unfold OwnB at ho
            rw [List.length_replicate] at ho
            exact ho
          obtain ⟨B2, h2⟩ := h2
          obtain ⟨a2, c2, rfl⟩ := own_shapeW h2
          clear hC2 hG2 h2
          simp only [Act.put, List.setIfInBounds_toArray, List.set_cons_zero, List.set_cons_succ]
          refine relE_val [2] rfl rfl rfl (by kernel_rfl) (fun y hy hf => ?_) ?_
          · obtain ⟨B, hx⟩ := (hf 2 (by simp)).2 rfl
            refine yields_convert_bytes 35 9 5 _ rfl und_bytes und_u8 und_string (l := List.replicate 100 0) ?_ ?_
            · have := SliceIn.of_owns hx
              unfold BytesIn
              rw [List.length_replicate]
              exact this
            · exact ⟨hy, NE_ext rfl (Ext.refl y), rfl⟩
          simp only [Act.put, List.setIfInBounds_toArray, List.set_cons_zero, List.set_cons_succ]
          refine relE_fact [] rfl rfl rfl (by kernel_rfl) (fun y hy hf => ?_) (fun v4 y4 hC4 hG4 h4 => ?_)
          · go_simp
            exact ⟨hy.grow ((Ext.refl y).alloc _), NE_ext rfl ((Ext.refl y).alloc _), _, rfl, BoxAt.made y _ _⟩
          obtain ⟨b4, rfl, _⟩ := h4
          clear hC4 hG4
          simp only [Act.put, List.setIfInBounds_toArray, List.set_cons_zero, List.set_cons_succ]
          refine relE_fact [4] rfl rfl rfl (by kernel_rfl) (fun y hy hf => ?_) (fun v5 y5 hC5 hG5 h5 => ?_)
          · obtain ⟨bb, e, hx⟩ := (hf 4 (by simp)).2 rfl
            cases e
            have hin : SliceIn y (.slice (some ⟨b4, 0, none⟩) 1 1) 1 [.string Z100] := ⟨_, _, rfl, Nat.le_refl _, by unfold maxLen; omega, nofun, fun j u hj => ⟨b4, 0, rfl, by rw [Nat.zero_add, hx.cell j]; simpa using hj⟩⟩
            refine yields_app info_st2 und_sts rfl (by decide) (.tmp 43) (.tmp 46) rfl w7.heap.size hy.touch.size _ j X hy.own (by rfl) hin (by rfl) rfl (by simp [Value.oneCell']) (by unfold maxLen; omega) (by omega) ?_
            intro v' y' ho' hA' _
            exact ⟨hy.app (Nat.le_refl _) hA', NE_app rfl hA', ho'⟩
          have h5' := h5
          obtain ⟨a5, c5, rfl⟩ := own_shapeW h5'
          clear hC5 hG5 h5 h5'
          simp only [Act.put, List.setIfInBounds_toArray, List.set_cons_zero, List.set_cons_succ]
          refine relE_val [] rfl rfl rfl (by kernel_rfl) (fun y hy hf => ?_) ?_
          · go_simp
            exact ⟨hy, NE_ext rfl (Ext.refl y), rfl⟩
          simp only [Act.put, List.setIfInBounds_toArray, List.set_cons_zero, List.set_cons_succ]
          refine relE_tail rfl rfl fun w9 hC9 hG => ?_
          have h15 := (hG 5).2 rfl
          have hb9 := hC9.box
          have z5 : w9.cell? ⟨w.heap.size + 1, 5, none⟩ = some (.slice a0 j c0) := hb9.cell 5
          have zf := hb9.free 5
          clear hG
          go_wp2_with fail
          go_roundw
          case rel =>
            refine ⟨j + 1, .slice a5 (j + 1) c5, by omega, by go_num, ?_, hb9.set 5 _, hC9.touch.put 5 _⟩
            have h := ownsRow_setCell_below h15 (a := ⟨w.heap.size + 1, 5, none⟩) (by exact hle7) (.slice a5 (j + 1) c5)
            rw [List.replicate_succ', List.map_append, ← HX.out]
            exact h
          case measure => simp [intOf]; omega
        · obtain rfl : j = 40 := by omega
          have hA7 := hq.allocs
          have hF7 := hq.frees
          obtain ⟨wz, hr1, hr2, hEz⟩ : ∃ w', (Instr.makeSlice 35 (.int .i64 100) (.int .i64 100)).run Tryd.prog wr = .ok (.slice (some ⟨wr.heap.size, 0, none⟩) 100 100) w' ∧ (convert 35 9 (.slice (some ⟨wr.heap.size, 0, none⟩) 100 100)).run Tryd.prog w' = .ok (.string Z100) w' ∧ Ext wr w' := run_zero_text wr 100 (by omega)
          have gz := hq.ext hEz
          have hAz := gz.allocs
          have hFz := gz.frees
          have hqz : w.heap.size + 1 ≠ wz.heap.size := by have := gz.lt; omega
          go_wp2_with fail
          go_meet
          case rel =>
            have hs := SliceIn.of_owns hown
            have hb := BoxAt.made wz #[.string ⟨#[116]⟩, .string Z100, .int .i64 0, .slice none 0 0] 27
            have hEa := (Ext.refl wz).alloc (.cells #[.string ⟨#[116]⟩, .string Z100, .int .i64 0, .slice none 0 0] 27)
            have hEw := ((((hTr.more hEz).more hEa).put 4 (.slice (some ⟨wz.heap.size, 0, none⟩) 1 1)).ext hE7w hqw)
            have hq9 := (gz.ext hEa).set 4 (.slice (some ⟨wz.heap.size, 0, none⟩) 1 1)
            have hbl : wz.heap.size ≠ w.heap.size + 1 := fun e => hqz e.symm
            have hoff : ∀ b o k c, v0 = .slice (some ⟨b, o, none⟩) k c → b ≠ w.heap.size + 1 := by
              intro b o k c e
              have := (hown.lt b (by rw [e]; rfl)).1
              omega
            refine bad_big hT hEw hq9 (slice_off (mus_one hb) (off_blk hbl _ _)) (slice_off ?_ hoff)
            have h := SliceIn.ext (hEz.trans hEa) hs
            exact h
  case rest =>

    obtain ⟨hE, m, vm, vk, hb, hM, hK, hx⟩ := hcut
    obtain ⟨kd, fr, tt, id, M, ks, nm⟩ := m
    unfold ms7 at hb
    simp only at hb hM hK
    have c0 : wc.cell? ⟨w.heap.size + 1, 0, none⟩ = some (.int .i64 kd) := hb.cell 0
    have c1 : wc.cell? ⟨w.heap.size + 1, 1, none⟩ = some (.int .i64 fr) := hb.cell 1
    have c2 : wc.cell? ⟨w.heap.size + 1, 2, none⟩ = some (.int .i64 tt) := hb.cell 2
    have c3 : wc.cell? ⟨w.heap.size + 1, 3, none⟩ = some (.int .i64 id) := hb.cell 3
    have c4 : wc.cell? ⟨w.heap.size + 1, 4, none⟩ = some vm := hb.cell 4
    have c5 : wc.cell? ⟨w.heap.size + 1, 5, none⟩ = some vk := hb.cell 5
    have c6 : wc.cell? ⟨w.heap.size + 1, 6, none⟩ = some (.int .i64 nm) := hb.cell 6
    have hTc := hT.ext hE
    rcases hx with ⟨rfl, hC⟩ | ⟨rfl, hC, hP⟩
    · have hP := wput_no ⟨kd, fr, tt, id, M, ks, nm⟩ vm vk wc hM hK hC
      unfold ms7 at hP hC
      simp only at hP hC
      have HP := Lib.hid hP
      have HC := Lib.hid hC
      clear hP hC
      go_wp2_with (first
        | (go_at_call 29; go_must (refine HP.out.mono ?_); rintro e w8 ⟨rfl, hE8⟩; have hb8 := hb.ext hE8; have d0 : w8.cell? ⟨w.heap.size + 1, 0, none⟩ = some (.int .i64 kd) := hb8.cell 0; have d1 : w8.cell? ⟨w.heap.size + 1, 1, none⟩ = some (.int .i64 fr) := hb8.cell 1; have d2 : w8.cell? ⟨w.heap.size + 1, 2, none⟩ = some (.int .i64 tt) := hb8.cell 2; have d3 : w8.cell? ⟨w.heap.size + 1, 3, none⟩ = some (.int .i64 id) := hb8.cell 3; have d4 : w8.cell? ⟨w.heap.size + 1, 4, none⟩ = some vm := hb8.cell 4; have d5 : w8.cell? ⟨w.heap.size + 1, 5, none⟩ = some vk := hb8.cell 5; have d6 : w8.cell? ⟨w.heap.size + 1, 6, none⟩ = some (.int .i64 nm) := hb8.cell 6)
        | (go_at_call 30; go_must (refine (HC.out _ hE8).mono ?_); rintro e w9 ⟨rfl, hE9⟩)
        | (go_at_call 31; go_must (refine (awake21_any _ (hTc.ext (hE8.trans hE9))).mono ?_); rintro e wa ⟨rfl, hEa⟩))
      go_ret
      exact ⟨rfl, ((hE.trans hE8).trans hE9).trans hEa⟩
    · have hP := hP wc (Ext.refl wc)
      unfold ms7 at hP hC
      simp only at hP hC
      have HP := Lib.hid hP
      have HC := Lib.hid hC
      clear hP hC
      go_wp2_with (first
        | (go_at_call 29; go_must (refine HP.out.mono ?_); rintro e w8 ⟨rfl, hE8⟩; have hb8 := hb.ext hE8; have d0 : w8.cell? ⟨w.heap.size + 1, 0, none⟩ = some (.int .i64 kd) := hb8.cell 0; have d1 : w8.cell? ⟨w.heap.size + 1, 1, none⟩ = some (.int .i64 fr) := hb8.cell 1; have d2 : w8.cell? ⟨w.heap.size + 1, 2, none⟩ = some (.int .i64 tt) := hb8.cell 2; have d3 : w8.cell? ⟨w.heap.size + 1, 3, none⟩ = some (.int .i64 id) := hb8.cell 3; have d4 : w8.cell? ⟨w.heap.size + 1, 4, none⟩ = some vm := hb8.cell 4; have d5 : w8.cell? ⟨w.heap.size + 1, 5, none⟩ = some vk := hb8.cell 5; have d6 : w8.cell? ⟨w.heap.size + 1, 6, none⟩ = some (.int .i64 nm) := hb8.cell 6)
        | (go_at_call 30; go_must (refine (HC.out _ hE8).mono ?_); rintro e w9 ⟨rfl, hE9⟩)
        | (go_at_call 31; go_must (refine (awake21_any _ (hTc.ext (hE8.trans hE9))).mono ?_); rintro e wa ⟨rfl, hEa⟩))
      go_ret
      exact ⟨rfl, ((hE.trans hE8).trans hE9).trans hEa⟩
theorem walk_wireRefuses (a0 a1 : Int) (_ : (Lit.int .i64 a0).wf = true) (_ : (Lit.int .i64 a1).wf = true) (W : World) (hT : TabU W) :
    Calls Tryd.prog 8 #[.int .i64 a0, .int .i64 a1] W fun e w' => e = .returned (.bool true) ∧ Ext W w' := law_wireRefuses a0 a1 W hT
end Go.Proofs.YtmjhdfifbjdgpaaDoor
