/- PartGones: what a partition's Gone covers is not seen: the law's walk. -/
import Derived.Test.YtbjpfhkdlljgdaaAwake8
import Derived.Test.YtbjpfhkdlljgdaaKey3
import Derived.Test.YtbjpfhkdlljgdaaGen
import Derived.Test.YtbjpfhkdlljgdaaStoreE
namespace Go.Proofs.Ytbjpfhkdlljgdaa
open Go Go.RowKit
attribute [local go_sem] yields yUpon ro8 pa3

/-! ### The plain law -/
def gRow (i : Nat) (a : Int) : Ro := ⟨key3 i, ⟨⟨#[]⟩, false, a, 0⟩, 0, 0, []⟩
def gRows (f : Nat → Int) : Nat → List Ro
  | 0 => []
  | k + 1 => gRows f k ++ [gRow k (f k)]
def gCount (f : Nat → Int) (g : Int) : Nat → Int
  | 0 => 0
  | k + 1 => gCount f g k + if g < f k then 1 else 0
theorem gCount_le (f : Nat → Int) (g : Int) : ∀ k : Nat, 0 ≤ gCount f g k ∧ gCount f g k ≤ k
  | 0 => ⟨Int.le_refl _, Int.le_refl _⟩
  | k + 1 => by
    have h := gCount_le f g k
    unfold gCount
    split <;> omega
theorem mergeG_snoc {α : Type} {cmp : α → α → Int} {join : α → α → α} {r : α} : ∀ (l : List α), (∀ x ∈ l, cmp x r < 0) → mergeG cmp join l [r] = l ++ [r]
  | [], _ => mergeG_nil_left ..
  | a :: l, h => by
    rw [mergeG_lt (h a (List.mem_cons_self ..)), mergeG_snoc l fun x hx => h x (List.mem_cons_of_mem _ hx)]
    rfl
theorem gRows_mem {f : Nat → Int} : ∀ {k : Nat} {r : Ro}, r ∈ gRows f k → ∃ i, i < k ∧ r = gRow i (f i)
  | k + 1, r, h => by
    rcases List.mem_append.1 h with h | h
    · obtain ⟨i, hi, e⟩ := gRows_mem h
      exact ⟨i, by omega, e⟩
    · exact ⟨k, by omega, List.mem_singleton.1 h⟩
theorem gRows_length (f : Nat → Int) : ∀ k, (gRows f k).length = k
  | 0 => rfl
  | k + 1 => by rw [gRows, List.length_append, gRows_length f k]; rfl
theorem gRows_merge (f : Nat → Int) (k : Nat) (hk : k < 1000) : mergeRo (gRows f k) [gRow k (f k)] = gRows f (k + 1) :=
  mergeG_snoc _ fun x hx => by
    obtain ⟨i, hi, rfl⟩ := gRows_mem hx
    show cmpB (key3 i).data.toList (key3 k).data.toList < 0
    rw [key3_cmp hi hk]
    decide
theorem gRow_is (i : Nat) (a g t : Int) (s : Bool) (ha : 1 ≤ a) (hg : 0 ≤ g) : isB (gRow i a) (max (gRow i a).gone g) t s = decide (g < a) := by
  have e : max (gRow i a).gone g = g := by show max 0 g = g; omega
  rw [e]
  have h1 : decide (0 < a) = true := by simp; omega
  show ((decide (0 < a) && !false && ((0 : Int) == 0 || decide (t < 0))) && decide (g < a) && decide (0 < a) || (!s && decide (0 < ([] : List Co).length))) = decide (g < a)
  rw [h1]
  simp
theorem gRows_seen (f : Nat → Int) (g t : Int) (s : Bool) (hf : ∀ i, 1 ≤ f i) (hg : 0 ≤ g) : ∀ k, ((seenRs (gRows f k) g t s).length : Int) = gCount f g k
  | 0 => rfl
  | k + 1 => by
    rw [gRows, seenRs_snoc, gRow_is _ _ _ _ _ (hf k) hg, List.length_append, gCount, Int.natCast_add, gRows_seen f g t s hf hg k]
    by_cases h : g < f k <;> simp [h]
theorem gRows_few (f : Nat → Int) (k : Nat) : FewCols (gRows f k) := fun r hr => by
  obtain ⟨i, _, rfl⟩ := gRows_mem hr
  exact Nat.zero_le _
def gAt (z : List Int) (i : Nat) : Int := 1 + z.getD i 0 % 10
theorem gAt_pos (z : List Int) (i : Nat) : 1 ≤ gAt z i := by unfold gAt; omega

theorem ints_at {w : World} {a : Option Addr} {n c : Nat} {z : List Int} (h : IntsIn w (.slice a n c) .i64 z) (k : Nat) (hk : k < z.length) : ∃ b o, a = some ⟨b, o, none⟩ ∧ w.cell? ⟨b, o + k, none⟩ = some (.int .i64 (z.getD k 0)) := by
  obtain ⟨a', c', e, _, _, _, hcell⟩ := h
  cases e
  exact hcell k _ (by rw [kcells_get]; simp [hk])

/-- What stays true in the region that joins. -/
structure GC (w : World) (g : Int) (v : Value) (ps : List (Ro × Value)) (S : Nat) (x : World) : Prop where
  ext : Ext w x
  box : BoxAt x w.heap.size (pa3 ⟨#[107]⟩ g v) 26
  rows : RowsT x v ps
  size : S ≤ x.heap.size
theorem GC.ext' {w : World} {g : Int} {v : Value} {ps : List (Ro × Value)} {S : Nat} {x y : World} (hE : Ext x y) (h : GC w g v ps S x) : GC w g v ps S y := ⟨h.ext.trans hE, h.box.ext hE, h.rows.ext hE, Nat.le_trans h.size hE.le⟩

set_option maxRecDepth 100000 in
set_option maxHeartbeats 8000000 in
theorem law_partGones (v0 : Value) (z : List Int) (gone now : Int) (w : World) (hin : IntsIn w v0 .i64 z) :
    Calls Try.prog 3 #[.int .i64 gone, v0, .int .i64 now] w fun e w' => e = .returned (.bool true) ∧ Ext w w' := by
  obtain ⟨a, c, rfl, hc, hcm, ha⟩ := hin.block
  obtain ⟨g, hg⟩ : ∃ g, g = gone % 10 := ⟨_, rfl⟩
  have hg0 : 0 ≤ g := by omega
  have HG := Lib.hid hg
  clear hg
  go_enter Try.func3, Try.ntmps3
  go_wp2_with fail
  refine (place_any gone 10 (by decide) (by decide) w).mono ?_
  rw [← HG.out]
  rintro e w1 ⟨rfl, rfl⟩
  go_wp2_with (((guard_target =~ wpList _ _ _ (Oper.mk none (Op.store _ (Operand.tmp 8) _) _ _ _ _ :: _) _ _); go_must (refine storeBox rfl 26 (.tmp 8) (.tmp 18) rfl (w.heap.size) _ _ _ (by rfl) (by rfl) ((BoxAt.made w (pa3 ⟨#[]⟩ 0 (.slice none 0 0)) 26)) (by kernel_rfl) (by rfl) (by simp [Value.oneCell']) ?_); intro w1 c1 g1); have hX1 : Ext w w1 := ((Ext.refl w).alloc _).grown g1 (fun q hq => by cases hq; omega); clear g1)
  go_loopw [9, 10] (fun so i wr => ∃ (k : Nat) (v : Value) (ps : List (Ro × Value)), k ≤ 20 ∧ k ≤ z.length ∧ i = .int .i64 k ∧ (∃ N : Int, so = .int .i64 N ∧ 0 ≤ N ∧ N ≤ k ∧ Hid (N = gCount (gAt z) g k)) ∧ BoxAt wr w.heap.size (pa3 ⟨#[107]⟩ g v) 26 ∧ RowsT wr v ps ∧ Hid (ps.map (·.1) = gRows (gAt z) k) ∧ Ext w wr) (fun _ i _ => 20 - (intOf i).toNat)
  case atStart => exact ⟨0, _, [], by decide, Nat.zero_le _, rfl, ⟨0, rfl, Int.le_refl _, Int.le_refl _, rfl⟩, c1, RowsT.nil _, rfl, hX1⟩
  case round =>
    obtain ⟨k, v, ps, hk20, hkz, rfl, ⟨N, rfl, hN0, hNk, HN⟩, hbox, hps, HPM, hE⟩ := hrel
    clear c1 hX1
    obtain ⟨av, cv, rfl⟩ := hps.shape
    have hpl : ps.length = k := by have := congrArg List.length HPM.out; simpa [gRows_length] using this
    rw [hpl] at hps hbox
    have c0 := hbox.pa
    by_cases hkz' : k < z.length
    · by_cases hk20' : k < 20
      · obtain ⟨b, o, rfl, hat⟩ := ints_at hin k hkz'
        obtain ⟨x, hx⟩ : ∃ x, x = z.getD k 0 := ⟨_, rfl⟩
        rw [← hx] at hat
        have HX := Lib.hid hx
        clear hx
        have hat' := hE.cell hat
        have t1 : decide ((k : Int) < (z.length : Int)) = true := by simp; omega
        have t2 : decide ((k : Int) < (20 : Int)) = true := by simp; omega
        go_wp2_with fail
        refine (place_any x 10 (by decide) (by decide) wr).mono ?_
        rintro e w2 ⟨rfl, rfl⟩
        obtain ⟨A, hA⟩ : ∃ A, A = 1 + x % 10 := ⟨_, rfl⟩
        have HA : Hid (A = gAt z k) := by show A = gAt z k; rw [hA, HX.out]; rfl
        have hA1 : 1 ≤ A ∧ A ≤ 10 := by omega
        have hA2 := hA.symm
        clear hA hat hat'
        go_wp2_with fail
        have hsz := hbox.lt
        have hle := hE.le
        refine wp_region_relE (GC w g (.slice av k cv) ps wr.heap.size) (SE wr.heap.size 13) (TabP.at [(0, fun _ v _ => v = .agg #[.string ⟨#[107]⟩, .int .i64 g, .slice av k cv]), (2, fun _ v _ => v = .string (key3 k)), (6, fun _ v x => ∃ b, v = .slice (some ⟨b, 0, none⟩) 1 1 ∧ BoxAt x b (ro8 (gRow k A) (.slice none 0 0)) 34), (8, fun _ v x => ∃ v' qs, v = .tuple #[.agg #[.string ⟨#[107]⟩, .int .i64 g, v'], .bool true] ∧ RowsT x v' qs ∧ Hid (qs.map (·.1) = gRows (gAt z) (k + 1))), (12, fun _ v x => ∃ b, v = .pointer (some ⟨b, 0, none⟩) ∧ wr.heap.size ≤ b ∧ ∃ Z, BoxAt x b Z 26 ∧ Z.size = 3), (13, fun L _ x => ∃ b Z, L = [.pointer (some ⟨b, 0, none⟩), .agg Z] ∧ BoxAt x b Z 26)])
          (TabP.staysE ⟨fun _ _ _ _ _ _ _ h => h, fun _ _ _ _ _ _ _ h => h, fun _ _ _ _ _ _ hR ⟨b, e, hb⟩ => ⟨b, e, SE_box hR (by decide) hb⟩, fun _ _ _ _ _ _ hR ⟨v', qs, e, hr, hm⟩ => ⟨v', qs, e, SE_rows hR hr, hm⟩, fun _ _ _ _ _ _ hR ⟨b, e, hb, hz⟩ => ⟨b, e, hb, SE_part hR hz⟩, fun _ _ hj _ _ _ hR ⟨b, Z, e, hb⟩ => ⟨b, Z, e, hb.ext (SE_off hj hR)⟩, trivial⟩)
          15 (by kernel_rfl) (by kernel_rfl) (by kernel_rfl) ((⟨hE, hbox, hps, Nat.le_refl _⟩ : GC w g (.slice av k cv) ps wr.heap.size wr).ext' (Ext.refl wr).drew) ?_
        refine relE_val [] rfl rfl rfl (by kernel_rfl) (fun y hy hf => ?_) ?_
        · have c0 := hy.box.pa
          go_simp
          exact ⟨hy, SE_ext (by decide) (Ext.refl y), rfl⟩
        simp only [Act.put, List.setIfInBounds_toArray, List.set_cons_zero, List.set_cons_succ]
        refine relE_quiet rfl rfl rfl rfl ?_; intro K hK; go_big_quiet_op; (first | refine ⟨_, fun _ _ => rfl, hK _ ?_⟩ | refine hK _ ?_); clear hK K
        refine relE_val [] rfl rfl rfl (by kernel_rfl) (fun y hy hf => ?_) ?_
        · go_simp
          exact (key8_any k (by omega) y).mono fun e w' ⟨he, hw⟩ => ⟨_, he, hy.ext' hw, SE_ext (by decide) hw, rfl⟩
        simp only [Act.put, List.setIfInBounds_toArray, List.set_cons_zero, List.set_cons_succ]
        refine relE_quiet rfl rfl rfl rfl ?_; intro K hK; go_big_quiet_op; (first | refine ⟨_, fun _ _ => rfl, hK _ ?_⟩ | refine hK _ ?_); clear hK K
        refine relE_quiet rfl rfl rfl rfl ?_; intro K hK; go_big_quiet_op; (first | refine ⟨_, fun _ _ => rfl, hK _ ?_⟩ | refine hK _ ?_); clear hK K
        refine relE_quiet rfl rfl rfl rfl ?_; intro K hK; go_big_quiet_op; (first | refine ⟨_, fun _ _ => rfl, hK _ ?_⟩ | refine hK _ ?_); clear hK K
        refine relE_fact [] rfl rfl rfl (by kernel_rfl) (fun y hy hf => ?_) (fun v6 z6 hC6 hG6 h6 => ?_)
        · go_simp
          exact ⟨hy.ext' ((Ext.refl y).alloc _), SE_ext (by decide) ((Ext.refl y).alloc _), _, rfl, BoxAt.made y _ _⟩
        obtain ⟨b6, rfl, _⟩ := h6
        clear hC6 hG6
        simp only [Act.put, List.setIfInBounds_toArray, List.set_cons_zero, List.set_cons_succ]
        refine relE_quiet rfl rfl rfl rfl ?_; intro K hK; go_big_quiet_op; (first | refine ⟨_, fun _ _ => rfl, hK _ ?_⟩ | refine hK _ ?_); clear hK K
        refine relE_fact [6] rfl rfl rfl (by kernel_rfl) (fun y hy hf => ?_) (fun v8 z8 hC8 hG8 h8 => ?_)
        · obtain ⟨b, e, hb⟩ := (hf 6 (by simp)).2 rfl
          cases e
          go_simp
          refine (pjoin_walk ⟨#[107]⟩ ⟨#[107]⟩ g 0 _ _ ps [(gRow k A, .slice none 0 0)] y hy.rows.rows (rows_one hb (ColsIn.nil _)) (by simp; omega) (by rw [HPM.out]; exact gRows_few _ _) (by intro r hr; rw [List.mem_singleton.1 hr]; exact Nat.zero_le _)).mono ?_
          have hJ : mergeRo (ps.map (·.1)) ([(gRow k A, Value.slice none 0 0)].map (·.1)) = gRows (gAt z) (k + 1) := by
            rw [HPM.out, HA.out]
            exact gRows_merge _ _ (by omega)
          rw [hJ, show max g 0 = g by omega]
          rintro e y' ⟨hE', ⟨_, v', rfl, qs, hqs, hqm⟩ | ⟨hbad, _⟩⟩
          · exact ⟨_, rfl, hy.ext' hE', SE_ext (by decide) hE', v', rfl, qs, hqs, hqm⟩
          · rw [gRows_length] at hbad
            omega
        obtain ⟨v9, qs, rfl, hqs9, HQ⟩ := h8
        obtain ⟨a9, c9, rfl⟩ := hqs9.shape
        clear hC8 hG8 hqs9
        simp only [Act.put, List.setIfInBounds_toArray, List.set_cons_zero, List.set_cons_succ]
        refine relE_quiet rfl rfl rfl rfl ?_; intro K hK; go_big_quiet_op; (first | refine ⟨_, fun _ _ => rfl, hK _ ?_⟩ | refine hK _ ?_); clear hK K
        refine relE_quiet rfl rfl rfl rfl ?_; intro K hK; go_big_quiet_op; (first | refine ⟨_, fun _ _ => rfl, hK _ ?_⟩ | refine hK _ ?_); clear hK K
        refine relE_quiet rfl rfl rfl rfl ?_; intro K hK; go_big_quiet_op; (first | refine ⟨_, fun _ _ => rfl, hK _ ?_⟩ | refine hK _ ?_); clear hK K
        refine relE_fact [] rfl rfl rfl (by kernel_rfl) (fun y hy hf => ?_) (fun v6 z6 hC6 hG6 h6 => ?_)
        · go_simp
          exact ⟨hy.ext' ((Ext.refl y).alloc _), SE_ext (by decide) ((Ext.refl y).alloc _), _, rfl, hy.size, _, BoxAt.made y _ _, rfl⟩
        obtain ⟨b12, rfl, _, _⟩ := h6
        clear hC6 hG6
        simp only [Act.put, List.setIfInBounds_toArray, List.set_cons_zero, List.set_cons_succ]
        refine relE_factP [12] rfl rfl rfl (by kernel_rfl) (fun y hy hf => ?_) (fun v6 z6 hC6 hG6 h6 => ?_)
        · obtain ⟨b, e, hb, Z, hbox, hZ⟩ := (hf 12 (by simp)).2 rfl
          cases e
          refine yields_storeBox 26 (.tmp 12) (.tmp 45) rfl b12 #[.string ⟨#[107]⟩, .int .i64 g, .slice a9 qs.length c9] Z _ rfl rfl hbox (by kernel_rfl) hZ (by simp [Value.oneCell']) ?_
          intro y' hb' hg'
          have hR : SE wr.heap.size 13 13 y y' := SE_at hb hbox hb' rfl hg'
          exact ⟨⟨SE_to hle hR hy.ext, SE_old hR hsz hy.box, SE_rows hR hy.rows, Nat.le_trans hy.size (SE_size hR)⟩, hR, b12, _, rfl, hb'⟩
        clear h6 hC6 hG6
        simp only [Act.put, List.setIfInBounds_toArray, List.set_cons_zero, List.set_cons_succ]
        refine relE_quiet rfl rfl rfl rfl ?_; intro K hK; go_big_quiet_op; (first | refine ⟨_, fun _ _ => rfl, hK _ ?_⟩ | refine hK _ ?_); clear hK K
        refine relE_nil fun w9 hC hG => ?_
        obtain ⟨v8, q8, e8, hrows9, hmap9⟩ := (hG 8).1.1.2 rfl
        obtain ⟨b13, Z13, e13, hbox13⟩ := (hG 13).2 rfl
        have e13' : [Value.pointer (some ⟨b12, 0, none⟩), Value.agg #[.string ⟨#[107]⟩, .int .i64 g, .slice a9 qs.length c9]] = [.pointer (some ⟨b13, 0, none⟩), .agg Z13] := e13
        cases e13'
        cases e8
        have hE9 := hC.ext
        have hbox9 := hC.box
        have d13 := hbox13.pa (k := ⟨#[107]⟩) (g := g) (u := .slice a9 qs.length c9)
        clear hC hG e13 hbox hps hE
        by_cases hgA : g < A
        · have t3 : decide (g < A) = true := by simp; exact hgA
          go_wp2_with (((guard_target =~ wpList _ _ _ (Oper.mk none (Op.store _ (Operand.tmp 8) _) _ _ _ _ :: _) _ _); go_must (refine storeBox rfl 26 (.tmp 8) (.tmp 49) rfl (w.heap.size) _ _ _ (by rfl) (by rfl) (hbox9) (by kernel_rfl) (by rfl) (by simp [Value.oneCell']) ?_); intro w10 c10 g10))
          go_roundw
          case rel =>
            refine ⟨k + 1, _, q8, by omega, by omega, rfl, ⟨N + 1, rfl, by omega, by omega, ?_⟩, c10, hrows9.keep g10 hbox9 (by decide) (by decide), hmap9, hE9.grown g10 (fun q hq => by cases hq; omega)⟩
            show _ = gCount _ _ (k + 1)
            rw [gCount, ← HA.out, if_pos hgA, ← HN.out]
          case measure => simp [intOf]; omega
        · go_wp2_with (((guard_target =~ wpList _ _ _ (Oper.mk none (Op.store _ (Operand.tmp 8) _) _ _ _ _ :: _) _ _); go_must (refine storeBox rfl 26 (.tmp 8) (.tmp 49) rfl (w.heap.size) _ _ _ (by rfl) (by rfl) (hbox9) (by kernel_rfl) (by rfl) (by simp [Value.oneCell']) ?_); intro w10 c10 g10))
          go_roundw
          case rel =>
            refine ⟨k + 1, _, q8, by omega, by omega, rfl, ⟨N, rfl, by omega, by omega, ?_⟩, c10, hrows9.keep g10 hbox9 (by decide) (by decide), hmap9, hE9.grown g10 (fun q hq => by cases hq; omega)⟩
            show _ = gCount _ _ (k + 1)
            rw [gCount, ← HA.out, if_neg hgA, ← HN.out]
            omega
          case measure => simp [intOf]; omega
      · go_wp2_with fail
        refine (place_any now 100 (by decide) (by decide) wr).mono ?_
        rintro e w2 ⟨rfl, rfl⟩
        have hc1 : ∀ p ∈ ps, p.1.cols.length ≤ 1000000 := fun p hp => Nat.le_trans (gRows_few (gAt z) k p.1 (by rw [← HPM.out]; exact List.mem_map_of_mem hp)) (by decide)
        have hsn : ∀ t s, ((seenRs (ps.map (·.1)) g t s).length : Int) = N := fun t s => by rw [HPM.out, HN.out]; exact gRows_seen _ _ _ _ (gAt_pos z) hg0 k
        have HSN := Lib.hid hsn
        have HC := Lib.hid hc1
        clear hsn hc1
        go_wp2_with fail
        refine (pseen_any ⟨#[107]⟩ g _ ps (now % 100) true wr hps.rows (by omega) HC.out).mono ?_
        rintro e w3 ⟨v3, rfl, q3, hown3, _, hm3, hE3⟩
        have hl3 : (q3.length : Int) = N := by rw [← HSN.out (now % 100) true, ← hm3]; simp
        obtain ⟨a3, c3, rfl⟩ := own_shape hown3
        have d3 := (hbox.ext hE3).pa
        clear hm3 hown3 c0
        have hb3 : ((q3.length : Int) == N) = true := by simp [hl3]
        go_wp2_with fail
        refine (pseen_any ⟨#[107]⟩ g _ ps (now % 100) false w3 (hps.ext hE3).rows (by omega) HC.out).mono ?_
        rintro e w4 ⟨v4, rfl, q4, hown4, _, hm4, hE4⟩
        have hl4 : (q4.length : Int) = N := by rw [← HSN.out (now % 100) false, ← hm4]; simp
        obtain ⟨a4, c4, rfl⟩ := own_shape hown4
        have d4 := (hbox.ext (hE3.trans hE4)).pa
        clear hm4 hown4 d3
        have hb4 : ((q4.length : Int) == N) = true := by simp [hl4]
        go_wp2_with fail
        refine (pstamp_any ⟨#[107]⟩ g _ ps w4 ((hps.ext hE3).ext hE4).rows).mono ?_
        obtain ⟨Z, hZ⟩ : ∃ Z, Z = stampRs g (ps.map (·.1)) := ⟨_, rfl⟩
        have hgZ : g ≤ Z := by rw [hZ]; exact le_stampRs _ _
        rw [← hZ]
        clear hZ
        rintro e w5 ⟨rfl, hE5⟩
        go_wp2_with fail
        refine (awake8_any w5).mono ?_
        rintro e w6 ⟨rfl, hE6⟩
        go_wp2_with fail
        go_ret
        exact ⟨rfl, (((hE.trans hE3).trans hE4).trans hE5).trans hE6⟩
    · go_wp2_with fail
      refine (place_any now 100 (by decide) (by decide) wr).mono ?_
      rintro e w2 ⟨rfl, rfl⟩
      have hc1 : ∀ p ∈ ps, p.1.cols.length ≤ 1000000 := fun p hp => Nat.le_trans (gRows_few (gAt z) k p.1 (by rw [← HPM.out]; exact List.mem_map_of_mem hp)) (by decide)
      have hsn : ∀ t s, ((seenRs (ps.map (·.1)) g t s).length : Int) = N := fun t s => by rw [HPM.out, HN.out]; exact gRows_seen _ _ _ _ (gAt_pos z) hg0 k
      have HSN := Lib.hid hsn
      have HC := Lib.hid hc1
      clear hsn hc1
      go_wp2_with fail
      refine (pseen_any ⟨#[107]⟩ g _ ps (now % 100) true wr hps.rows (by omega) HC.out).mono ?_
      rintro e w3 ⟨v3, rfl, q3, hown3, _, hm3, hE3⟩
      have hl3 : (q3.length : Int) = N := by rw [← HSN.out (now % 100) true, ← hm3]; simp
      obtain ⟨a3, c3, rfl⟩ := own_shape hown3
      have d3 := (hbox.ext hE3).pa
      clear hm3 hown3 c0
      have hb3 : ((q3.length : Int) == N) = true := by simp [hl3]
      go_wp2_with fail
      refine (pseen_any ⟨#[107]⟩ g _ ps (now % 100) false w3 (hps.ext hE3).rows (by omega) HC.out).mono ?_
      rintro e w4 ⟨v4, rfl, q4, hown4, _, hm4, hE4⟩
      have hl4 : (q4.length : Int) = N := by rw [← HSN.out (now % 100) false, ← hm4]; simp
      obtain ⟨a4, c4, rfl⟩ := own_shape hown4
      have d4 := (hbox.ext (hE3.trans hE4)).pa
      clear hm4 hown4 d3
      have hb4 : ((q4.length : Int) == N) = true := by simp [hl4]
      go_wp2_with fail
      refine (pstamp_any ⟨#[107]⟩ g _ ps w4 ((hps.ext hE3).ext hE4).rows).mono ?_
      obtain ⟨Z, hZ⟩ : ∃ Z, Z = stampRs g (ps.map (·.1)) := ⟨_, rfl⟩
      have hgZ : g ≤ Z := by rw [hZ]; exact le_stampRs _ _
      rw [← hZ]
      clear hZ
      rintro e w5 ⟨rfl, hE5⟩
      go_wp2_with fail
      refine (awake8_any w5).mono ?_
      rintro e w6 ⟨rfl, hE6⟩
      go_wp2_with fail
      go_ret
      exact ⟨rfl, (((hE.trans hE3).trans hE4).trans hE5).trans hE6⟩
theorem walk_partGones (gone : Int) (v : Value) (now : Int) (W : World) (_ : (Lit.int .i64 gone).wf = true) (w0 : ∃ l : List Int, IntsIn W v .i64 l ∧ ∀ n ∈ l, (Lit.int .i64 n).wf = true) (_ : (Lit.int .i64 now).wf = true) :
    Calls Try.prog 3 #[.int .i64 gone, v, .int .i64 now] W fun e w' => e = .returned (.bool true) ∧ Ext W w' := by
  obtain ⟨z, hin, _⟩ := w0
  exact law_partGones v z gone now W hin
end Go.Proofs.Ytbjpfhkdlljgdaa
