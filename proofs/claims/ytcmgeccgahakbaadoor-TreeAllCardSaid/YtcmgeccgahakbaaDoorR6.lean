/- The reference of chapter 20: Check, Owners, at, Owns, Bucket. -/
import Derived.Test.YtcmgeccgahakbaaDoorR5
import Derived.Test.YtcmgeccgahakbaaDoorR1
import Derived.Test.YtcmgeccgahakbaaDoorProg
import Derived.Deep.Light
import Derived.Test.YtcmgeccgahakbaaDoorR2
set_option linter.unusedSimpArgs false
set_option linter.unusedVariables false
namespace Go.Proofs.YtcmgeccgahakbaaDoor
open Go Go.RowKit
attribute [local go_sem] yields yUpon

theorem rof_ext (s : ByteArray) (hs : s.size ≤ maxLen) (w : World) :
    Calls Tryd.prog 104 #[.string s] w fun e w' => e = .returned (.int .i64 (place1 s : Int)) ∧ Ext w w' :=
  (rof_any s hs w).mono fun e w' ⟨h1, h2⟩ => ⟨h1, h2 ▸ Ext.refl w⟩
theorem rbucket_any (key : ByteArray) (hs : key.size ≤ maxLen) (w : World) :
    Calls Tryd.prog 49 #[.string key] w fun e w' => e = .returned (.int .i64 (bucket1 key : Int)) ∧ Ext w w' := by
  have hlt := place1_lt key
  go_enter Tryd.func49, Tryd.ntmps49
  go_wp2_with (go_at_call 104; go_must (refine (rof_ext key hs _).mono ?_); rintro e w1 ⟨rfl, hE⟩)
  go_ret
  exact ⟨ret_int (by unfold bucket1; omega), hE⟩

set_option maxHeartbeats 2000000 in
theorem rcheck20_any (n c t : Int) (w : World) :
    Calls Tryd.prog 103 #[.agg #[.int .i64 n, .int .i64 c, .int .i64 t]] w fun e w' => e = .returned (.bool (confB n c t)) ∧ Ext w w' := by
  have hb := BoxAt.made w #[.int .i64 n, .int .i64 c, .int .i64 t] 67
  have c0 := hb.cell 0
  have c1 := hb.cell 1
  have c2 := hb.cell 2
  simp at c0 c1 c2
  have hE := (Ext.refl w).alloc (.cells #[.int .i64 n, .int .i64 c, .int .i64 t] 67)
  have HR : Hid (∀ q : Bool, q = confB n c t → ∀ y, Ext w y → (Ending.returned (.bool q) = .returned (.bool (confB n c t)) ∧ Ext w y)) := Lib.hid fun q h y hy => ⟨by rw [h], hy⟩
  go_enter Tryd.func103, Tryd.ntmps103
  go_wp2
  all_goals
    go_ret
    exact HR.out _ (by rw [Bool.eq_iff_iff]; simp [confB]; omega) _ hE

/-- The owners of what stands at s. -/
def ownL (n c s : Nat) : List Int := (List.range c).map fun i => (((s % n + i) % n : Nat) : Int)
theorem ownL_length (n c s : Nat) : (ownL n c s).length = c := by simp [ownL]
theorem ownL_at (n c s k : Nat) (h : k < (ownL n c s).length) : (ownL n c s)[k] = (((s % n + k) % n : Nat) : Int) := by simp [ownL]
theorem ownL_succ (n k s : Nat) : kcells .i64 (ownL n (k + 1) s) = kcells .i64 (ownL n k s) ++ [.int .i64 (((s % n + k) % n : Nat) : Int)] := by
  simp [ownL, kcells, List.range_succ]

set_option maxHeartbeats 4000000 in
theorem owners_yes (n c : Nat) (t : Int) (hc : confB n c t = true) (key : ByteArray) (hs : key.size ≤ maxLen) (w : World) :
    Calls Tryd.prog 138 #[.agg #[.int .i64 (n : Int), .int .i64 (c : Int), .int .i64 t], .string key] w fun e w' => ∃ v, (e = .returned v ∧ Ext w w') ∧ IntsIn w' v .i64 (ownL n c (place1 key)) := by
  have hc' := hc
  simp [confB] at hc'
  have b0 := BoxAt.made w #[.int .i64 (n : Int), .int .i64 (c : Int), .int .i64 t] 67
  have hE0 := (Ext.refl w).alloc (.cells #[.int .i64 (n : Int), .int .i64 (c : Int), .int .i64 t] 67)
  have x0 : (w.alloc (.cells #[.int .i64 (n : Int), .int .i64 (c : Int), .int .i64 t] 67)).cell? ⟨w.heap.size, 0, none⟩ = some (.int .i64 (n : Int)) := b0.cell 0
  have x1 : (w.alloc (.cells #[.int .i64 (n : Int), .int .i64 (c : Int), .int .i64 t] 67)).cell? ⟨w.heap.size, 1, none⟩ = some (.int .i64 (c : Int)) := b0.cell 1
  have x2 : (w.alloc (.cells #[.int .i64 (n : Int), .int .i64 (c : Int), .int .i64 t] 67)).cell? ⟨w.heap.size, 2, none⟩ = some (.int .i64 t) := b0.cell 2
  have HC := Lib.hid hc
  have hlt := place1_lt key
  obtain ⟨s, hsk⟩ : ∃ s, s = place1 key := ⟨_, rfl⟩
  have HSK := Lib.hid hsk
  rw [← hsk] at hlt ⊢
  have hn0 : ((n : Int) == 0) = false := by simp; omega
  have hr1 : Int.tmod (s : Int) (n : Int) = ((s % n : Nat) : Int) := by rw [Int.tmod_eq_emod_of_nonneg (by omega), Int.natCast_emod]
  have hsn : s % n < n := Nat.mod_lt _ (by omega)
  obtain ⟨f, hf⟩ : ∃ f, f = s % n := ⟨_, rfl⟩
  have HF := Lib.hid hf
  rw [← hf] at hr1 hsn
  clear hsk hf hc
  go_enter Tryd.func138, Tryd.ntmps138
  go_wp2_with (go_at_call 103; go_must (refine (rcheck20_any n c t _).mono ?_); rintro e w1 ⟨rfl, hE1⟩; rw [HC.out])
  have b1 := b0.ext hE1
  have hE := hE0.trans hE1
  clear b0 hE0 hE1 x0 x1 x2
  have x0 := held (show w1.cell? ⟨w.heap.size, 0, none⟩ = some (.int .i64 (n : Int)) from b1.cell 0)
  refine wp_region_tab 5 [(1, fun v _ => v = .int .i64 (s : Int))] (by kernel_rfl) (by kernel_rfl) (by kernel_rfl) ⟨stays_eq _, trivial⟩ ?_
  refine rg_quiet rfl rfl rfl rfl ?_; intro K hK; go_big_quiet_op; go_big_quiet_on
  refine rg_val [] rfl rfl rfl (by kernel_rfl) (fun w1 hE hf => ?_) ?_
  · go_simp
    exact ((HSK.out ▸ rof_ext key hs _)).mono fun e w' ⟨he, hw⟩ => ⟨_, he, rg_done hE hw (rfl)⟩
  simp only [Act.put, List.setIfInBounds_toArray, List.set_cons_zero, List.set_cons_succ]
  refine rg_quiet rfl rfl rfl rfl ?_; intro K hK; go_big_quiet_op; go_big_quiet_on
  refine rg_quiet rfl rfl rfl rfl ?_; intro K hK; go_big_quiet_op; go_big_quiet_on
  refine rg_quiet rfl rfl rfl rfl ?_; intro K hK; go_big_quiet_op; go_big_quiet_on
  clear x0
  refine rel_tail rfl rfl fun w2 hE2 _ => ?_
  replace b1 := b1.ext hE2
  replace hE := hE.trans hE2
  clear hE2
  have y0 : w2.cell? ⟨w.heap.size, 0, none⟩ = some (.int .i64 (n : Int)) := b1.cell 0
  have y1 : w2.cell? ⟨w.heap.size, 1, none⟩ = some (.int .i64 (c : Int)) := b1.cell 1
  go_wp2
  go_loopw [5, 7] (fun vb i wr => ∃ k : Nat, k ≤ c ∧ i = .int .i64 k ∧ Ext w2 wr ∧ wr.ownsRow w2.heap.size 3 1 vb k (kcells .i64 (ownL n k s))) (fun _ i _ => c - (intOf i).toNat)
  case atStart => exact ⟨0, Nat.zero_le _, rfl, Ext.refl w2, World.ownsRow_nil _ _ _ _⟩
  case round =>
    obtain ⟨k, hk, rfl, hE2, hown⟩ := hrel
    replace y0 := hE2.cell y0
    replace y1 := hE2.cell y1
    by_cases hkc : k < c
    · have hr2 : Int.tmod ((f : Int) + (k : Int)) (n : Int) = (((f + k) % n : Nat) : Int) := by rw [Int.tmod_eq_emod_of_nonneg (by omega), Int.natCast_emod, Int.natCast_add]
      have HS := ownL_succ n k s
      rw [← HF.out] at HS
      have HSX := Lib.hid HS
      clear HS
      go_wp2_with (at_builtin; go_must (refine appR info_intX und_intsX rfl (by decide) wr rfl (.tmp 22) (.tmp 29) rfl w2.heap.size hE2.le _ k _ hown (by rfl) 1 _ (by rfl) (by rfl) (by simp [Value.oneCell']) (by unfold maxLen; omega) (by omega) ?_); intro v8 w8 ho8 hg8)
      have hE8 := (hE2.alloc (.cells #[.int .i64 (((f + k) % n : Nat) : Int)] 3)).grown hg8 (fun k hk => (hown.lt k hk).1)
      go_roundw
      case rel => exact ⟨k + 1, hkc, by go_num, hE8, by rw [HSX.out]; exact ho8⟩
      case measure => simp [intOf]; omega
    · obtain rfl : k = c := by omega
      go_wp2
      go_ret
      refine ⟨_, ⟨rfl, hE.trans hE2⟩, ?_⟩
      have h := SliceIn.of_owns hown
      unfold IntsIn
      rw [ownL_length]
      exact h
end Go.Proofs.YtcmgeccgahakbaaDoor

/- The reference of chapter 20: at, Owns; of chapter 23: both. -/
namespace Go.Proofs.YtcmgeccgahakbaaDoor
open Go Go.RowKit
attribute [local go_sem] yields yUpon

set_option maxHeartbeats 4000000 in
theorem at20_yes (n c : Nat) (t : Int) (hc : confB n c t = true) (key : ByteArray) (hs : key.size ≤ maxLen) (x : Int) (w : World) :
    Calls Tryd.prog 107 #[.agg #[.int .i64 (n : Int), .int .i64 (c : Int), .int .i64 t], .string key, .int .i64 x] w fun e w' => ∃ i : Int, (e = .returned (.int .i64 i) ∧ Ext w w') ∧ decide (0 ≤ i) = ownN n c (place1 key) x := by
  have hc' := hc
  simp [confB] at hc'
  have b0 := BoxAt.made w #[.int .i64 (n : Int), .int .i64 (c : Int), .int .i64 t] 67
  have hE0 := (Ext.refl w).alloc (.cells #[.int .i64 (n : Int), .int .i64 (c : Int), .int .i64 t] 67)
  have x0 : (w.alloc (.cells #[.int .i64 (n : Int), .int .i64 (c : Int), .int .i64 t] 67)).cell? ⟨w.heap.size, 0, none⟩ = some (.int .i64 (n : Int)) := b0.cell 0
  have x1 : (w.alloc (.cells #[.int .i64 (n : Int), .int .i64 (c : Int), .int .i64 t] 67)).cell? ⟨w.heap.size, 1, none⟩ = some (.int .i64 (c : Int)) := b0.cell 1
  have x2 : (w.alloc (.cells #[.int .i64 (n : Int), .int .i64 (c : Int), .int .i64 t] 67)).cell? ⟨w.heap.size, 2, none⟩ = some (.int .i64 t) := b0.cell 2
  have HC := Lib.hid hc
  obtain ⟨s, hsk⟩ : ∃ s, s = place1 key := ⟨_, rfl⟩
  have HSK := Lib.hid hsk
  rw [← hsk]
  clear hsk hc
  go_enter Tryd.func107, Tryd.ntmps107
  go_wp2_with (go_at_call 138; go_must (refine (owners_yes n c t HC.out key hs _).mono ?_); rintro e w1 ⟨v, ⟨rfl, hE1⟩, ho⟩; rw [← HSK.out] at ho; obtain ⟨a, cc, rfl, hcc, hcm, hcell⟩ := ho.getX; rw [ownL_length] at hcc ⊢; have HL := Lib.hid hcell; clear hcell ho)
  go_loop [8] (fun i => ∃ k : Nat, k ≤ c ∧ i = .int .i64 k ∧ Hid (∀ j, j < k → (((s % n + j) % n : Nat) : Int) ≠ x)) (fun i => c - (intOf i).toNat)
  case atStart => exact ⟨0, Nat.zero_le _, rfl, Lib.hid (fun j hj => absurd hj (Nat.not_lt_zero _))⟩
  case round =>
    obtain ⟨k, hk, rfl, HN⟩ := hrel
    by_cases hkc : k < c
    · obtain ⟨b, o', rfl, z⟩ := HL.out k (by rw [ownL_length]; exact hkc)
      rw [ownL_at] at z
      obtain ⟨o, ho⟩ : ∃ o, o = (s % n + k) % n := ⟨_, rfl⟩
      have HO := Lib.hid ho
      rw [← ho] at z
      clear ho
      by_cases hox : (o : Int) = x
      · have hR := ownN_yes (s := s) (x := x) (n := n) hkc (by rw [← HO.out]; exact hox)
        have HR := Lib.hid hR
        clear hR
        subst hox
        go_wp2
        go_ret
        exact ⟨k, ⟨rfl, hE0.trans hE1⟩, by rw [HR.out]; simp⟩
      · have HN2 : Hid (∀ j, j < k + 1 → (((s % n + j) % n : Nat) : Int) ≠ x) := Lib.hid (fun j hj => by
          by_cases hjk : j = k
          · exact fun h => hox (by rw [HO.out, ← hjk]; exact h)
          · exact HN.out j (by omega))
        go_wp2
        go_round
        case rel => exact ⟨k + 1, hkc, by go_num, HN2⟩
        case measure => simp [intOf]; omega
    · obtain rfl : k = c := by omega
      have HR := Lib.hid (ownN_no HN.out)
      go_wp2
      go_ret
      exact ⟨-1, ⟨rfl, hE0.trans hE1⟩, by rw [HR.out]; rfl⟩

theorem owns20_yes (n c : Nat) (t : Int) (hc : confB n c t = true) (key : ByteArray) (hs : key.size ≤ maxLen) (x : Int) (w : World) :
    Calls Tryd.prog 48 #[.agg #[.int .i64 (n : Int), .int .i64 (c : Int), .int .i64 t], .string key, .int .i64 x] w fun e w' => e = .returned (.bool (ownN n c (place1 key) x)) ∧ Ext w w' := by
  have b0 := BoxAt.made w #[.int .i64 (n : Int), .int .i64 (c : Int), .int .i64 t] 67
  have x0 : (w.alloc (.cells #[.int .i64 (n : Int), .int .i64 (c : Int), .int .i64 t] 67)).cell? ⟨w.heap.size, 0, none⟩ = some (.int .i64 (n : Int)) := b0.cell 0
  have x1 : (w.alloc (.cells #[.int .i64 (n : Int), .int .i64 (c : Int), .int .i64 t] 67)).cell? ⟨w.heap.size, 1, none⟩ = some (.int .i64 (c : Int)) := b0.cell 1
  have x2 : (w.alloc (.cells #[.int .i64 (n : Int), .int .i64 (c : Int), .int .i64 t] 67)).cell? ⟨w.heap.size, 2, none⟩ = some (.int .i64 t) := b0.cell 2
  have HC := Lib.hid hc
  clear hc
  go_enter Tryd.func48, Tryd.ntmps48
  go_wp2_with (go_at_call 107; go_must (refine (at20_yes n c t HC.out key hs x _).mono ?_); rintro e w1 ⟨i, ⟨rfl, hE1⟩, hi⟩)
  go_ret
  exact ⟨by rw [← hi]; rfl, ((Ext.refl w).alloc _).trans hE1⟩
theorem both23_yes (n c : Nat) (t : Int) (hc : confB n c t = true) (key : ByteArray) (hs : key.size ≤ maxLen) (x y : Int) (w : World) :
    Calls Tryd.prog 99 #[.agg #[.int .i64 (n : Int), .int .i64 (c : Int), .int .i64 t], .string key, .int .i64 x, .int .i64 y] w fun e w' => e = .returned (.bool (ownN n c (place1 key) x && ownN n c (place1 key) y)) ∧ Ext w w' := by
  have b0 := BoxAt.made w #[.int .i64 (n : Int), .int .i64 (c : Int), .int .i64 t] 67
  have x0 : (w.alloc (.cells #[.int .i64 (n : Int), .int .i64 (c : Int), .int .i64 t] 67)).cell? ⟨w.heap.size, 0, none⟩ = some (.int .i64 (n : Int)) := b0.cell 0
  have x1 : (w.alloc (.cells #[.int .i64 (n : Int), .int .i64 (c : Int), .int .i64 t] 67)).cell? ⟨w.heap.size, 1, none⟩ = some (.int .i64 (c : Int)) := b0.cell 1
  have x2 : (w.alloc (.cells #[.int .i64 (n : Int), .int .i64 (c : Int), .int .i64 t] 67)).cell? ⟨w.heap.size, 2, none⟩ = some (.int .i64 t) := b0.cell 2
  have HC := Lib.hid hc
  obtain ⟨A, hA⟩ : ∃ A, A = ownN n c (place1 key) x := ⟨_, rfl⟩
  obtain ⟨B, hB⟩ : ∃ B, B = ownN n c (place1 key) y := ⟨_, rfl⟩
  have HX := Lib.hid hA
  have HY := Lib.hid hB
  rw [← hA, ← hB]
  clear hc hA hB
  go_enter Tryd.func99, Tryd.ntmps99
  go_wp2_with (first
    | (go_at_call 48; have q := hX1; go_must (refine (owns20_yes n c t HC.out key hs y _).mono ?_); rintro e w2 ⟨rfl, hE2⟩; rw [← HY.out]; replace hX1 := hX1.trans hE2)
    | (go_at_call 48; go_must (refine (owns20_yes n c t HC.out key hs x _).mono ?_); rintro e w1 ⟨rfl, hE1⟩; rw [← HX.out]; have hX1 := ((Ext.refl w).alloc _).trans hE1; have b1 := b0.ext hE1; have x0 : w1.cell? ⟨w.heap.size, 0, none⟩ = some (.int .i64 (n : Int)) := b1.cell 0; have x1 : w1.cell? ⟨w.heap.size, 1, none⟩ = some (.int .i64 (c : Int)) := b1.cell 1; have x2 : w1.cell? ⟨w.heap.size, 2, none⟩ = some (.int .i64 t) := b1.cell 2; cases A))
  all_goals
    go_ret
    exact ⟨rfl, hX1⟩
end Go.Proofs.YtcmgeccgahakbaaDoor

/- Cells as one thing (plain data; how they lie in memory). -/
namespace Go.Proofs.YtcmgeccgahakbaaDoor
open Go Go.RowKit

structure Cl where
  val : ByteArray
  dead : Bool
  at_ : Int
  fin : Int
@[simp] theorem Cl.eta (c : Cl) : Cl.mk c.val c.dead c.at_ c.fin = c := rfl
def clCells : List Cl → List Value
  | [] => []
  | c :: l => .string c.val :: .bool c.dead :: .int .i64 c.at_ :: .int .i64 c.fin :: clCells l
theorem clCells_length (l : List Cl) : (clCells l).length = l.length * 4 := by
  induction l with
  | nil => rfl
  | cons c l ih => simp [clCells, ih]; omega
theorem clCells_get : ∀ (l : List Cl) (k : Nat) (h : k < l.length), (clCells l)[k * 4]? = some (.string l[k].val) ∧ (clCells l)[k * 4 + 1]? = some (.bool l[k].dead) ∧ (clCells l)[k * 4 + 2]? = some (.int .i64 l[k].at_) ∧ (clCells l)[k * 4 + 3]? = some (.int .i64 l[k].fin)
  | c :: l, 0, _ => by simp [clCells]
  | c :: l, k + 1, h => by
    have ih := clCells_get l k (by simpa using h)
    have e : (k + 1) * 4 = k * 4 + 4 := by omega
    simp only [e, clCells, List.getElem_cons_succ]
    exact ⟨by simpa using ih.1, by simpa using ih.2.1, by simpa using ih.2.2.1, by simpa using ih.2.2.2⟩
def ClsIn (w : World) (v : Value) (l : List Cl) : Prop := SliceIn w v l.length (clCells l)
theorem ClsIn.ext {w w' : World} (hE : Ext w w') {v : Value} {l : List Cl} (h : ClsIn w v l) : ClsIn w' v l := SliceIn.ext hE h
/-- A cell in memory. -/
structure CellAt (w : World) (b : Nat) (c : Cl) : Prop where
  c0 : w.cell? ⟨b, 0, none⟩ = some (.string c.val)
  c1 : w.cell? ⟨b, 1, none⟩ = some (.bool c.dead)
  c2 : w.cell? ⟨b, 2, none⟩ = some (.int .i64 c.at_)
  c3 : w.cell? ⟨b, 3, none⟩ = some (.int .i64 c.fin)
theorem CellAt.ext {w w' : World} (hE : Ext w w') {b : Nat} {c : Cl} (h : CellAt w b c) : CellAt w' b c := ⟨hE.cell h.c0, hE.cell h.c1, hE.cell h.c2, hE.cell h.c3⟩
theorem agg_congr {x y : Cl} (h : x = y) : ((.agg #[.string x.val, .bool x.dead, .int .i64 x.at_, .int .i64 x.fin]) : Value) = (.agg #[.string y.val, .bool y.dead, .int .i64 y.at_, .int .i64 y.fin]) := by rw [h]
theorem bool_congr {x y : Bool} (h : x = y) : Value.bool x = Value.bool y := by rw [h]
theorem int_congr {x y : Int} (h : x = y) : Value.int .i64 x = Value.int .i64 y := by rw [h]
def seenB (d : Bool) (a e now : Int) : Bool := decide (0 < a) && !d && (e == 0 || decide (now < e))
def stampB (v : Int) : Bool := decide (0 ≤ v) && decide (v ≤ 1099511627776)
def checkC (v : ByteArray) (d : Bool) (a e : Int) : Bool :=
  stampB a && stampB e && (if a = 0 then v.toList == [] && !d && e == 0 else if d then v.toList == [] && e == 0 else decide (v.size ≤ 100))

end Go.Proofs.YtcmgeccgahakbaaDoor

/- Rows and columns as plain data; how they lie in memory. -/
namespace Go.Proofs.YtcmgeccgahakbaaDoor
open Go Go.RowKit

structure Co where
  name : ByteArray
  cell : Cl
structure Ro where
  key : ByteArray
  live : Cl
  gone : Int
  shade : Int
  cols : List Co
@[simp] theorem Co.eta (c : Co) : Co.mk c.name c.cell = c := rfl
def zeroCl : Cl := ⟨⟨#[]⟩, false, 0, 0⟩
def coCells : List Co → List Value
  | [] => []
  | c :: l => .string c.name :: .string c.cell.val :: .bool c.cell.dead :: .int .i64 c.cell.at_ :: .int .i64 c.cell.fin :: coCells l
theorem coCells_length (l : List Co) : (coCells l).length = l.length * 5 := by
  induction l with
  | nil => rfl
  | cons c l ih => simp [coCells, ih]; omega
theorem coCells_append (l m : List Co) : coCells (l ++ m) = coCells l ++ coCells m := by
  induction l with
  | nil => rfl
  | cons c l ih => simp [coCells, ih]
theorem coCells_get : ∀ (l : List Co) (k : Nat) (h : k < l.length), (coCells l)[k * 5]? = some (.string l[k].name) ∧ (coCells l)[k * 5 + 1]? = some (.string l[k].cell.val) ∧ (coCells l)[k * 5 + 2]? = some (.bool l[k].cell.dead) ∧ (coCells l)[k * 5 + 3]? = some (.int .i64 l[k].cell.at_) ∧ (coCells l)[k * 5 + 4]? = some (.int .i64 l[k].cell.fin)
  | c :: l, 0, _ => by simp [coCells]
  | c :: l, k + 1, h => by
    have ih := coCells_get l k (by simpa using h)
    have e : (k + 1) * 5 = k * 5 + 5 := by omega
    simp only [e, coCells, List.getElem_cons_succ]
    exact ⟨by simpa using ih.1, by simpa using ih.2.1, by simpa using ih.2.2.1, by simpa using ih.2.2.2.1, by simpa using ih.2.2.2.2⟩
def ColsIn (w : World) (v : Value) (l : List Co) : Prop := SliceIn w v l.length (coCells l)
theorem ColsIn.ext {w w' : World} (hE : Ext w w') {v : Value} {l : List Co} (h : ColsIn w v l) : ColsIn w' v l := SliceIn.ext hE h
theorem ColsIn.nil (w : World) : ColsIn w (.slice none 0 0) [] := SliceIn.nil w
/-- A column at a place in memory. -/
structure CoAt (w : World) (b o : Nat) (c : Co) : Prop where
  c0 : w.cell? ⟨b, o, none⟩ = some (.string c.name)
  c1 : w.cell? ⟨b, o + 1, none⟩ = some (.string c.cell.val)
  c2 : w.cell? ⟨b, o + 2, none⟩ = some (.bool c.cell.dead)
  c3 : w.cell? ⟨b, o + 3, none⟩ = some (.int .i64 c.cell.at_)
  c4 : w.cell? ⟨b, o + 4, none⟩ = some (.int .i64 c.cell.fin)
theorem CoAt.ext {w w' : World} (hE : Ext w w') {b o : Nat} {c : Co} (h : CoAt w b o c) : CoAt w' b o c := ⟨hE.cell h.c0, hE.cell h.c1, hE.cell h.c2, hE.cell h.c3, hE.cell h.c4⟩
theorem ColsIn.get {w : World} {v : Value} {l : List Co} (h : ColsIn w v l) : ∃ a c, v = .slice a l.length c ∧ l.length ≤ c ∧ c ≤ 9223372036854775807 ∧ ∀ k (hk : k < l.length), ∃ b o, a = some ⟨b, o, none⟩ ∧ CoAt w b (o + k * 5) l[k] := by
  obtain ⟨a, c, rfl, hc, hcm, ha, hcell⟩ := h
  unfold maxLen at hcm
  refine ⟨a, c, rfl, hc, by omega, fun k hk => ?_⟩
  obtain ⟨g0, g1, g2, g3, g4⟩ := coCells_get l k hk
  obtain ⟨b, o, rfl, h0⟩ := hcell _ _ g0
  obtain ⟨b1, o1, e1, h1⟩ := hcell _ _ g1
  obtain ⟨b2, o2, e2, h2⟩ := hcell _ _ g2
  obtain ⟨b3, o3, e3, h3⟩ := hcell _ _ g3
  obtain ⟨b4, o4, e4, h4⟩ := hcell _ _ g4
  cases e1; cases e2; cases e3; cases e4
  exact ⟨b, o, rfl, h0, h1, h2, h3, h4⟩
def cl4 (c : Cl) : Array Value := #[.string c.val, .bool c.dead, .int .i64 c.at_, .int .i64 c.fin]
theorem BoxAt.cl {w : World} {p : Nat} {c : Cl} {T : TypeId} (h : BoxAt w p (cl4 c) T) : w.cell? ⟨p, 0, none⟩ = some (.string c.val) ∧ w.cell? ⟨p, 1, none⟩ = some (.bool c.dead) ∧ w.cell? ⟨p, 2, none⟩ = some (.int .i64 c.at_) ∧ w.cell? ⟨p, 3, none⟩ = some (.int .i64 c.fin) :=
  ⟨h.cell 0, h.cell 1, h.cell 2, h.cell 3⟩
theorem BoxAt.put4 {w : World} {p : Nat} {c d : Cl} {T : TypeId} (h : BoxAt w p (cl4 c) T) : BoxAt ((((w.setCell ⟨p, 0, none⟩ (.string d.val)).setCell ⟨p, 1, none⟩ (.bool d.dead)).setCell ⟨p, 2, none⟩ (.int .i64 d.at_)).setCell ⟨p, 3, none⟩ (.int .i64 d.fin)) p (cl4 d) T :=
  (((h.set 0 _).set 1 _).set 2 _).set 3 _
theorem Ext.put4 {a w : World} (h : Ext a w) {p : Nat} (hp : a.heap.size ≤ p) {v0 v1 v2 v3 : Value} : Ext a ((((w.setCell ⟨p, 0, none⟩ v0).setCell ⟨p, 1, none⟩ v1).setCell ⟨p, 2, none⟩ v2).setCell ⟨p, 3, none⟩ v3) :=
  (((h.setCell hp _).setCell hp _).setCell hp _).setCell hp _

/-- A column's cell. -/
def cellOf : List Co → ByteArray → Cl
  | [], _ => zeroCl
  | c :: l, n => if c.name.toList == n.toList then c.cell else cellOf l n

def ro8 (r : Ro) (v : Value) : Array Value := #[.string r.key, .string r.live.val, .bool r.live.dead, .int .i64 r.live.at_, .int .i64 r.live.fin, .int .i64 r.gone, .int .i64 r.shade, v]
theorem BoxAt.ro {w : World} {p : Nat} {r : Ro} {v : Value} {T : TypeId} (h : BoxAt w p (ro8 r v) T) : w.cell? ⟨p, 0, none⟩ = some (.string r.key) ∧ w.cell? ⟨p, 1, none⟩ = some (.string r.live.val) ∧ w.cell? ⟨p, 2, none⟩ = some (.bool r.live.dead) ∧ w.cell? ⟨p, 3, none⟩ = some (.int .i64 r.live.at_) ∧ w.cell? ⟨p, 4, none⟩ = some (.int .i64 r.live.fin) ∧ w.cell? ⟨p, 5, none⟩ = some (.int .i64 r.gone) ∧ w.cell? ⟨p, 6, none⟩ = some (.int .i64 r.shade) ∧ w.cell? ⟨p, 7, none⟩ = some v :=
  ⟨h.cell 0, h.cell 1, h.cell 2, h.cell 3, h.cell 4, h.cell 5, h.cell 6, h.cell 7⟩

def pa3 (k : ByteArray) (g : Int) (u : Value) : Array Value := #[.string k, .int .i64 g, u]
theorem BoxAt.pa {w : World} {p : Nat} {k : ByteArray} {g : Int} {u : Value} {T : TypeId} (h : BoxAt w p (pa3 k g u) T) : w.cell? ⟨p, 0, none⟩ = some (.string k) ∧ w.cell? ⟨p, 1, none⟩ = some (.int .i64 g) ∧ w.cell? ⟨p, 2, none⟩ = some u := ⟨h.cell 0, h.cell 1, h.cell 2⟩

theorem info_Col : (Tryd.prog.info? 154).map (fun i => (i.zero, i.size, i.bytes)) = some (some (.agg #[.string ⟨#[]⟩, .string ⟨#[]⟩, .bool false, .int .i64 0, .int .i64 0]), 5, 56) := by kernel_rfl
theorem und_Cols : Tryd.prog.underlying 89 = some (.slice 154) := by kernel_rfl
def co5 (c : Co) : Array Value := #[.string c.name, .string c.cell.val, .bool c.cell.dead, .int .i64 c.cell.at_, .int .i64 c.cell.fin]
theorem BoxAt.co {w : World} {p : Nat} {c : Co} {T : TypeId} (h : BoxAt w p (co5 c) T) : w.cell? ⟨p, 0, none⟩ = some (.string c.name) ∧ w.cell? ⟨p, 1, none⟩ = some (.string c.cell.val) ∧ w.cell? ⟨p, 2, none⟩ = some (.bool c.cell.dead) ∧ w.cell? ⟨p, 3, none⟩ = some (.int .i64 c.cell.at_) ∧ w.cell? ⟨p, 4, none⟩ = some (.int .i64 c.cell.fin) :=
  ⟨h.cell 0, h.cell 1, h.cell 2, h.cell 3, h.cell 4⟩
theorem ownsRow_lenOf {w : World} {B : Nat} {e : TypeId} {size : Nat} {v : Value} {n : Nat} {xs : List Value} (h : w.ownsRow B e size v n xs) : lenOf v = n := by
  rcases h.2 with ⟨rfl, rfl⟩ | ⟨g, cap, cur, rfl, _⟩ <;> rfl

end Go.Proofs.YtcmgeccgahakbaaDoor
