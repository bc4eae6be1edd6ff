/- delta.rise: rows that rise already stay as they are (slices.SortStableFunc of at most 19). -/
import Derived.Test.YtolkhjdododdaaaGreatP25
import Derived.Test.YtolkhjdododdaaaGreatP31
import Derived.Test.YtolkhjdododdaaaGreatP15
import Derived.Test.YtolkhjdododdaaaGreatP11
import Derived.Test.YtolkhjdododdaaaGreatP14
import Derived.Test.YtolkhjdododdaaaGreatP30
set_option linter.unusedSimpArgs false
set_option linter.unusedVariables false
namespace Go.Proofs.YtolkhjdododdaaaGreat
open Go Go.RowKit
attribute [local go_sem] yields yUpon ro8

set_option maxHeartbeats 1000000 in
theorem rise1_any (a b : Ro) (va vb : Value) (w : World) : Calls Tryz.prog 54 #[(.agg #[.string a.key, .string a.live.val, .bool a.live.dead, .int .i64 a.live.at_, .int .i64 a.live.fin, .int .i64 a.gone, .int .i64 a.shade, va]), (.agg #[.string b.key, .string b.live.val, .bool b.live.dead, .int .i64 b.live.at_, .int .i64 b.live.fin, .int .i64 b.gone, .int .i64 b.shade, vb])] w fun e w' => e = .returned (.int .i64 (keyR a b)) ∧ Ext w w' := by
  go_enter Tryz.func54, Tryz.ntmps54
  go_wp2_with fail
  refine (strCompare_any _ _ _).mono ?_
  rintro e w1 ⟨rfl, rfl⟩
  go_wp2_with fail
  go_ret
  exact ⟨rfl, ((Ext.refl w).alloc _).alloc _⟩

set_option maxRecDepth 100000 in
set_option maxHeartbeats 4000000 in
theorem insSort_up (v : Value) (ps : List (Ro × Value)) (w : World) (hin : RowsIn w v ps) (hup : ∀ (k : Nat) (h : k + 1 < ps.length), ¬ keyR (ps[k + 1]).1 (ps[k]).1 < 0) :
    Calls Tryz.prog 92 #[v, .int .i64 0, .int .i64 (ps.length : Int), .func (.func 54) #[] #[]] w fun e w' => e = .returned (.tuple #[]) ∧ Ext w w' := by
  obtain ⟨aa, ca, rfl, hca, hcma, hget⟩ := hin.get
  obtain ⟨n, hn⟩ : ∃ n, n = ps.length := ⟨_, rfl⟩
  rw [← hn] at hca ⊢
  have HN := Lib.hid hn
  have HG := Lib.hid hget
  have HU := Lib.hid hup
  clear hn hget hup hin
  go_enter Tryz.func92, Tryz.ntmps92
  go_wp2_with fail
  go_loopw [8] (fun i wr => ∃ k : Nat, 1 ≤ k ∧ i = .int .i64 (k : Int) ∧ Ext w wr ∧ (k ≤ n ∨ k = 1)) (fun i _ => n + 1 - (intOf i).toNat)
  case atStart => exact ⟨1, Nat.le_refl _, rfl, Ext.refl w, .inr rfl⟩
  case round =>
    obtain ⟨k, hk1, rfl, hE, hk⟩ := hrel
    by_cases hlt : k < n
    · obtain ⟨j, rfl⟩ : ∃ j, k = j + 1 := ⟨k - 1, by omega⟩
      have hj1 : j + 1 < ps.length := by rw [← HN.out]; exact hlt
      obtain ⟨b, o, e1, hat1⟩ := HG.out (j + 1) hj1
      obtain ⟨b', o', e2, hat0⟩ := HG.out j (by omega)
      cases e1
      cases e2
      have hup := HU.out j hj1
      obtain ⟨A, hA⟩ : ∃ A, A = (ps[j + 1]).1 := ⟨_, rfl⟩
      obtain ⟨B, hB⟩ : ∃ B, B = (ps[j]).1 := ⟨_, rfl⟩
      obtain ⟨va, hva⟩ : ∃ A, A = (ps[j + 1]).2 := ⟨_, rfl⟩
      obtain ⟨vb, hvb⟩ : ∃ B, B = (ps[j]).2 := ⟨_, rfl⟩
      rw [← hA, ← hva] at hat1
      rw [← hB, ← hvb] at hat0
      rw [← hA, ← hB] at hup
      clear hA hB hva hvb
      have hc : decide (keyR A B < 0) = false := by simpa using hup
      have HK := Lib.hid (fun y => rise1_any A B va vb y)
      obtain ⟨c, hcc⟩ : ∃ c, c = keyR A B := ⟨_, rfl⟩
      rw [← hcc] at hc
      have HC := Lib.hid hcc
      clear hcc hup
      have t1 : decide (((j : Int) + 1) < (n : Int)) = true := decide_eq_true (by omega)
      obtain ⟨wo, rfl⟩ : ∃ w', w' = wr := ⟨_, rfl⟩
      go_wp2_with fail
      go_loopw [9] (fun i wr => i = .int .i64 ((j : Int) + 1) ∧ Ext w wr) (fun _ _ => 0)
      case atStart => exact ⟨rfl, hE⟩
      case round =>
        obtain ⟨rfl, hE2⟩ := hrel
        obtain ⟨x0, x1, x2, x3, x4, x5, x6, x7⟩ := hat1.ext hE2
        obtain ⟨y0, y1, y2, y3, y4, y5, y6, y7⟩ := hat0.ext hE2
        have t2 : decide ((0 : Int) < (j : Int) + 1) = true := decide_eq_true (by omega)
        go_wp2_with fail
        refine wp_region_tab 17 [(14, fun v _ => v = .int .i64 c)] (by kernel_rfl) (by kernel_rfl) (by kernel_rfl) ⟨stays_eq _, trivial⟩ ?_
        replace x0 := held x0
        replace x1 := held x1
        replace x2 := held x2
        replace x3 := held x3
        replace x4 := held x4
        replace x5 := held x5
        replace x6 := held x6
        replace x7 := held x7
        replace y0 := held y0
        replace y1 := held y1
        replace y2 := held y2
        replace y3 := held y3
        replace y4 := held y4
        replace y5 := held y5
        replace y6 := held y6
        replace y7 := held y7
        refine rg_quiet rfl rfl rfl rfl ?_; intro K hK; go_big_quiet_op; go_big_quiet_on
        refine rg_quiet rfl rfl rfl rfl ?_; intro K hK; go_big_quiet_op; go_big_quiet_on
        refine rg_quiet rfl rfl rfl rfl ?_; intro K hK; go_big_quiet_op; go_big_quiet_on
        refine rg_quiet rfl rfl rfl rfl ?_; intro K hK; go_big_quiet_op; go_big_quiet_on
        refine rg_quiet rfl rfl rfl rfl ?_; intro K hK; go_big_quiet_op; go_big_quiet_on
        refine rg_quiet rfl rfl rfl rfl ?_; intro K hK; go_big_quiet_op; go_big_quiet_on
        refine rg_quiet rfl rfl rfl rfl ?_; intro K hK; go_big_quiet_op; go_big_quiet_on
        refine rg_quiet rfl rfl rfl rfl ?_; intro K hK; go_big_quiet_op; go_big_quiet_on
        refine rg_quiet rfl rfl rfl rfl ?_; intro K hK; go_big_quiet_op; go_big_quiet_on
        refine rg_quiet rfl rfl rfl rfl ?_; intro K hK; go_big_quiet_op; go_big_quiet_on
        refine rg_quiet rfl rfl rfl rfl ?_; intro K hK; go_big_quiet_op; go_big_quiet_on
        refine rg_quiet rfl rfl rfl rfl ?_; intro K hK; go_big_quiet_op; go_big_quiet_on
        refine rg_quiet rfl rfl rfl rfl ?_; intro K hK; go_big_quiet_op; go_big_quiet_on
        refine rg_quiet rfl rfl rfl rfl ?_; intro K hK; go_big_quiet_op; go_big_quiet_on
        refine rg_val [] rfl rfl rfl (by kernel_rfl) (fun y hE hf => ?_) ?_
        · go_simp
          refine (HK.out y).mono ?_
          rw [← HC.out]
          exact fun e w' ⟨he, hw⟩ => ⟨_, he, rg_done hE hw rfl⟩
        simp only [Act.put, List.setIfInBounds_toArray, List.set_cons_zero, List.set_cons_succ]
        refine rg_quiet rfl rfl rfl rfl ?_; intro K hK; go_big_quiet_op; go_big_quiet_on
        refine rg_quiet rfl rfl rfl rfl ?_; intro K hK; go_big_quiet_op; go_big_quiet_on
        refine rel_nil fun w5 hE5 _ => ?_
        clear x0 x1 x2 x3 x4 x5 x6 x7 y0 y1 y2 y3 y4 y5 y6 y7
        go_wp2_with fail
        go_roundw
        case rel => exact ⟨j + 2, by omega, by go_num, hE2.trans hE5, .inl (by omega)⟩
        case measure => simp [intOf]; omega
    · have t1 : decide ((k : Int) < (n : Int)) = false := by simp; omega
      go_wp2_with fail
      go_end0
      exact ⟨rfl, hE⟩

set_option maxRecDepth 100000 in
set_option maxHeartbeats 4000000 in
theorem stable_up (v : Value) (ps : List (Ro × Value)) (w : World) (hin : RowsIn w v ps) (hlen : ps.length ≤ 19) (hup : ∀ (k : Nat) (h : k + 1 < ps.length), ¬ keyR (ps[k + 1]).1 (ps[k]).1 < 0) :
    Calls Tryz.prog 77 #[v, .int .i64 (ps.length : Int), .func (.func 54) #[] #[]] w fun e w' => e = .returned (.tuple #[]) ∧ Ext w w' := by
  have k1 := Lib.hid (insSort_up v ps w hin hup)
  obtain ⟨aa, ca, rfl, hca, hcma, _⟩ := hin.get
  obtain ⟨n, hn⟩ : ∃ n, n = ps.length := ⟨_, rfl⟩
  rw [← hn] at hca hlen k1 ⊢
  clear hn hup hin
  go_enter Tryz.func77, Tryz.ntmps77
  go_wp2_with fail
  go_loopw [7, 8] (fun a b wr => a = .int .i64 0 ∧ b = .int .i64 20 ∧ wr = w) (fun _ _ _ => 0)
  case atStart => exact ⟨rfl, rfl, rfl⟩
  case round =>
    obtain ⟨rfl, rfl, rfl⟩ := hrel
    have t1 : decide ((20 : Int) ≤ (n : Int)) = false := by simp; omega
    go_wp2_with fail
    refine k1.out.mono ?_
    rintro e w1 ⟨rfl, hE1⟩
    go_wp2_with fail
    go_loopw [6] (fun s wq => s = .int .i64 20 ∧ Ext wr wq) (fun _ _ => 0)
    case atStart => exact ⟨rfl, hE1⟩
    case round =>
      obtain ⟨rfl, hE⟩ := hrel
      have t2 : decide ((20 : Int) < (n : Int)) = false := by simp; omega
      go_wp2_with fail
      go_end0
      exact ⟨rfl, hE⟩
set_option maxHeartbeats 1000000 in
theorem rise_any (v : Value) (ps : List (Ro × Value)) (w : World) (hin : RowsIn w v ps) (hlen : ps.length ≤ 19) (hup : ∀ (k : Nat) (h : k + 1 < ps.length), ¬ keyR (ps[k + 1]).1 (ps[k]).1 < 0) :
    Calls Tryz.prog 30 #[v] w fun e w' => e = .returned (.tuple #[]) ∧ Ext w w' := by
  have k1 := Lib.hid (stable_up v ps w hin hlen hup)
  obtain ⟨aa, ca, rfl, hca, hcma, _⟩ := hin.get
  have k2 : Hid (Calls Tryz.prog 53 #[.slice aa ps.length ca, .func (.func 54) #[] #[]] w fun e w' => e = .returned (.tuple #[]) ∧ Ext w w') := Lib.hid (by
    go_enter Tryz.func53, Tryz.ntmps53
    go_wp2_with fail
    refine k1.out.mono ?_
    rintro e w1 ⟨rfl, hE1⟩
    go_wp2_with fail
    go_end0
    exact ⟨rfl, hE1⟩)
  go_enter Tryz.func30, Tryz.ntmps30
  go_wp2_with fail
  refine k2.out.mono ?_
  rintro e w1 ⟨rfl, hE1⟩
  go_wp2_with fail
  go_end0
  exact ⟨rfl, hE1⟩
end Go.Proofs.YtolkhjdododdaaaGreat

/- delta.Orphan: what it computes as plain functions; what stays true while its loops run. -/
namespace Go.Proofs.YtolkhjdododdaaaGreat
open Go Go.RowKit

def zeroRo : Ro := ⟨⟨#[]⟩, zeroCl, 0, 0, []⟩
/-- What a view's row brings back to its base. -/
noncomputable def backL (x : Vw) (xk : ByteArray) (xg g : Int) (r b : Ro) : List Ro := if eqB (joinRo b (knownRo x xk xg r b g)) b then [] else [joinRo (knownRo x xk xg r b g) zeroRo]
noncomputable def backRs (x : Vw) (xk : ByteArray) (xg g : Int) (base : List Ro) (cof : Ro → ByteArray) (l : List Ro) : List Ro := l.flatMap fun r => backL x xk xg g r (rowOf base (cof r))
theorem backRs_snoc (x : Vw) (xk : ByteArray) (xg g : Int) (base : List Ro) (cof : Ro → ByteArray) (l : List Ro) (r : Ro) : backRs x xk xg g base cof (l ++ [r]) = backRs x xk xg g base cof l ++ backL x xk xg g r (rowOf base (cof r)) := by
  unfold backRs; rw [List.flatMap_append]; simp
/-- What of a view's rows is to be shaded. -/
def idleB (xg : Int) (r : Ro) : Bool := decide (r.live.at_ < 1) || decide (r.live.at_ ≤ r.shade) || decide (r.live.at_ ≤ max r.gone xg)
def strayB (m : Option (ByteArray × Ro)) (xk : ByteArray) : Bool := !m.isSome || !((mirK m).toList == xk.toList)
def shadeL (x : Vw) (ns : List ByteArray) (xk : ByteArray) (xg : Int) (pk : ByteArray) (pg : Int) (r b : Ro) : List Ro := if idleB xg r then [] else if strayB (mirOf x ns pk pg b) xk then [leftRo x r b pg] else []
def shadeRs (x : Vw) (ns : List ByteArray) (xk : ByteArray) (xg : Int) (pk : ByteArray) (pg : Int) (base : List Ro) (cof : Ro → ByteArray) (l : List Ro) : List Ro := l.flatMap fun r => shadeL x ns xk xg pk pg r (rowOf base (cof r))
theorem shadeRs_snoc (x : Vw) (ns : List ByteArray) (xk : ByteArray) (xg : Int) (pk : ByteArray) (pg : Int) (base : List Ro) (cof : Ro → ByteArray) (l : List Ro) (r : Ro) : shadeRs x ns xk xg pk pg base cof (l ++ [r]) = shadeRs x ns xk xg pk pg base cof l ++ shadeL x ns xk xg pk pg r (rowOf base (cof r)) := by
  unfold shadeRs; rw [List.flatMap_append]; simp

theorem joinRo_len (a b : Ro) : (joinRo a b).cols.length ≤ a.cols.length + b.cols.length := mergeCo_len _ _
theorem known_len (x : Vw) (xk : ByteArray) (xg : Int) (r b : Ro) (g : Int) : (knownRo x xk xg r b g).cols.length ≤ r.cols.length + 1 := by
  unfold knownRo
  split
  · exact joinRo_len _ _
  · exact Nat.le_succ _
theorem rowOf_cols {l : List Ro} {m : Nat} (h : ∀ r ∈ l, r.cols.length ≤ m) (key : ByteArray) : (rowOf l key).cols.length ≤ m := by
  rcases rowOf_or l key with h1 | h1
  · exact h _ h1
  · rw [h1]; exact Nat.zero_le _
theorem backL_cols {x : Vw} {xk : ByteArray} {xg g : Int} {r b q : Ro} (h : q ∈ backL x xk xg g r b) : q.cols.length ≤ r.cols.length + 1 := by
  unfold backL at h
  split at h
  · simp at h
  · rw [List.mem_singleton.1 h]
    have h1 := joinRo_len (knownRo x xk xg r b g) zeroRo
    have h2 := known_len x xk xg r b g
    have h3 : zeroRo.cols.length = 0 := rfl
    omega
theorem backL_len (x : Vw) (xk : ByteArray) (xg g : Int) (r b : Ro) : (backL x xk xg g r b).length ≤ 1 := by unfold backL; split <;> simp
theorem shadeL_len (x : Vw) (ns : List ByteArray) (xk : ByteArray) (xg : Int) (pk : ByteArray) (pg : Int) (r b : Ro) : (shadeL x ns xk xg pk pg r b).length ≤ 1 := by unfold shadeL; split <;> (try split) <;> simp
theorem flat_len {α β : Type} {f : α → List β} (h : ∀ a, (f a).length ≤ 1) (l : List α) : (l.flatMap f).length ≤ l.length := by
  induction l with
  | nil => simp
  | cons a l ih => rw [List.flatMap_cons, List.length_append, List.length_cons]; have := h a; omega
theorem backRs_len (x : Vw) (xk : ByteArray) (xg g : Int) (base : List Ro) (cof : Ro → ByteArray) (l : List Ro) : (backRs x xk xg g base cof l).length ≤ l.length := flat_len (fun _ => backL_len ..) l
theorem shadeRs_len (x : Vw) (ns : List ByteArray) (xk : ByteArray) (xg : Int) (pk : ByteArray) (pg : Int) (base : List Ro) (cof : Ro → ByteArray) (l : List Ro) : (shadeRs x ns xk xg pk pg base cof l).length ≤ l.length := flat_len (fun _ => shadeL_len ..) l
theorem backRs_cols {x : Vw} {xk : ByteArray} {xg g : Int} {base : List Ro} {cof : Ro → ByteArray} {l : List Ro} {m : Nat} (h : ∀ r ∈ l, r.cols.length ≤ m) : ∀ q ∈ backRs x xk xg g base cof l, q.cols.length ≤ m + 1 := by
  intro q hq
  obtain ⟨r, hr, hq⟩ := List.mem_flatMap.1 hq
  have := backL_cols hq
  have := h r hr
  omega
theorem merge_cols {l m : List Ro} {a b : Nat} (hl : ∀ r ∈ l, r.cols.length ≤ a) (hm : ∀ r ∈ m, r.cols.length ≤ b) : ∀ r ∈ mergeRo l m, r.cols.length ≤ a + b := by
  intro r hr
  rcases mem_mergeG hr with h | h | ⟨p, hp, q, hq, _, rfl⟩
  · exact Nat.le_trans (hl r h) (by omega)
  · exact Nat.le_trans (hm r h) (by omega)
  · have h1 := joinRo_len p q
    have := hl p hp
    have := hm q hq
    omega

/-- What stays true from round to round: w is where the function began, w0 where the loop did. -/
structure OP (w : World) (X B : Nat) (k : ByteArray) (w0 : World) (vl : Value) (L : List (Ro × Value)) (y : World) : Prop where
  ext : Ext w y
  keep : ∀ q cs T, BoxAt w0 q cs T → q ≠ X → BoxAt y q cs T
  box : BoxAt y X (pa3 k 0 vl) 39
  own : y.ownsRow B 54 8 vl L.length (roCells L)
  rows : ∀ p ∈ L, ColsT y p.2 p.1.cols
  size : B ≤ y.heap.size
section
variable {w w0 : World} {X B : Nat} {k : ByteArray} {vl : Value} {L : List (Ro × Value)}
theorem OP.ext' {y z : World} (hE : Ext y z) (h : OP w X B k w0 vl L y) : OP w X B k w0 vl L z :=
  ⟨h.ext.trans hE, fun q cs T h1 h2 => (h.keep q cs T h1 h2).ext hE, h.box.ext hE, ownsRow_ext h.own hE, fun p hp => (h.rows p hp).ext hE, Nat.le_trans h.size hE.le⟩
theorem OP.tin {y : World} (h : OP w X B k w0 vl L y) {cs : Array Value} (hx : BoxAt w0 X cs 39) {e : TypeId} (he : e ≠ 39) {v : Value} {n : Nat} {xs : List Value} (ht : TIn w0 e v n xs) : TIn y e v n xs :=
  ht.imp_right fun ⟨b, c, Z, e1, hb, h1⟩ => ⟨b, c, Z, e1, h.keep _ _ _ hb (box_ne hb hx he), h1⟩
theorem OP.rowsT {y : World} (h : OP w X B k w0 vl L y) {cs : Array Value} (hx : BoxAt w0 X cs 39) {v : Value} {qs : List (Ro × Value)} (hr : RowsT w0 v qs) : RowsT y v qs :=
  ⟨h.tin hx (by decide) hr.tin, fun p hp => h.tin hx (by decide) (hr.typed p hp)⟩
theorem OP.grow {y z : World} (h : OP w X B k w0 vl L y) (hw : w.heap.size ≤ B) (hX : X < B) (hB : w0.heap.size ≤ B) (hg : y.grownBy z vl.ownBlock) (hk : z.ownsRow B 54 8 vl L.length (roCells L)) : OP w X B k w0 vl L z := by
  have ne : ∀ b, b < B → some b ≠ vl.ownBlock := fun b hb e => by have := (h.own.lt _ e.symm).1; omega
  exact ⟨h.ext.grown hg (fun q hq => Nat.le_trans hw (h.own.lt q hq).1), fun q cs T h1 h2 => (h.keep q cs T h1 h2).grown hg (ne _ (Nat.lt_of_lt_of_le h1.lt hB)), h.box.grown hg (ne _ hX), hk, fun p hp => TIn.keepOwn h.own hg (by decide) (h.rows p hp), Nat.le_trans h.size hg.size⟩
theorem OP.put {z : World} {v' : Value} {p : Ro × Value} (h : OP w X B k w0 vl L z) (hwX : w.heap.size ≤ X) (hown : z.ownsRow B 54 8 v' (L.length + 1) (roCells (L ++ [p]))) (hp : ColsT z p.2 p.1.cols) : OP w X B k w0 v' (L ++ [p]) (z.setCell ⟨X, 2, none⟩ v') := by
  refine ⟨h.ext.setCell hwX _, fun q cs T h1 h2 => (h.keep q cs T h1 h2).other h2 2 _, h.box.set 2 v', ?_, ?_, ?_⟩
  · rw [List.length_append]; exact own_setCell hown (own_ne_box hown h.box (by decide))
  · intro q hq
    rcases List.mem_append.1 hq with hq | hq
    · exact TIn.set 2 v' h.box (by decide) (h.rows q hq)
    · rw [List.mem_singleton.1 hq]; exact TIn.set 2 v' h.box (by decide) hp
  · rw [Deep.nblk_setCell]; exact h.size
end

/-- Operation n appends to a list of rows of one's own; the others let memory grow. -/
def OrE (vl : Value) (B n j : Nat) (x y : World) : Prop := if j = n then (∃ m xs, x.ownsRow B 54 8 vl m xs) ∧ x.grownBy y vl.ownBlock else Ext x y
theorem OrE_ext {vl : Value} {B n j : Nat} {x y : World} (hj : j ≠ n) (h : Ext x y) : OrE vl B n j x y := by unfold OrE; rw [if_neg hj]; exact h
theorem OrE_off {vl : Value} {B n j : Nat} {x y : World} (hj : j ≠ n) (h : OrE vl B n j x y) : Ext x y := by unfold OrE at h; rwa [if_neg hj] at h
theorem OrE_tin {vl : Value} {B n j : Nat} {x y : World} (h : OrE vl B n j x y) {e : TypeId} (he : e ≠ 54) {v : Value} {m : Nat} {xs : List Value} (ht : TIn x e v m xs) : TIn y e v m xs := by
  unfold OrE at h
  split at h
  · obtain ⟨⟨m, xs, hown⟩, hg⟩ := h
    exact ht.keepOwn hown hg he
  · exact ht.ext h
theorem OrE_far {wr : World} {vl : Value} {B n j m : Nat} {xs : List Value} (hown : wr.ownsRow B 54 8 vl m xs) {x y : World} (h : OrE vl B n j x y) {b : Nat} (hb : wr.heap.size ≤ b) {cs : Array Value} {e : TypeId} (hx : BoxAt x b cs e) : BoxAt y b cs e := by
  unfold OrE at h
  split at h
  · exact hx.grown h.2 (fun e => by have := (hown.lt _ e.symm).2; omega)
  · exact hx.ext h
/-- What stays true while a row is put behind a list. -/
structure OQ (P : World → Prop) (q : Nat) (r : Ro) (v : Value) (y : World) : Prop where
  op : P y
  box : BoxAt y q (ro8 r v) 54
  cols : ColsT y v r.cols
/-- The same, of two rows. -/
structure OQ2 (P : World → Prop) (q : Nat) (r : Ro) (v : Value) (q2 : Nat) (r2 : Ro) (v2 : Value) (S : Nat) (y : World) : Prop where
  op : P y
  box : BoxAt y q (ro8 r v) 54
  box2 : BoxAt y q2 (ro8 r2 v2) 54
  cols : ColsT y v r.cols
  cols2 : ColsT y v2 r2.cols
  size : S ≤ y.heap.size
theorem OQ2.ext' {P : World → Prop} {q : Nat} {r : Ro} {v : Value} {q2 : Nat} {r2 : Ro} {v2 : Value} {S : Nat} {y z : World} (hE : Ext y z) (h : OQ2 P q r v q2 r2 v2 S y) (hP : P z) : OQ2 P q r v q2 r2 v2 S z :=
  ⟨hP, h.box.ext hE, h.box2.ext hE, h.cols.ext hE, h.cols2.ext hE, Nat.le_trans h.size hE.le⟩
end Go.Proofs.YtolkhjdododdaaaGreat

/- What delta.Orphan answers, put into a view and joined to the base (plain laws). -/
namespace Go.Proofs.YtolkhjdododdaaaGreat
open Go Go.RowKit

section
variable (x : Vw) (ns : List ByteArray) (pk : ByteArray)
/-- A view by itself. -/
structure VwS (V : Vi) : Prop where
  keys : (V.map (·.1)).Nodup
  good : ∀ q ∈ V, GoodRs q.2
  ir : ∀ q ∈ V, ∀ y ∈ q.2, Ir x ns pk q.1 y
/-- Each mirror is in the view. -/
def HasM (p : Dp) (V : Vi) : Prop := ∀ k a R, mOf x ns pk p k = some (a, R) → ∃ q ∈ V, q.1 = a ∧ ∃ y ∈ q.2, y.key = vkey pk k ∧ joinRo y R = y
/-- Of some partitions all rows are under the base, and nothing where they are not. -/
def Fine (p : Dp) (V : Vi) (A : ByteArray → Prop) : Prop := ∀ q ∈ V, A q.1 → ∀ y ∈ q.2, ∀ k, y.key = vkey pk k → Un x p k q.1 y ∧ Idle x ns pk p k q.1 y
end
section
variable {x : Vw} {ns : List ByteArray} {pk : ByteArray}
theorem VwS.of {D P : List (ByteArray × Ro)} {V : Vi} (h : VInv D P V) (hD : ∀ d ∈ D, Ir x ns pk d.1 d.2) : VwS x ns pk V :=
  ⟨h.keys, h.good, fun q hq y hy => (h.rows q hq y hy).all (fun s hs => hD (q.1, s) hs.1) fun _ _ ha hb _ => ha.join hb⟩
theorem VwS.flat {V : Vi} (h : VwS x ns pk V) : ∀ d ∈ flatV V, Ir x ns pk d.1 d.2 := fun d hd => by
  obtain ⟨a, s⟩ := d
  obtain ⟨q, hq, rfl, hs⟩ := mem_flatV.1 hd
  exact h.ir q hq s hs
theorem VwS.nil : VwS x ns pk [] := ⟨List.nodup_nil, nofun, nofun⟩
theorem HasM.nil : HasM x ns pk (0, []) [] := fun k a R h => absurd (bestB_at (mir_some h).1).2.1 (by show ¬ (1 : Int) ≤ 0; decide)
theorem HasM.empty (V : Vi) : HasM x ns pk (0, []) V := fun k a R h => absurd (bestB_at (mir_some h).1).2.1 (by show ¬ (1 : Int) ≤ 0; decide)
theorem VwS.rowsLen {V : Vi} (h : VwS x ns pk V) : ∀ q ∈ V, q.2.length ≤ 4 ∧ ∀ r ∈ q.2, r.cols.length ≤ 5 := fun q hq => by
  refine ⟨(h.good q hq).1.len (K := [(vkey pk (ik 0)).data.toList, (vkey pk (ik 1)).data.toList, (vkey pk (ik 2)).data.toList, (vkey pk (ik 3)).data.toList]) fun r hr => ?_, fun r hr => ?_⟩
  · obtain ⟨j, hj, ej⟩ := (h.ir q hq r hr).key
    unfold kRo
    rw [ej]
    obtain rfl | rfl | rfl | rfl : j = 0 ∨ j = 1 ∨ j = 2 ∨ j = 3 := by omega
    all_goals simp
  · exact NmL.len (x := x) (fun c hc => ((h.ir q hq r hr).cols c hc).1) ((h.good q hq).2 r hr)
/-- What a step adds. -/
theorem mem_stepK {p p' : Dp} (h' : BsOk x p') {a : ByteArray} {s : Ro} (hd : (a, s) ∈ stepL x ns pk p p') : ∃ i, i < 4 ∧ s.key = vkey pk (ik i) ∧ (mOf x ns pk p' (ik i) = some (a, s) ∨ ∃ P, mOf x ns pk p (ik i) = some (a, P) ∧ s = leftRo x P (rowOf p'.2 (ik i)) p'.1 ∧ ∀ q, mOf x ns pk p' (ik i) = some q → a ≠ q.1) := by
  obtain ⟨r', hr', hm⟩ := (mem_step h'.ok).1 hd
  obtain ⟨i, hi, e⟩ := h'.keys r' hr'
  rw [e] at hm
  refine ⟨i, hi, ?_, mem_stepD hm⟩
  rcases mem_stepD hm with e | ⟨P, e, rfl, _⟩
  · obtain ⟨_, _, rfl⟩ := mir_some e; rfl
  · obtain ⟨_, _, rfl⟩ := mir_some e; rfl
theorem step_ir {p p' : Dp} (h : BsOk x p) (h' : BsOk x p') (hl : LeD p p') : ∀ d ∈ stepL x ns pk p p', Ir x ns pk d.1 d.2 := fun d hd => by
  obtain ⟨a, s⟩ := d
  obtain ⟨i, hi, _, e | ⟨P, e, rfl, hne⟩⟩ := mem_stepK h' hd
  · exact Ir.mirror h' hi e
  · exact Ir.left h h' hl hi e hne
/-- A row's law of what all that it was joined of says. -/
theorem fine_of {p' : Dp} {D : List (ByteArray × Ro)} {V' : Vi} {A : ByteArray → Prop} (ho : OkD p') (hv : VInv D D V') (hD : ∀ d ∈ D, Ir x ns pk d.1 d.2)
    (hc : ∀ a s k, A a → (a, s) ∈ D → s.key = vkey pk k → Un x p' k a s ∧ ((∀ R, mOf x ns pk p' k ≠ some (a, R)) → s.live.at_ ≤ 0 ∨ s.live.at_ ≤ s.shade ∨ s.live.at_ ≤ s.gone ∨ ∃ s', (a, s') ∈ D ∧ s'.key = vkey pk k ∧ s.live.at_ ≤ s'.shade)) : Fine x ns pk p' V' A := by
  intro q hq ha y hy k hk
  have hJ := hv.rows q hq y hy
  constructor
  · have h1 : Up kCo y.cols ∧ Un x p' k q.1 y := hJ.all (P := fun s => Up kCo s.cols ∧ Un x p' k q.1 s) (fun s hs => ⟨(hD _ hs.1).up, (hc q.1 s k ha hs.1 (by rw [hs.2, hk])).1⟩) fun u v hu hv _ => ⟨mergeCo_up hu.1 hv.1, Un.join ho hu.1 hv.1 hu.2 hv.2⟩
    exact h1.2
  · intro hm
    obtain ⟨s, ⟨hs, hsk⟩, hle⟩ := hJ.at_le
    have hj : joinRo y s = y := hv.one hq hy hs rfl hsk
    obtain ⟨_, j2, j3, _⟩ := ro_parts hj
    rcases (hc q.1 s k ha hs (by rw [hsk, hk])).2 hm with h1 | h1 | h1 | ⟨s', hs', hk', h1⟩
    · exact .inl (by omega)
    · exact .inr (.inl (by omega))
    · exact .inr (.inr (by omega))
    · have hj' : joinRo y s' = y := hv.one (d := (q.1, s')) hq hy hs' rfl (show s'.key = y.key by rw [hk', hk])
      obtain ⟨_, _, j3', _⟩ := ro_parts hj'
      exact .inr (.inl (by omega))
theorem has_of {p p' : Dp} {D : List (ByteArray × Ro)} {V V' : Vi} (h' : BsOk x p') (hv : VInv D D V') (hD : ∀ d ∈ D, Ir x ns pk d.1 d.2) (hV : ∀ d ∈ flatV V, d ∈ D) (hS : ∀ d ∈ stepL x ns pk p p', d ∈ D) (hm : HasM x ns pk p V) : HasM x ns pk p' V' := by
  intro k a R e
  have uR : Up kCo R.cols := (Dl.mirror h'.ok e).up
  have eR : R.key = vkey pk k := by obtain ⟨_, _, rfl⟩ := mir_some e; rfl
  rcases step_mir (x := x) (g := p'.1) (r := rowOf p'.2 k) (m := mOf x ns pk p k) (q := (a, R)) with h1 | h1
  · obtain ⟨q, hq, rfl, y, hy, hyk, hj⟩ := hm k a R h1
    have hd := hV _ (mem_flatV.2 ⟨q, hq, rfl, hy⟩)
    obtain ⟨q', hq', hqk, y', hy', hyk', hj'⟩ := hv.has _ hd
    refine ⟨q', hq', hqk, y', hy', by rw [hyk']; exact hyk, ?_⟩
    have uy := (hD _ hd).up
    have uy' := (hv.good q' hq').2 y' hy'
    rw [← hj', joinRo_assoc uy' uy uR, hj]
  · rw [← e] at h1
    have hd : (a, R) ∈ stepL x ns pk p p' := (mem_step h'.ok).2 ⟨_, mir_row e, by rw [rowOf_is]; exact h1⟩
    obtain ⟨q', hq', hqk, y', hy', hyk', hj'⟩ := hv.has _ (hS _ hd)
    exact ⟨q', hq', hqk, y', hy', by rw [hyk']; exact eR, hj'⟩
/-- What a step keeps of an old row in a partition gone through. -/
theorem step_old {p p' : Dp} {D : List (ByteArray × Ro)} {V : Vi} {A : ByteArray → Prop} (h : BsOk x p) (h' : BsOk x p') (hl : LeD p p') (hV : VwS x ns pk V) (hS : ∀ d ∈ stepL x ns pk p p', d ∈ D) (hf : Fine x ns pk p V A) {a : ByteArray} {s : Ro} {k : ByteArray} (ha : A a) (hs : (a, s) ∈ flatV V) (hk : s.key = vkey pk k) :
    Un x p' k a s ∧ ((∀ R, mOf x ns pk p' k ≠ some (a, R)) → s.live.at_ ≤ 0 ∨ s.live.at_ ≤ s.shade ∨ s.live.at_ ≤ s.gone ∨ ∃ s', (a, s') ∈ D ∧ s'.key = vkey pk k ∧ s.live.at_ ≤ s'.shade) := by
  obtain ⟨q, hq, rfl, hs2⟩ := mem_flatV.1 hs
  obtain ⟨hu, hi⟩ := hf q hq ha s hs2 k hk
  refine ⟨hu.mono h.ok h'.ok hl ((hV.good q hq).2 s hs2), fun hm => ?_⟩
  by_cases hm0 : ∃ P, mOf x ns pk p k = some (q.1, P)
  · obtain ⟨P, e⟩ := hm0
    obtain ⟨_, _, hP⟩ := mir_some e
    have hr := mir_row e
    obtain ⟨r', hr', hk'⟩ := hl.has _ hr
    rw [rowOf_is] at hk'
    have hin : rowOf p'.2 k ∈ p'.2 := by rw [← hk', rowOf_in h'.ok.good.1 hr']; exact hr'
    have hd := step_left (x := x) (g := p'.1) (r := rowOf p'.2 k) (p := (q.1, P)) (m' := mOf x ns pk p' k) (fun q' e' hq' => hm q'.2 (by rw [e', hq']))
    rw [← e] at hd
    have hd' : (q.1, leftRo x P (rowOf p'.2 k) p'.1) ∈ stepL x ns pk p p' := (mem_step h'.ok).2 ⟨_, hin, by rw [rowOf_is]; exact hd⟩
    rcases hu.live with h1 | h1
    · exact .inl h1
    · refine .inr (.inr (.inr ⟨_, hS _ hd', by rw [hP]; rfl, ?_⟩))
      have := le_at h1
      rw [hP]
      exact this
  · rcases hi fun R e => hm0 ⟨R, e⟩ with h1 | h1 | h1
    · exact .inl h1
    · exact .inr (.inl h1)
    · exact .inr (.inr (.inl h1))
theorem step_new {p p' : Dp} {D : List (ByteArray × Ro)} (h : BsOk x p) (h' : BsOk x p') (hl : LeD p p') {a : ByteArray} {s : Ro} {k : ByteArray} (hs : (a, s) ∈ stepL x ns pk p p') (hk : s.key = vkey pk k) :
    Un x p' k a s ∧ ((∀ R, mOf x ns pk p' k ≠ some (a, R)) → s.live.at_ ≤ 0 ∨ s.live.at_ ≤ s.shade ∨ s.live.at_ ≤ s.gone ∨ ∃ s', (a, s') ∈ D ∧ s'.key = vkey pk k ∧ s.live.at_ ≤ s'.shade) := by
  obtain ⟨i, hi, ek, hm⟩ := mem_stepK h' hs
  obtain rfl : k = ik i := vkey_same (hk.symm.trans ek)
  rcases hm with e | ⟨P, e, rfl, hne⟩
  · exact ⟨(Dl.mirror h'.ok e).un h'.ok, fun hm => absurd e (hm s)⟩
  · exact ⟨(Dl.left h.ok h'.ok hl e hne).un h'.ok, fun _ => .inl (by show zeroCl.at_ ≤ 0; decide)⟩
/-- One step of a base, its deltas put into a view. -/
theorem VwS.step {p p' : Dp} {V : Vi} (h : BsOk x p) (h' : BsOk x p') (hl : LeD p p') (hV : VwS x ns pk V) (hm : HasM x ns pk p V) :
    (∀ j, VwS x ns pk (((stepL x ns pk p p').take j).foldl putV V)) ∧ HasM x ns pk p' ((stepL x ns pk p p').foldl putV V) ∧ ∀ A, Fine x ns pk p V A → Fine x ns pk p' ((stepL x ns pk p p').foldl putV V) A := by
  have hD : ∀ d ∈ flatV V ++ stepL x ns pk p p', Ir x ns pk d.1 d.2 := fun d hd => by
    rcases List.mem_append.1 hd with hd | hd
    · exact hV.flat d hd
    · exact step_ir h h' hl d hd
  have hup : ∀ d ∈ flatV V ++ stepL x ns pk p p', Up kCo d.2.cols := fun d hd => (hD d hd).up
  have h0 : VInv (flatV V ++ stepL x ns pk p p') (flatV V) V := (VInv.flat hV.keys hV.good).mono fun d hd => List.mem_append_left _ hd
  have hall := VInv.puts (P := flatV V) (V := V) hup (stepL x ns pk p p') (flatV V) V (fun e he => List.mem_append_left _ he) (fun d hd => List.mem_append_right _ hd) h0
  refine ⟨fun j => VwS.of (VInv.puts (P := flatV V) (V := V) hup ((stepL x ns pk p p').take j) (flatV V) V (fun e he => List.mem_append_left _ he) (fun d hd => List.mem_append_right _ (List.mem_of_mem_take hd)) h0) hD, ?_, fun A hA => ?_⟩
  · exact has_of h' hall hD (fun d hd => List.mem_append_left _ hd) (fun d hd => List.mem_append_right _ hd) hm
  · refine fine_of h'.ok hall hD fun a s k ha hs hk => ?_
    rcases List.mem_append.1 hs with hs | hs
    · exact step_old h h' hl hV (fun d hd => List.mem_append_right _ hd) hA ha hs hk
    · exact step_new h h' hl hs hk
/-- A partition gone through: the shade put into it, the base's step, its deltas put. -/
theorem VwS.orph {p p' : Dp} {V : Vi} {a0 : ByteArray} {sh : List Ro} (h : BsOk x p) (h' : BsOk x p') (hl : LeD p p') (hV : VwS x ns pk V) (hm : HasM x ns pk p V) (ha : a0 ∈ V.map (·.1)) (hg : GoodRs sh) (hsh : ∀ s ∈ sh, Ir x ns pk a0 s)
    (hU : ∀ q ∈ V, q.1 = a0 → ∀ y ∈ q.2, ∀ k, y.key = vkey pk k → Un x p' k a0 y) (hSu : ∀ s ∈ sh, ∀ k, s.key = vkey pk k → Un x p' k a0 s ∧ s.live.at_ ≤ 0)
    (hI : ∀ q ∈ V, q.1 = a0 → ∀ y ∈ q.2, ∀ k, y.key = vkey pk k → (∀ R, mOf x ns pk p' k ≠ some (a0, R)) → y.live.at_ ≤ 0 ∨ y.live.at_ ≤ y.shade ∨ y.live.at_ ≤ y.gone ∨ ∃ s' ∈ sh, s'.key = vkey pk k ∧ y.live.at_ ≤ s'.shade) :
    VwS x ns pk (putP V (a0, sh)) ∧ (∀ j, VwS x ns pk (((stepL x ns pk p p').take j).foldl putV (putP V (a0, sh)))) ∧ HasM x ns pk p' ((stepL x ns pk p p').foldl putV (putP V (a0, sh))) ∧ ∀ A, Fine x ns pk p V A → Fine x ns pk p' ((stepL x ns pk p p').foldl putV (putP V (a0, sh))) fun a => A a ∨ a = a0 := by
  obtain ⟨E, hE⟩ : ∃ E, E = sh.map fun s => (a0, s) := ⟨_, rfl⟩
  have mE : ∀ {a s}, (a, s) ∈ E ↔ a = a0 ∧ s ∈ sh := by
    intro a s
    rw [hE, List.mem_map]
    constructor
    · rintro ⟨t, ht, e⟩; cases e; exact ⟨rfl, ht⟩
    · rintro ⟨rfl, hs⟩; exact ⟨s, hs, rfl⟩
  have hD : ∀ d ∈ (flatV V ++ E) ++ stepL x ns pk p p', Ir x ns pk d.1 d.2 := fun d hd => by
    rcases List.mem_append.1 hd with hd | hd
    · rcases List.mem_append.1 hd with hd | hd
      · exact hV.flat d hd
      · obtain ⟨a, s⟩ := d
        obtain ⟨rfl, hs⟩ := mE.1 hd
        exact hsh s hs
    · exact step_ir h h' hl d hd
  have hup : ∀ d ∈ (flatV V ++ E) ++ stepL x ns pk p p', Up kCo d.2.cols := fun d hd => (hD d hd).up
  have h0 : VInv ((flatV V ++ E) ++ stepL x ns pk p p') (flatV V) V := (VInv.flat hV.keys hV.good).mono fun d hd => List.mem_append_left _ (List.mem_append_left _ hd)
  have h1 := VInv.putPart (a := a0) (ss := sh) hup (fun e he => List.mem_append_left _ (List.mem_append_left _ he)) ha hg (fun s hs => List.mem_append_left _ (List.mem_append_right _ (mE.2 ⟨rfl, hs⟩))) h0
  rw [← hE] at h1
  have hall := VInv.puts (P := flatV V ++ E) (V := putP V (a0, sh)) hup (stepL x ns pk p p') _ _ (fun e he => List.mem_append_left _ he) (fun d hd => List.mem_append_right _ hd) h1
  refine ⟨VwS.of h1 hD, fun j => VwS.of (VInv.puts (P := flatV V ++ E) (V := putP V (a0, sh)) hup ((stepL x ns pk p p').take j) _ _ (fun e he => List.mem_append_left _ he) (fun d hd => List.mem_append_right _ (List.mem_of_mem_take hd)) h1) hD, ?_, fun A hA => ?_⟩
  · exact has_of h' hall hD (fun d hd => List.mem_append_left _ (List.mem_append_left _ hd)) (fun d hd => List.mem_append_right _ hd) hm
  · refine fine_of h'.ok hall hD fun a s k ha hs hk => ?_
    rcases List.mem_append.1 hs with hs | hs
    · rcases List.mem_append.1 hs with hs | hs
      · rcases ha with ha | rfl
        · exact step_old h h' hl hV (fun d hd => List.mem_append_right _ hd) hA ha hs hk
        · obtain ⟨q, hq, e, hs⟩ := mem_flatV.1 hs
          refine ⟨hU q hq e s hs k hk, fun hm => ?_⟩
          rcases hI q hq e s hs k hk hm with h1 | h1 | h1 | ⟨s', hs', hk', h1⟩
          · exact .inl h1
          · exact .inr (.inl h1)
          · exact .inr (.inr (.inl h1))
          · exact .inr (.inr (.inr ⟨s', List.mem_append_left _ (List.mem_append_right _ (mE.2 ⟨rfl, hs'⟩)), hk', h1⟩))
      · obtain ⟨rfl, hs⟩ := mE.1 hs
        obtain ⟨u1, u2⟩ := hSu s hs k hk
        exact ⟨u1, fun _ => .inl u2⟩
    · exact step_new h h' hl hs hk
/-- When all partitions are gone through, what is seen is what the base has. -/
theorem fine_end {p : Dp} {V : Vi} (h : BsOk x p) (hon : fK ns x.on.data.toList = false) (hV : VwS x ns pk V) (hm : HasM x ns pk p V) (hf : Fine x ns pk p V fun _ => True) (t : Int) :
    (∀ e, e ∈ seenV x V t ↔ e ∈ viewRs x ns pk p.1 t p.2) ∧ (seenV x V t).length = (viewRs x ns pk p.1 t p.2).length := by
  have same : ∀ {q : ByteArray × List Ro} {y R : Ro} {k : ByteArray}, q ∈ V → y ∈ q.2 → y.key = vkey pk k → mOf x ns pk p k = some (q.1, R) → (if isB y (max y.gone 0) t true then some (q.1, offR x (seenRo y 0 t)) else none) = selP t (q.1, R) := by
    intro q y R k hq hy hyk e
    obtain ⟨hb, ha, eR⟩ := mir_some e
    obtain ⟨b1, b2, b3⟩ := bestB_at hb
    have uR : Up kCo R.cols := (Dl.mirror h.ok e).up
    have hi := hV.ir q hq y hy
    obtain ⟨hu, _⟩ := hf q hq trivial y hy k hyk
    obtain ⟨q', hq', hqk, y', hy', hyk', hj⟩ := hm k q.1 R e
    have e1 := nodup_key hV.keys hq' hq hqk
    subst e1
    have g1 := getK_of_mem (hV.good q' hq').1 hy
    have g2 := getK_of_mem (hV.good q' hq').1 hy'
    rw [show kRo y' = kRo y by unfold kRo; rw [hyk', hyk], g1] at g2
    obtain rfl := Option.some.inj g2
    obtain ⟨j1, j2, _, j4⟩ := ro_parts hj
    have uy := hi.up
    have hRk : R.key = vkey pk k := by rw [eR]
    have ec : cOf x p k = ⟨q'.1, false, (cOf x p k).at_, (cOf x p k).fin⟩ := by rw [ha, ← b1]
    have hlive : y.live = R.live := by
      refine le_antisymm ?_ (le_of_join j1)
      rw [eR]
      rcases hi.live with e0 | ⟨p0, e0⟩
      · rw [e0]; exact zLe (by show 0 < (cOf x p k).at_; omega)
      · rcases hu.live with l0 | l0
        · omega
        · rw [e0]
          rw [ec] at l0
          exact le_noval l0
    have hgone : y.gone = R.gone := by
      have := hu.gone
      rw [show R.gone = gOf p k by rw [eR]] at j2 ⊢
      omega
    have hshade : y.shade < R.live.at_ := by
      rw [show R.live.at_ = (cOf x p k).at_ by rw [eR]]
      refine hi.shade (cOf x p k) b1 ha.symm (le_cell uy (h.ok.up k) (h.ok.cpos k) hu.cols x.on) ?_
      have := hu.gone
      omega
    have hcols : flt (fOff x) y.cols = flt (fOff x) R.cols := by
      refine leC_anti (flt_up uy) (flt_up uR) ?_ (leC_flt uR uy (fun _ h => h) j4)
      have e0 : flt (fOff x) y.cols = flt (fun j => fOff x j && fOn x ns j) y.cols := by
        unfold flt
        refine List.filter_congr fun c hc => ?_
        show fOff x (kCo c) = (fOff x (kCo c) && fOn x ns (kCo c))
        rw [hi.on c hc, Bool.and_true]
      have e2 : flt (fun j => fOff x j && fOn x ns j) (rowOf p.2 k).cols = flt (fOff x) R.cols := by
        rw [eR]
        show _ = flt (fOff x) (flt (fK ns) _)
        rw [flt_flt]
        congr 1
        funext j
        unfold fOff fOn
        cases fK ns j <;> cases (j == x.on.data.toList) <;> rfl
      rw [e0, ← e2]
      exact leC_flt uy (h.ok.up k) (fun _ h => h) hu.cols
    obtain ⟨e5, e6⟩ := off_mir hon e
    exact seen_same t (by rw [hRk, hyk]) hlive hgone hshade hcols e5 e6
  have hmem : ∀ e, e ∈ seenV x V t ↔ e ∈ viewRs x ns pk p.1 t p.2 := by
    intro e
    rw [← view_full]
    constructor
    · intro he
      obtain ⟨q, hq, he⟩ := List.mem_flatMap.1 he
      obtain ⟨r, hr, rfl⟩ := List.mem_map.1 he
      obtain ⟨y, hy, rfl⟩ := List.mem_map.1 hr
      obtain ⟨hy, hb⟩ := List.mem_filter.1 hy
      obtain ⟨i, hi, hyk⟩ := (hV.ir q hq y hy).key
      by_cases hmm : ∃ R, mOf x ns pk p (ik i) = some (q.1, R)
      · obtain ⟨R, hmm⟩ := hmm
        have h1 := same hq hy hyk hmm
        rw [if_pos hb] at h1
        refine List.mem_filterMap.2 ⟨(q.1, R), List.mem_filterMap.2 ⟨rowOf p.2 (ik i), mir_row hmm, hmm⟩, h1.symm⟩
      · exfalso
        have h1 := (hf q hq trivial y hy (ik i) hyk).2 fun R hR => hmm ⟨R, hR⟩
        unfold isB liveB at hb
        simp only [Bool.not_true, Bool.false_and, Bool.or_false, Bool.and_eq_true, decide_eq_true_eq] at hb
        have := (hV.ir q hq y hy).gone
        omega
    · intro he
      obtain ⟨⟨a, R⟩, hmm, he⟩ := List.mem_filterMap.1 he
      obtain ⟨r, hr, hmm⟩ := List.mem_filterMap.1 hmm
      have hm' : mOf x ns pk p r.key = some (a, R) := by unfold mOf; rw [rowOf_in h.ok.good.1 hr]; exact hmm
      obtain ⟨q, hq, hqk, y, hy, hyk, _⟩ := hm r.key a R hm'
      subst hqk
      have h1 := same hq hy hyk hm'
      rw [he] at h1
      by_cases hb : isB y (max y.gone 0) t true = true
      · rw [if_pos hb] at h1
        have e1 := Option.some.inj h1
        rw [← e1]
        exact List.mem_flatMap.2 ⟨q, hq, List.mem_map.2 ⟨_, List.mem_map.2 ⟨y, List.mem_filter.2 ⟨hy, hb⟩, rfl⟩, rfl⟩⟩
      · rw [if_neg hb] at h1; cases h1
  exact ⟨hmem, len_seen h.ok hV.keys hV.good t hmem⟩
end
end Go.Proofs.YtolkhjdododdaaaGreat

/- What of a view's partition is brought back and shaded: what it is (plain laws). -/
namespace Go.Proofs.YtolkhjdododdaaaGreat
open Go Go.RowKit

theorem cmp_vkey (pk a b : ByteArray) : cmpB (vkey pk a).data.toList (vkey pk b).data.toList = cmpB a.data.toList b.data.toList := by
  rw [vkey_lst, vkey_lst, cmpB_less, cmpB_less, less_txt, less_txt, if_pos rfl, if_pos rfl]
/-- A view's row's key in its base. -/
noncomputable def cofK (pk : ByteArray) (r : Ro) : ByteArray := @dite _ (∃ i, i < 4 ∧ r.key = vkey pk (ik i)) (Classical.propDecidable _) (fun h => ik (Classical.choose h)) fun _ => ⟨#[]⟩
theorem cofK_spec {pk : ByteArray} {r : Ro} (h : ∃ i, i < 4 ∧ r.key = vkey pk (ik i)) : r.key = vkey pk (cofK pk r) ∧ ∃ i, i < 4 ∧ cofK pk r = ik i := by
  have e : cofK pk r = ik (Classical.choose h) := by unfold cofK; exact dif_pos h
  have hs := Classical.choose_spec h
  exact ⟨by rw [e]; exact hs.2, _, hs.1, e⟩
/-- Lists of at most one each, of the same order. -/
theorem flat_up {f : Ro → List Ro} {g : Ro → List UInt8} : ∀ {l : List Ro}, l.Pairwise (fun a b => cmpB (g a) (g b) < 0) → (∀ a ∈ l, ∀ b ∈ f a, kRo b = g a) → (∀ a, (f a).length ≤ 1) → Up kRo (l.flatMap f)
  | [], _, _, _ => List.Pairwise.nil
  | a :: l, hp, hk, h1 => by
    have hp' := List.pairwise_cons.1 hp
    rw [List.flatMap_cons]
    refine List.pairwise_append.2 ⟨?_, flat_up hp'.2 (fun b hb => hk b (List.mem_cons_of_mem _ hb)) h1, fun u hu v hv => ?_⟩
    · have := h1 a
      cases hf : f a with
      | nil => exact List.Pairwise.nil
      | cons u t =>
        rw [hf] at this
        have ht : t = [] := by simpa using this
        rw [ht]
        exact List.pairwise_singleton _ _
    · obtain ⟨b, hb, hv⟩ := List.mem_flatMap.1 hv
      rw [hk a (List.mem_cons_self ..) u hu, hk b (List.mem_cons_of_mem _ hb) v hv]
      exact hp'.1 b hb
theorem up_hup {l : List Ro} (h : Up kRo l) : ∀ (k : Nat) (h : k + 1 < l.length), ¬ keyR l[k + 1] l[k] < 0 := by
  intro k hk
  have h1 := List.pairwise_iff_getElem.1 h k (k + 1) (by omega) hk (by omega)
  have h2 := cmpB_anti (kRo l[k]) (kRo l[k + 1])
  unfold keyR
  unfold kRo at h1 h2
  omega
section
variable {x : Vw} {ns : List ByteArray} {pk : ByteArray}
theorem known_parts (a : ByteArray) (r b : Ro) (g : Int) (hr : 0 ≤ r.gone) : (knownRo x a 0 r b g).key = b.key ∧ (knownRo x a 0 r b g).live = zeroCl ∧ (knownRo x a 0 r b g).shade = 0 ∧ 0 ≤ (knownRo x a 0 r b g).gone ∧ (r.gone ≤ max b.gone g ∨ r.gone ≤ (knownRo x a 0 r b g).gone) ∧
    (knownRo x a 0 r b g).cols = if 0 < r.live.at_ then mergeCo r.cols [⟨x.on, ⟨a, false, r.live.at_, r.live.fin⟩⟩] else r.cols := by
  have hz : joinCl zeroCl zeroCl = zeroCl := joinCl_self _
  have hg : 0 ≤ (known0 0 r b g).gone ∧ (r.gone ≤ max b.gone g ∨ r.gone ≤ (known0 0 r b g).gone) := by
    unfold known0
    dsimp only
    split
    · exact ⟨Int.le_refl _, .inl (by omega)⟩
    · exact ⟨by omega, .inr (by omega)⟩
  unfold knownRo
  split
  · refine ⟨rfl, hz, rfl, ?_, ?_, rfl⟩
    · show 0 ≤ max (known0 0 r b g).gone 0
      omega
    · show _ ∨ _ ≤ max (known0 0 r b g).gone 0
      omega
  · exact ⟨rfl, rfl, rfl, hg.1, hg.2, rfl⟩
theorem one_up (c : Co) : Up kCo [c] := List.pairwise_singleton _ _
theorem known_up {a : ByteArray} {r b : Ro} {g : Int} (hr : 0 ≤ r.gone) (hu : Up kCo r.cols) : Up kCo (knownRo x a 0 r b g).cols ∧ LeC r.cols (knownRo x a 0 r b g).cols ∧ (0 < r.live.at_ → LeC [⟨x.on, ⟨a, false, r.live.at_, r.live.fin⟩⟩] (knownRo x a 0 r b g).cols) := by
  rw [(known_parts (x := x) a r b g hr).2.2.2.2.2]
  split
  · exact ⟨mergeCo_up hu (one_up _), leC_left hu (one_up _), fun _ => leC_right hu (one_up _)⟩
  · rename_i h
    exact ⟨hu, leC_refl hu, fun h' => absurd h' h⟩
theorem known_cols {a : ByteArray} {r b : Ro} {g : Int} (hi : Ir x ns pk a r) : ∀ c ∈ (knownRo x a 0 r b g).cols, kCo c ∈ nsK x ∧ 0 < c.cell.at_ ∧ c.cell.val ∈ valK := by
  rw [(known_parts (x := x) a r b g hi.gone).2.2.2.2.2]
  split
  · rename_i h
    intro c hc
    rcases mem_mergeCo hc with (hm | hm) | ⟨u, hu, v, hv, hn, rfl⟩
    · exact hi.cols c hm
    · rw [List.mem_singleton.1 hm]
      exact ⟨List.mem_cons_self .., h, hi.val⟩
    · obtain ⟨u1, u2, u3⟩ := hi.cols u hu
      rw [List.mem_singleton.1 hv]
      rcases joinCl_or u.cell ⟨a, false, r.live.at_, r.live.fin⟩ with e | e
      · exact ⟨u1, by show 0 < (joinCl u.cell _).at_; rw [e]; exact u2, by show (joinCl u.cell _).val ∈ _; rw [e]; exact u3⟩
      · exact ⟨u1, by show 0 < (joinCl u.cell _).at_; rw [e]; exact h, by show (joinCl u.cell _).val ∈ _; rw [e]; exact hi.val⟩
  · exact hi.cols
theorem join_zero (K : Ro) (hl : K.live = zeroCl) (hs : K.shade = 0) (hg : 0 ≤ K.gone) : joinRo K zeroRo = K := by
  obtain ⟨k, l, g, s, c⟩ := K
  simp only at hl hs hg
  subst hl
  subst hs
  unfold joinRo zeroRo
  simp only
  rw [joinCl_self, show max g 0 = g by omega, show mergeCo c [] = c from mergeG_nil_right _ _ _]
  rfl
/-- One partition of a view and a base. -/
structure PB (x : Vw) (ns : List ByteArray) (pk : ByteArray) (p : Dp) (a : ByteArray) (rs : List Ro) : Prop where
  base : BsOk x p
  good : GoodRs rs
  ir : ∀ r ∈ rs, Ir x ns pk a r
variable {p : Dp} {a : ByteArray} {rs : List Ro}
theorem PB.order (h : PB x ns pk p a rs) : rs.Pairwise fun r s => cmpB (cofK pk r).data.toList (cofK pk s).data.toList < 0 := by
  refine List.Pairwise.imp_of_mem (fun {r s} hr hs hlt => ?_) h.good.1
  have e1 := (cofK_spec (h.ir r hr).key).1
  have e2 := (cofK_spec (h.ir s hs).key).1
  unfold kRo at hlt
  rw [e1, e2, cmp_vkey] at hlt
  exact hlt
theorem back_one (h : PB x ns pk p a rs) {r : Ro} (hr : r ∈ rs) {q : Ro} (hq : q ∈ backL x a 0 p.1 r (rowOf p.2 (cofK pk r))) : q = knownRo x a 0 r (rowOf p.2 (cofK pk r)) p.1 := by
  unfold backL at hq
  split at hq
  · cases hq
  · rw [List.mem_singleton.1 hq]
    obtain ⟨_, k2, k3, k4, _⟩ := known_parts (x := x) a r (rowOf p.2 (cofK pk r)) p.1 (h.ir r hr).gone
    exact join_zero _ k2 k3 k4
theorem PB.backUp (h : PB x ns pk p a rs) : Up kRo (backRs x a 0 p.1 p.2 (cofK pk) rs) := by
  refine flat_up (g := fun r => (cofK pk r).data.toList) h.order (fun r hr q hq => ?_) fun _ => backL_len ..
  rw [back_one h hr hq]
  unfold kRo
  rw [(known_parts (x := x) a r _ _ (h.ir r hr).gone).1, rowOf_is]
theorem mem_back (h : PB x ns pk p a rs) {q : Ro} (hq : q ∈ backRs x a 0 p.1 p.2 (cofK pk) rs) : ∃ r ∈ rs, q = knownRo x a 0 r (rowOf p.2 (cofK pk r)) p.1 := by
  obtain ⟨r, hr, hq⟩ := List.mem_flatMap.1 hq
  exact ⟨r, hr, back_one h hr hq⟩
theorem PB.backOk (h : PB x ns pk p a rs) : OkD (0, backRs x a 0 p.1 p.2 (cofK pk) rs) := by
  refine ⟨⟨h.backUp, fun q hq => ?_⟩, fun q hq c hc => ?_, Int.le_refl _⟩
  · obtain ⟨r, hr, rfl⟩ := mem_back h hq
    exact (known_up (h.ir r hr).gone (h.ir r hr).up).1
  · obtain ⟨r, hr, rfl⟩ := mem_back h hq
    exact (known_cols (h.ir r hr) c hc).2.1
/-- The base with what is brought back. -/
noncomputable def nextD (x : Vw) (pk : ByteArray) (p : Dp) (a : ByteArray) (rs : List Ro) : Dp := joinD p (0, backRs x a 0 p.1 p.2 (cofK pk) rs)
theorem PB.next (h : PB x ns pk p a rs) : BsOk x (nextD x pk p a rs) ∧ LeD p (nextD x pk p a rs) := by
  obtain ⟨h1, h2⟩ := joinD_le h.base.ok h.backOk
  have hb : ∀ q ∈ backRs x a 0 p.1 p.2 (cofK pk) rs, (∃ i, i < 4 ∧ q.key = ik i) ∧ ∀ c ∈ q.cols, kCo c ∈ nsK x ∧ c.cell.val ∈ valK := fun q hq => by
    obtain ⟨r, hr, rfl⟩ := mem_back h hq
    refine ⟨?_, fun c hc => ?_⟩
    · rw [(known_parts (x := x) a r _ _ (h.ir r hr).gone).1, rowOf_is]
      exact (cofK_spec (h.ir r hr).key).2
    · obtain ⟨c1, _, c3⟩ := known_cols (h.ir r hr) c hc
      exact ⟨c1, c3⟩
  refine ⟨⟨h1, fun q hq => ?_, fun q hq c hc => ?_⟩, h2⟩
  · rcases mem_mergeRs hq with (hm | hm) | ⟨u, hu, v, hv, _, rfl⟩
    · exact h.base.keys q hm
    · exact (hb q hm).1
    · exact h.base.keys u hu
  · rcases mem_mergeRs hq with (hm | hm) | ⟨u, hu, v, hv, _, rfl⟩
    · exact h.base.cols q hm c hc
    · exact (hb q hm).2 c hc
    · rcases mem_mergeCo hc with (hm | hm) | ⟨c1, h1, c2, h2, _, rfl⟩
      · exact h.base.cols u hu c hm
      · exact (hb v hv).2 c hm
      · obtain ⟨n1, v1⟩ := h.base.cols u hu c1 h1
        obtain ⟨n2, v2⟩ := (hb v hv).2 c2 h2
        rcases joinCl_or c1.cell c2.cell with e | e
        · exact ⟨n1, by show (joinCl c1.cell c2.cell).val ∈ _; rw [e]; exact v1⟩
        · exact ⟨n1, by show (joinCl c1.cell c2.cell).val ∈ _; rw [e]; exact v2⟩
/-- What is brought back is in the next base. -/
theorem PB.brought (h : PB x ns pk p a rs) {r : Ro} (hr : r ∈ rs) : LeC (knownRo x a 0 r (rowOf p.2 (cofK pk r)) p.1).cols (rowOf (nextD x pk p a rs).2 (cofK pk r)).cols ∧ (knownRo x a 0 r (rowOf p.2 (cofK pk r)) p.1).gone ≤ gOf (nextD x pk p a rs) (cofK pk r) := by
  obtain ⟨K, hK⟩ : ∃ K, K = knownRo x a 0 r (rowOf p.2 (cofK pk r)) p.1 := ⟨_, rfl⟩
  rw [← hK]
  have hp := known_parts (x := x) a r (rowOf p.2 (cofK pk r)) p.1 (h.ir r hr).gone
  have hu := (known_up (x := x) (a := a) (b := rowOf p.2 (cofK pk r)) (g := p.1) (h.ir r hr).gone (h.ir r hr).up).1
  rw [← hK] at hp hu
  obtain ⟨hn, hle⟩ := h.next
  by_cases he : joinRo (rowOf p.2 (cofK pk r)) K = rowOf p.2 (cofK pk r)
  · obtain ⟨_, j2, _, j4⟩ := ro_parts he
    refine ⟨leC_trans hu (h.base.ok.up _) (hn.ok.up _) j4 (hle.cols _), Int.le_trans ?_ (hle.gone _)⟩
    unfold gOf
    omega
  · have hm : K ∈ backRs x a 0 p.1 p.2 (cofK pk) rs := by
      refine List.mem_flatMap.2 ⟨r, hr, ?_⟩
      unfold backL
      rw [← hK, if_neg (by rw [eqB_false he]; decide), join_zero K hp.2.1 hp.2.2.1 hp.2.2.2.1]
      exact List.mem_cons_self ..
    have hkK : kRo K = (cofK pk r).data.toList := by unfold kRo; rw [hp.1, rowOf_is]
    have h1 := getK_of_mem h.backUp hm
    rw [hkK] at h1
    have h2 := getK_merge (join := joinRo) kRo_join h.base.ok.good.1 h.backUp (cofK pk r).data.toList
    rw [h1, ← mergeRo_K] at h2
    have h3 : rowOf (nextD x pk p a rs).2 (cofK pk r) = (getK kRo (mergeRo p.2 (backRs x a 0 p.1 p.2 (cofK pk) rs)) (cofK pk r).data.toList).getD ⟨cofK pk r, zeroCl, 0, 0, []⟩ := rowOf_get _ _
    rw [h2] at h3
    unfold gOf
    rw [h3]
    cases h4 : getK kRo p.2 (cofK pk r).data.toList with
    | none =>
      refine ⟨leC_refl hu, ?_⟩
      show K.gone ≤ max K.gone _
      omega
    | some b =>
      refine ⟨leC_right (h.base.ok.good.2 b (getK_mem h4).1) hu, ?_⟩
      show K.gone ≤ max (max b.gone K.gone) _
      omega
/-- Each row of the partition is under the next base. -/
theorem PB.under (h : PB x ns pk p a rs) {r : Ro} (hr : r ∈ rs) {k : ByteArray} (hk : r.key = vkey pk k) : Un x (nextD x pk p a rs) k a r := by
  obtain rfl : k = cofK pk r := vkey_same (hk.symm.trans (cofK_spec (h.ir r hr).key).1)
  obtain ⟨b1, b2⟩ := h.brought hr
  obtain ⟨hn, hle⟩ := h.next
  have hi := h.ir r hr
  obtain ⟨u1, u2, u3⟩ := known_up (x := x) (a := a) (b := rowOf p.2 (cofK pk r)) (g := p.1) hi.gone hi.up
  obtain ⟨_, _, _, _, k5, _⟩ := known_parts (x := x) a r (rowOf p.2 (cofK pk r)) p.1 hi.gone
  refine ⟨?_, leC_trans hi.up u1 (hn.ok.up _) u2 b1, ?_⟩
  · rcases k5 with h1 | h1
    · refine Int.le_trans h1 (Int.le_trans ?_ (hle.gone _))
      exact Int.le_refl _
    · exact Int.le_trans h1 b2
  · by_cases hl : 0 < r.live.at_
    · right
      have h1 := leC_trans (one_up _) u1 (hn.ok.up _) (u3 hl) b1
      have h2 := le_cell (one_up _) (hn.ok.up _) (hn.ok.cpos _) h1 x.on
      have e : cellOf [⟨x.on, ⟨a, false, r.live.at_, r.live.fin⟩⟩] x.on = ⟨a, false, r.live.at_, r.live.fin⟩ := by
        rw [cellOf_get]
        unfold getK
        rw [if_pos (show kCo ⟨x.on, _⟩ = x.on.data.toList from rfl)]
        rfl
      rw [e] at h2
      exact h2
    · left; omega
noncomputable def shadeD (x : Vw) (ns : List ByteArray) (pk : ByteArray) (p : Dp) (a : ByteArray) (rs : List Ro) : List Ro := shadeRs x ns a 0 pk p.1 (nextD x pk p a rs).2 (cofK pk) rs
theorem next_gone (h : PB x ns pk p a rs) : (nextD x pk p a rs).1 = p.1 := by
  have := h.base.ok.gone
  show max p.1 0 = p.1
  omega
theorem mirOf_next (h : PB x ns pk p a rs) (k : ByteArray) : mOf x ns pk (nextD x pk p a rs) k = mirOf x ns pk p.1 (rowOf (nextD x pk p a rs).2 k) := by
  unfold mOf
  rw [next_gone h]
theorem mem_shade (h : PB x ns pk p a rs) {s : Ro} : s ∈ shadeD x ns pk p a rs ↔ ∃ r ∈ rs, idleB 0 r = false ∧ strayB (mOf x ns pk (nextD x pk p a rs) (cofK pk r)) a = true ∧ s = leftRo x r (rowOf (nextD x pk p a rs).2 (cofK pk r)) p.1 := by
  unfold shadeD shadeRs
  rw [List.mem_flatMap]
  constructor
  · rintro ⟨r, hr, hs⟩
    unfold shadeL at hs
    split at hs
    · cases hs
    · rename_i h1
      split at hs
      · rename_i h2
        exact ⟨r, hr, by simpa using h1, by rw [mirOf_next h]; exact h2, List.mem_singleton.1 hs⟩
      · cases hs
  · rintro ⟨r, hr, h1, h2, rfl⟩
    refine ⟨r, hr, ?_⟩
    unfold shadeL
    rw [mirOf_next h] at h2
    rw [h1, if_neg (by decide), if_pos h2]
    exact List.mem_cons_self ..
theorem PB.shadeUp (h : PB x ns pk p a rs) : Up kRo (shadeD x ns pk p a rs) := by
  refine flat_up (g := kRo) h.good.1 (fun r hr q hq => ?_) fun _ => shadeL_len ..
  unfold shadeL at hq
  split at hq
  · cases hq
  · split at hq
    · rw [List.mem_singleton.1 hq]; rfl
    · cases hq
theorem stray_iff {m : Option (ByteArray × Ro)} : strayB m a = true ↔ ∀ R, m ≠ some (a, R) := by
  unfold strayB
  cases m with
  | none => simp
  | some q =>
    obtain ⟨c, R⟩ := q
    simp only [Option.isSome_some, Bool.not_true, Bool.false_or]
    constructor
    · intro h R' e
      cases e
      simp [mirK] at h
    · intro h
      have hne : c ≠ a := fun e => h R (by rw [e])
      have : ((mirK (some (c, R))).toList == a.toList) = false := by
        simp [mirK]
        exact fun e => hne (bytes_ext e)
      rw [this]
      rfl
theorem PB.shadeIr (h : PB x ns pk p a rs) : GoodRs (shadeD x ns pk p a rs) ∧ ∀ s ∈ shadeD x ns pk p a rs, Ir x ns pk a s ∧ s.live.at_ ≤ 0 ∧ ∀ k, s.key = vkey pk k → Un x (nextD x pk p a rs) k a s := by
  obtain ⟨hn, _⟩ := h.next
  have hs : ∀ s ∈ shadeD x ns pk p a rs, Ir x ns pk a s ∧ s.live.at_ ≤ 0 ∧ ∀ k, s.key = vkey pk k → Un x (nextD x pk p a rs) k a s := by
    intro s hs
    obtain ⟨r, hr, hi, hst, rfl⟩ := (mem_shade h).1 hs
    have hir := h.ir r hr
    obtain ⟨e1, i, hi4, e2⟩ := cofK_spec hir.key
    obtain ⟨K, hK⟩ : ∃ K, K = cofK pk r := ⟨_, rfl⟩
    have hu := h.under hr e1
    rw [← hK] at e1 e2 hu hst ⊢
    obtain ⟨c1, c2⟩ := cellL_le (x := x) (ns := ns) (r := rowOf (nextD x pk p a rs).2 K) (hn.ok.up K)
    have hg : max (rowOf (nextD x pk p a rs).2 K).gone p.1 = gOf (nextD x pk p a rs) K := by unfold gOf; rw [next_gone h]
    refine ⟨⟨hir.val, hir.key, c1, cellL_cols hn K rfl, cellL_on _, .inl rfl, ?_, fun C d1 d2 d3 d4 => ?_⟩, ?_, fun k hk => ?_⟩
    · show 0 ≤ max _ p.1
      rw [hg]
      exact gOf_pos hn.ok K
    · show r.live.at_ < C.at_
      have d4 : max (rowOf (nextD x pk p a rs).2 K).gone p.1 < C.at_ := d4
      rw [hg] at d4
      have d3 : cmpCl (cellOf (cellL x (rowOf (nextD x pk p a rs).2 K)) x.on) C ≤ 0 := d3
      rw [cell_cellL rfl (hn.ok.cpos K)] at d3
      by_cases hlt : r.live.at_ < C.at_
      · exact hlt
      · exfalso
        rcases hu.live with h1 | h1
        · have := gOf_pos hn.ok K
          omega
        · obtain ⟨f1, f2, f3, f4⟩ := between h1 d3 (by show C.at_ ≤ r.live.at_; omega) rfl d1 d2.symm
          have f1 : (cOf x (nextD x pk p a rs) K).at_ = r.live.at_ := f1
          have f2 : C.at_ = r.live.at_ := f2
          have hb' : bestB (cOf x (nextD x pk p a rs) K) (gOf (nextD x pk p a rs) K) = true := by
            have := gOf_pos hn.ok K
            unfold bestB
            rw [f3, show decide ((cOf x (nextD x pk p a rs) K).at_ < 1) = false by simp; omega, show decide ((cOf x (nextD x pk p a rs) K).at_ ≤ gOf (nextD x pk p a rs) K) = false by simp; omega]
            rfl
          obtain ⟨R, hR⟩ := mir_of (ns := ns) (pk := pk) hb'
          rw [show (cOf x (nextD x pk p a rs) K).val = a from f4] at hR
          exact stray_iff.1 hst R hR
    · show zeroCl.at_ ≤ 0
      decide
    · have hk' : r.key = vkey pk k := hk
      obtain rfl : k = K := vkey_same (hk'.symm.trans e1)
      refine ⟨?_, leC_trans c1 (flt_up (hn.ok.up k)) (hn.ok.up k) c2 (flt_le _ (hn.ok.up k)), .inl (by show zeroCl.at_ ≤ 0; decide)⟩
      show max _ p.1 ≤ _
      rw [hg]
      exact Int.le_refl _
  exact ⟨⟨h.shadeUp, fun s h1 => (hs s h1).1.up⟩, hs⟩
theorem PB.idle (h : PB x ns pk p a rs) {r : Ro} (hr : r ∈ rs) {k : ByteArray} (hk : r.key = vkey pk k) (hm : ∀ R, mOf x ns pk (nextD x pk p a rs) k ≠ some (a, R)) :
    r.live.at_ ≤ 0 ∨ r.live.at_ ≤ r.shade ∨ r.live.at_ ≤ r.gone ∨ ∃ s' ∈ shadeD x ns pk p a rs, s'.key = vkey pk k ∧ r.live.at_ ≤ s'.shade := by
  obtain rfl : k = cofK pk r := vkey_same (hk.symm.trans (cofK_spec (h.ir r hr).key).1)
  have hg := (h.ir r hr).gone
  cases hi : idleB 0 r with
  | true =>
    unfold idleB at hi
    simp only [Bool.or_eq_true, decide_eq_true_eq] at hi
    omega
  | false => exact .inr (.inr (.inr ⟨_, (mem_shade h).2 ⟨r, hr, hi, stray_iff.2 hm, rfl⟩, hk, Int.le_refl _⟩))
end
end Go.Proofs.YtolkhjdododdaaaGreat
