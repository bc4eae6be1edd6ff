/- Steps put into a view: bounds, and the law of them all (plain). -/
import Derived.Test.YteamiiekpjoclaaP25
import Derived.Test.YteamiiekpjoclaaP32
import Derived.Test.YteamiiekpjoclaaP3
import Derived.Test.YteamiiekpjoclaaP4
import Derived.Test.YteamiiekpjoclaaP21
set_option linter.unusedSimpArgs false
set_option linter.unusedVariables false
namespace Go.Proofs.Yteamiiekpjoclaa
open Go Go.RowKit

theorem ptB_ok {k : ByteArray} {g : Int} {l : List Ro} (h : ptB k g l = true) : OkD (g, l) ∧ ∀ r ∈ l, r.key.size ≤ 400 ∧ r.cols.length ≤ 8 := by
  obtain ⟨_, h2, _, h4⟩ := ptB_parts h
  obtain ⟨i1, i2, _⟩ := rsB_up h4
  have hr : ∀ r ∈ l, Up kCo r.cols ∧ ∀ c ∈ r.cols, 0 < c.cell.at_ := fun r hr => by
    obtain ⟨j1, j2, _⟩ := csB_up (rwB_parts (i2 r hr)).2
    exact ⟨j1, j2⟩
  exact ⟨⟨⟨i1, fun r h => (hr r h).1⟩, fun r h c hc => (hr r h).2 c hc, h2⟩, fun r hr => hdB_key (rwB_parts (i2 r hr)).1⟩
theorem num_ok {g : Int} {l : List Ro} (hg : 0 ≤ g) (h : NumRs l) : OkD (g, l) := ⟨h.good, fun r hr c hc => ((h.row r hr).cols c hc).2.2, hg⟩
theorem nil_ok : OkD (0, []) := ⟨⟨List.Pairwise.nil, nofun⟩, nofun, Int.le_refl _⟩
theorem nil_le {p : Dp} (h : OkD p) : LeD (0, []) p := ⟨fun k => leC_nil _, fun k => by
  unfold gOf
  have := h.gone
  show max (0 : Int) 0 ≤ _
  omega, nofun⟩

/-- How much a view is that N deltas were put into. -/
structure BndV (V : Vi) (N : Nat) : Prop where
  len : V.length ≤ N
  rows : ∀ q ∈ V, q.2.length ≤ N
  cols : ∀ q ∈ V, ∀ r ∈ q.2, r.cols.length ≤ 20 * N
theorem BndV.put {V : Vi} {N : Nat} {d : ByteArray × Ro} (h : BndV V N) (hd : d.2.cols.length ≤ 20) : BndV (putV V d) (N + 1) := by
  refine ⟨?_, fun q hq => ?_, fun q hq r hr => ?_⟩
  · rcases putV_keys V d with ⟨k, h1, _, _⟩ | ⟨h1, _⟩
    · have := congrArg List.length h1
      simp only [List.length_map] at this
      have := h.len
      omega
    · have := congrArg List.length h1
      simp only [List.length_map, List.length_append, List.length_cons, List.length_nil] at this
      have := h.len
      omega
  · rcases mem_putV hq with ⟨h1, _⟩ | rfl | ⟨rs, h1, rfl⟩
    · exact Nat.le_succ_of_le (h.rows q h1)
    · show 1 ≤ N + 1
      omega
    · have := mergeG_len keyR joinRo rs [d.2]
      have h2 := h.rows _ h1
      show (mergeRo rs [d.2]).length ≤ _
      unfold mergeRo
      simp only [List.length_cons, List.length_nil] at this h2
      omega
  · rcases mem_putV hq with ⟨h1, _⟩ | rfl | ⟨rs, h1, rfl⟩
    · have := h.cols q h1 r hr; omega
    · rw [List.mem_singleton.1 hr]; omega
    · rcases mem_mergeRs hr with (hm | hm) | ⟨a, ha, b, hb, _, rfl⟩
      · have := h.cols _ h1 r hm; omega
      · rw [List.mem_singleton.1 hm]; omega
      · have h2 := h.cols _ h1 a ha
        rw [List.mem_singleton.1 hb]
        have := mergeG_len keyC joinCo a.cols d.2.cols
        show (mergeCo a.cols d.2.cols).length ≤ _
        unfold mergeCo
        omega
theorem foldl_take {α β : Type} (f : β → α → β) (b : β) (l : List α) (k : Nat) (h : k < l.length) : (l.take (k + 1)).foldl f b = f ((l.take k).foldl f b) l[k] := by
  rw [List.take_succ_eq_append_getElem h, List.foldl_append]
  rfl
theorem VInv.puts {D P : List (ByteArray × Ro)} {V : Vi} (hD : ∀ e ∈ D, Up kCo e.2.cols) : ∀ (l : List (ByteArray × Ro)) (P : List (ByteArray × Ro)) (V : Vi), (∀ e ∈ P, e ∈ D) → (∀ d ∈ l, d ∈ D) → VInv D P V → VInv D (P ++ l) (l.foldl putV V)
  | [], P, V, _, _, h => by rw [List.append_nil]; exact h
  | d :: l, P, V, hP, hl, h => by
    have h1 := VInv.put hD hP (hl d (List.mem_cons_self ..)) h
    have h2 := VInv.puts (P := P) (V := V) hD l (P ++ [d]) (putV V d) (fun e he => by
      rcases List.mem_append.1 he with h | h
      · exact hP e h
      · rw [List.mem_singleton.1 h]; exact hl d (List.mem_cons_self ..)) (fun e he => hl e (List.mem_cons_of_mem _ he)) h1
    rw [List.append_assoc] at h2
    exact h2
section
variable {x : Vw} {ns : List ByteArray} {pk : ByteArray}
theorem stepD_len (g : Int) (r : Ro) (m m' : Option (ByteArray × Ro)) : (stepD x g r m m').length ≤ 2 := by
  cases m with
  | none => cases m' <;> simp [stepD]
  | some p =>
    cases m' with
    | none => simp [stepD]
    | some q =>
      rw [stepD_some]
      split
      · split <;> simp
      · simp
theorem step_len (p p' : Dp) : (stepL x ns pk p p').length ≤ 2 * p'.2.length := by
  unfold stepL
  obtain ⟨g, l⟩ := p'
  show (deltaRs x ns pk p.1 pk g p.2 l).length ≤ 2 * l.length
  induction l with
  | nil => simp [deltaRs]
  | cons r l ih =>
    have := stepD_len (x := x) g r (mirOf x ns pk p.1 (rowOf p.2 r.key)) (mirOf x ns pk g r)
    unfold deltaRs
    simp only [List.length_append, List.length_cons]
    omega
theorem step_few {p p' : Dp} (ho' : OkD p') (hf : ∀ r ∈ p'.2, r.cols.length ≤ 20) {d : ByteArray × Ro} (h : d ∈ stepL x ns pk p p') : d.2.cols.length ≤ 20 := by
  obtain ⟨r', hr', hd⟩ := (mem_step ho').1 h
  obtain ⟨a, s⟩ := d
  rcases mem_stepD hd with e | ⟨P, e, rfl, _⟩
  · obtain ⟨_, _, rfl⟩ := mir_some e
    show (flt _ _).length ≤ _
    rw [rowOf_in ho'.good.1 hr']
    exact Nat.le_trans (List.length_filter_le _ _) (hf r' hr')
  · show (cellL x _).length ≤ _
    unfold cellL
    split <;> simp
theorem inv_up {p : Dp} {D : List (ByteArray × Ro)} (hk : ∀ k, KInv x ns pk p D k) (hkeys : ∀ d ∈ D, ∃ r ∈ p.2, d.2.key = vkey pk r.key) : ∀ e ∈ D, Up kCo e.2.cols := fun e he => by
  obtain ⟨r, _, hr⟩ := hkeys e he
  obtain ⟨a, s⟩ := e
  exact ((hk r.key).each a s he hr).up
/-- What holds of a view on its way. -/
structure OnWay (V : Vi) (N : Nat) : Prop where
  good : ∀ q ∈ V, GoodRs q.2
  bnd : BndV V N
theorem way_take {D P : List (ByteArray × Ro)} {V : Vi} {N : Nat} (hD : ∀ e ∈ D, Up kCo e.2.cols) (hf : ∀ e ∈ D, e.2.cols.length ≤ 20) (l : List (ByteArray × Ro)) (hP : ∀ e ∈ P, e ∈ D) (hl : ∀ d ∈ l, d ∈ D) (hv : VInv D P V) (hb : BndV V N) : ∀ k, k ≤ l.length → OnWay ((l.take k).foldl putV V) (N + k) := fun k hk => by
  refine ⟨(VInv.puts (P := P) (V := V) hD (l.take k) P V hP (fun d hd => hl d (List.mem_of_mem_take hd)) hv).good, ?_⟩
  induction k with
  | zero => exact hb
  | succ k ih =>
    rw [foldl_take _ _ _ _ (by omega)]
    exact (ih (by omega)).put (hf _ (hl _ (List.getElem_mem _)))
/-- One step behind a base, put into a view: all of it. -/
theorem two_steps {p q : Dp} (hp : OkD p) (hq : OkD q) (fp : ∀ r ∈ p.2, r.cols.length ≤ 4) (fq : ∀ r ∈ q.2, r.cols.length ≤ 8) (lp : p.2.length ≤ 4) (lq : q.2.length ≤ 12) (hon : fK ns x.on.data.toList = false) :
    ∃ D1 D2 : List (ByteArray × Ro), D1 = stepL x ns pk (0, []) p ∧ D2 = stepL x ns pk p (joinD p q) ∧ (∀ d ∈ D1 ++ D2, Up kCo d.2.cols ∧ d.2.cols.length ≤ 20) ∧ D1.length ≤ 8 ∧ D2.length ≤ 32 ∧
      (∀ k, k ≤ D1.length → OnWay ((D1.take k).foldl putV []) (0 + k)) ∧ (∀ k, k ≤ D2.length → OnWay ((D2.take k).foldl putV (D1.foldl putV [])) (D1.length + k)) ∧
      ∀ t, (∀ e, e ∈ seenV x (D2.foldl putV (D1.foldl putV [])) t ↔ e ∈ viewRs x ns pk (joinD p q).1 t (joinD p q).2) ∧ (seenV x (D2.foldl putV (D1.foldl putV [])) t).length = (viewRs x ns pk (joinD p q).1 t (joinD p q).2).length := by
  obtain ⟨hn, hle⟩ := joinD_le hp hq
  have hl0 := nil_le hp
  have k1 : ∀ k, KInv x ns pk p (stepL x ns pk (0, []) p) k := fun k => (KInv.start k).step nil_ok hp hl0
  have k2 : ∀ k, KInv x ns pk (joinD p q) (stepL x ns pk (0, []) p ++ stepL x ns pk p (joinD p q)) k := fun k => (k1 k).step hp hn hle
  have y1 : ∀ d ∈ stepL x ns pk (0, []) p, ∃ r ∈ p.2, d.2.key = vkey pk r.key := fun d hd => step_keys hp hd
  have y2 : ∀ d ∈ stepL x ns pk (0, []) p ++ stepL x ns pk p (joinD p q), ∃ r ∈ (joinD p q).2, d.2.key = vkey pk r.key := fun d hd => by
    rcases List.mem_append.1 hd with h | h
    · obtain ⟨r, hr, e⟩ := y1 d h
      obtain ⟨r', hr', e'⟩ := hle.has r hr
      exact ⟨r', hr', by rw [e', e]⟩
    · exact step_keys hn h
  have fn : ∀ r ∈ (joinD p q).2, r.cols.length ≤ 20 := fun r hr => by
    rcases mem_mergeRs hr with (hm | hm) | ⟨a, ha, b, hb, _, rfl⟩
    · have := fp r hm; omega
    · have := fq r hm; omega
    · have h1 := fp a ha
      have h2 := fq b hb
      have := mergeG_len keyC joinCo a.cols b.cols
      show (mergeCo a.cols b.cols).length ≤ _
      unfold mergeCo
      omega
  have u1 := inv_up k1 y1
  have u2 := inv_up k2 y2
  have f1 : ∀ e ∈ stepL x ns pk (0, []) p, e.2.cols.length ≤ 20 := fun e he => step_few hp (fun r hr => by have := fp r hr; omega) he
  have f2 : ∀ e ∈ stepL x ns pk (0, []) p ++ stepL x ns pk p (joinD p q), e.2.cols.length ≤ 20 := fun e he => by
    rcases List.mem_append.1 he with h | h
    · exact f1 e h
    · exact step_few hn fn h
  have len1 : (stepL x ns pk (0, []) p).length ≤ 8 := by have := step_len (x := x) (ns := ns) (pk := pk) (0, []) p; omega
  have len2 : (stepL x ns pk p (joinD p q)).length ≤ 32 := by
    have := step_len (x := x) (ns := ns) (pk := pk) p (joinD p q)
    have h2 := mergeG_len keyR joinRo p.2 q.2
    have h3 : (joinD p q).2.length = (mergeG keyR joinRo p.2 q.2).length := rfl
    omega
  have b0 : BndV [] 0 := ⟨Nat.le_refl _, nofun, nofun⟩
  have w1 := way_take u1 f1 (stepL x ns pk (0, []) p) (P := []) nofun (fun d h => h) (VInv.start _) b0
  have v1 := VInv.puts (P := []) (V := []) u1 (stepL x ns pk (0, []) p) [] [] nofun (fun d h => h) (VInv.start _)
  have v1' : VInv (stepL x ns pk (0, []) p ++ stepL x ns pk p (joinD p q)) (stepL x ns pk (0, []) p) ((stepL x ns pk (0, []) p).foldl putV []) := v1.mono fun d hd => List.mem_append_left _ hd
  have b1 := (w1 _ (Nat.le_refl _)).bnd
  rw [List.take_length, Nat.zero_add] at b1
  have w2 := way_take u2 f2 (stepL x ns pk p (joinD p q)) (P := stepL x ns pk (0, []) p) (fun d h => List.mem_append_left _ h) (fun d h => List.mem_append_right _ h) v1' b1
  have v2 := VInv.puts (P := stepL x ns pk (0, []) p) (V := (stepL x ns pk (0, []) p).foldl putV []) u2 (stepL x ns pk p (joinD p q)) _ _ (fun d h => List.mem_append_left _ h) (fun d h => List.mem_append_right _ h) v1'
  refine ⟨_, _, rfl, rfl, fun d hd => ⟨u2 d hd, f2 d hd⟩, len1, len2, w1, w2, fun t => ?_⟩
  have hm := mem_seen hn hon k2 y2 v2 (fun d h => h) t
  exact ⟨hm, len_seen hn v2.keys v2.good t hm⟩
end
end Go.Proofs.Yteamiiekpjoclaa

/- A list of one row in memory. -/
namespace Go.Proofs.Yteamiiekpjoclaa
open Go Go.RowKit

theorem RowsT.at0 {y : World} {bm cm : Nat} {m : Ro} {vm : Value} (h : RowsT y (.slice (some ⟨bm, 0, none⟩) 1 cm) [(m, vm)]) : RoAt y bm 0 m vm := by
  obtain ⟨a, c, e, _, _, hg⟩ := h.rows.get
  cases e
  obtain ⟨b, o, e, hr⟩ := hg 0 (Nat.zero_lt_one)
  rcases h.tin with ⟨e', _⟩ | ⟨b', c', Z, e', _⟩
  · cases e'
  · cases e'
    cases e
    simpa using hr
theorem RowsT.single {y : World} {a : Option Addr} {n c : Nat} {ps : List (Ro × Value)} {m : Ro} (h : RowsT y (.slice a n c) ps) (hm : ps.map (·.1) = [m]) : ∃ vm bm, ps = [(m, vm)] ∧ a = some ⟨bm, 0, none⟩ ∧ n = 1 := by
  cases ps with
  | nil => cases hm
  | cons p l =>
    cases l with
    | cons q l => cases hm
    | nil =>
      obtain ⟨r, vm⟩ := p
      have e : r = m := by simpa using hm
      subst e
      rcases h.tin with ⟨e, h0, _⟩ | ⟨b, c', Z, e, _⟩
      · cases h0
      · cases e
        exact ⟨vm, b, rfl, rfl, rfl⟩
end Go.Proofs.Yteamiiekpjoclaa

/- delta.Of's closure: what a view's row is that a base's row left is put behind the list. -/
namespace Go.Proofs.Yteamiiekpjoclaa
open Go Go.RowKit
attribute [local go_sem] yields yUpon ro8 pa3 vw5

/-- What stays true in the closure's region. -/
structure LC (w0 ws : World) (S B bl p5 p6 bv bn : Nat) (vl : Value) (L : List Pa) (x : Vw) (u : Value) (wk : ByteArray) (wg : Int) (m : Ro) (vm : Value) (bm cm : Nat) (r : Ro) (v : Value) (nk : ByteArray) (ng : Int) (nu : Value) (y : World) : Prop where
  ext : Ext w0 y
  size : S ≤ y.heap.size
  lbox : BoxAt y bl #[vl] 35
  was : BoxAt y p5 (pa3 wk wg (.slice (some ⟨bm, 0, none⟩) 1 cm)) 39
  row : BoxAt y p6 (ro8 r v) 55
  view : BoxAt y bv (vw5 x u) 31
  now : BoxAt y bn (pa3 nk ng nu) 39
  own : y.ownsRow B 39 3 vl L.length (paCells L)
  rows : ∀ p ∈ L, RowsT y p.rv p.ps
  wrow : RowsT y (.slice (some ⟨bm, 0, none⟩) 1 cm) [(m, vm)]
  keep : ∀ q cs T, BoxAt ws q cs T → q ≠ bl → some q ≠ vl.ownBlock → BoxAt y q cs T
  keepR : ∀ v qs, RowsT ws v qs → RowsT y v qs
theorem LC.ext' {w0 ws : World} {S B bl p5 p6 bv bn : Nat} {vl : Value} {L : List Pa} {x : Vw} {u : Value} {wk : ByteArray} {wg : Int} {m : Ro} {vm : Value} {bm cm : Nat} {r : Ro} {v : Value} {nk : ByteArray} {ng : Int} {nu : Value} {y z : World} (hE : Ext y z)
    (h : LC w0 ws S B bl p5 p6 bv bn vl L x u wk wg m vm bm cm r v nk ng nu y) : LC w0 ws S B bl p5 p6 bv bn vl L x u wk wg m vm bm cm r v nk ng nu z :=
  ⟨h.ext.trans hE, Nat.le_trans h.size hE.le, h.lbox.ext hE, h.was.ext hE, h.row.ext hE, h.view.ext hE, h.now.ext hE, ownsRow_ext h.own hE, fun p hp => (h.rows p hp).ext hE, h.wrow.ext hE, fun q cs T h1 h2 h3 => (h.keep q cs T h1 h2 h3).ext hE, fun v qs h1 => (h.keepR v qs h1).ext hE⟩
set_option maxRecDepth 100000 in
set_option maxHeartbeats 8000000 in
theorem leave_any (bl bv bn B : Nat) (vl : Value) (L : List Pa) (x : Vw) (u : Value) (wk : ByteArray) (wg : Int) (m : Ro) (vm : Value) (bm cm : Nat) (r : Ro) (v : Value) (nk : ByteArray) (ng : Int) (nu : Value) (w0 w : World)
    (hE0 : Ext w0 w) (hB : w0.heap.size ≤ B) (hBw : B ≤ w.heap.size) (hBl : w0.heap.size ≤ bl) (hlb : BoxAt w bl #[vl] 35) (hv : BoxAt w bv (vw5 x u) 31) (hnb : BoxAt w bn (pa3 nk ng nu) 39) (hbn : bn < B)
    (hown : w.ownsRow B 39 3 vl L.length (paCells L)) (hrows : ∀ p ∈ L, RowsT w p.rv p.ps) (hwr : RowsT w (.slice (some ⟨bm, 0, none⟩) 1 cm) [(m, vm)]) (hin : ColsIn w0 v r.cols) (hL : L.length ≤ 100000) :
    Calls Try.prog 46 #[.agg #[.string wk, .int .i64 wg, .slice (some ⟨bm, 0, none⟩) 1 cm], (.agg #[.string r.key, .string r.live.val, .bool r.live.dead, .int .i64 r.live.at_, .int .i64 r.live.fin, .int .i64 r.gone, .int .i64 r.shade, v]), .pointer (some ⟨bl, 0, none⟩), .pointer (some ⟨bv, 0, none⟩), .pointer (some ⟨bn, 0, none⟩)] w fun e w' =>
      (∃ z, e = .returned z) ∧ Ext w0 w' ∧ (∀ q cs T, BoxAt w q cs T → q ≠ bl → some q ≠ vl.ownBlock → BoxAt w' q cs T) ∧ (∀ v qs, RowsT w v qs → RowsT w' v qs) ∧
        ∃ (vl' rv : Value) (ps : List (Ro × Value)), BoxAt w' bl #[vl'] 35 ∧ w'.ownsRow B 39 3 vl' (L.length + 1) (paCells (L ++ [⟨wk, 0, rv, ps⟩])) ∧ RowsT w' rv ps ∧ ps.map (·.1) = [leftRo x m r ng] := by
  have hlt := hlb.lt
  obtain ⟨a0, a1, hE⟩ := boxes2 w (pa3 wk wg (.slice (some ⟨bm, 0, none⟩) 1 cm)) (ro8 r v) 39 55
  obtain ⟨J, hJ⟩ : ∃ J, J = leftRo x m r ng := ⟨_, rfl⟩
  rw [← hJ]
  have HJ := Lib.hid hJ
  clear hJ
  obtain ⟨al, cl, rfl⟩ := own_shape hown
  go_enter Try.func46, Try.ntmps46
  go_wp2_with fail
  have hle := hE0.le
  refine wp_region_relE (LC w0 w w.heap.size B bl w.heap.size (w.heap.size + 1) bv bn (.slice al L.length cl) L x u wk wg m vm bm cm r v nk ng nu) (PE (.slice al L.length cl) B 15) (Tab.atE [(0, fun v _ => v = (.slice al L.length cl)), (2, fun v _ => v = .string wk), (3, fun v _ => v = .agg (vw5 x u)), (5, fun v _ => v = .slice (some ⟨bm, 0, none⟩) 1 cm), (7, fun v _ => v = (.agg #[.string m.key, .string m.live.val, .bool m.live.dead, .int .i64 m.live.at_, .int .i64 m.live.fin, .int .i64 m.gone, .int .i64 m.shade, vm])), (8, fun y _ => y = (.agg #[.string r.key, .string r.live.val, .bool r.live.dead, .int .i64 r.live.at_, .int .i64 r.live.fin, .int .i64 r.gone, .int .i64 r.shade, v])), (10, fun v _ => v = .int .i64 ng), (11, fun v y => ∃ v', v = (.agg #[.string J.key, .string J.live.val, .bool J.live.dead, .int .i64 J.live.at_, .int .i64 J.live.fin, .int .i64 J.gone, .int .i64 J.shade, v']) ∧ ColsT y v' J.cols), (12, fun v y => ∃ b v', v = .slice (some ⟨b, 0, none⟩) 1 1 ∧ BoxAt y b (ro8 J v') 55 ∧ ColsT y v' J.cols), (14, fun v y => ∃ b rv ps, v = .slice (some ⟨b, 0, none⟩) 1 1 ∧ w.heap.size ≤ b ∧ BoxAt y b (pa3 wk 0 rv) 39 ∧ RowsT y rv ps ∧ Hid (ps.map (·.1) = [J])), (15, fun v y => ∃ rv ps, y.ownsRow B 39 3 v (L.length + 1) (paCells (L ++ [⟨wk, 0, rv, ps⟩])) ∧ RowsT y rv ps ∧ Hid (ps.map (·.1) = [J]))])
    (Tab.staysE ⟨fun _ _ _ _ _ _ h => h, fun _ _ _ _ _ _ h => h, fun _ _ _ _ _ _ h => h, fun _ _ _ _ _ _ h => h, fun _ _ _ _ _ _ h => h, fun _ _ _ _ _ _ h => h, fun _ _ _ _ _ _ h => h, fun _ _ _ _ _ hR ⟨v', e, h⟩ => ⟨v', e, PE_tin hR (by decide) h⟩, fun _ _ _ _ _ hR ⟨b, v', e, hb, h⟩ => ⟨b, v', e, PE_box hR (by decide) hb, PE_tin hR (by decide) h⟩, fun _ _ _ _ _ hR ⟨b, rv, ps, e, hb, hx, hr, hm⟩ => ⟨b, rv, ps, e, hb, PE_far hown hR hb hx, PE_rows hR hr, hm⟩, fun _ hj _ _ _ hR ⟨rv, ps, h, hr, hm⟩ => ⟨rv, ps, ownsRow_ext h (PE_off hj hR), PE_rows hR hr, hm⟩, trivial⟩)
    16 (by kernel_rfl) (by kernel_rfl) (by kernel_rfl) ((⟨hE0.trans hE, hE.le, hlb.ext hE, a0, a1, hv.ext hE, hnb.ext hE, ownsRow_ext hown hE, fun p hp => (hrows p hp).ext hE, hwr.ext hE, fun q cs T h1 _ _ => h1.ext hE, fun v qs h1 => h1.ext hE⟩ : LC w0 w w.heap.size B bl w.heap.size (w.heap.size + 1) bv bn (.slice al L.length cl) L x u wk wg m vm bm cm r v nk ng nu _).ext' (Ext.refl _).drew) ?_
  refine relE_val [] rfl rfl rfl (by kernel_rfl) (fun z hz hf => ?_) ?_
  · have q0 : z.cell? ⟨bl, 0, none⟩ = some (.slice al L.length cl) := hz.lbox.cell 0
    go_simp
    exact ⟨hz, PE_ext (by decide) (Ext.refl z), rfl⟩
  simp only [Act.put, List.setIfInBounds_toArray, List.set_cons_zero, List.set_cons_succ]
  refine relE_quiet rfl rfl rfl rfl ?_; intro K hK; go_big_quiet_op; (first | refine ⟨_, fun _ _ => rfl, hK _ ?_⟩ | refine hK _ ?_); clear hK K
  refine relE_val [] rfl rfl rfl (by kernel_rfl) (fun z hz hf => ?_) ?_
  · obtain ⟨q0, q1, q2⟩ := hz.was.pa
    go_simp
    exact ⟨hz, PE_ext (by decide) (Ext.refl z), rfl⟩
  simp only [Act.put, List.setIfInBounds_toArray, List.set_cons_zero, List.set_cons_succ]
  refine relE_val [] rfl rfl rfl (by kernel_rfl) (fun z hz hf => ?_) ?_
  · obtain ⟨q0, q1, q2, q3, q4⟩ := hz.view.vw
    go_simp
    exact ⟨hz, PE_ext (by decide) (Ext.refl z), rfl⟩
  simp only [Act.put, List.setIfInBounds_toArray, List.set_cons_zero, List.set_cons_succ]
  refine relE_quiet rfl rfl rfl rfl ?_; intro K hK; go_big_quiet_op; (first | refine ⟨_, fun _ _ => rfl, hK _ ?_⟩ | refine hK _ ?_); clear hK K
  refine relE_val [] rfl rfl rfl (by kernel_rfl) (fun z hz hf => ?_) ?_
  · obtain ⟨q0, q1, q2⟩ := hz.was.pa
    go_simp
    exact ⟨hz, PE_ext (by decide) (Ext.refl z), rfl⟩
  simp only [Act.put, List.setIfInBounds_toArray, List.set_cons_zero, List.set_cons_succ]
  refine relE_quiet rfl rfl rfl rfl ?_; intro K hK; go_big_quiet_op; (first | refine ⟨_, fun _ _ => rfl, hK _ ?_⟩ | refine hK _ ?_); clear hK K
  refine relE_val [] rfl rfl rfl (by kernel_rfl) (fun z hz hf => ?_) ?_
  · obtain ⟨q0, q1, q2, q3, q4, q5, q6, q7⟩ := hz.wrow.at0
    go_simp
    exact ⟨hz, PE_ext (by decide) (Ext.refl z), rfl⟩
  simp only [Act.put, List.setIfInBounds_toArray, List.set_cons_zero, List.set_cons_succ]
  refine relE_val [] rfl rfl rfl (by kernel_rfl) (fun z hz hf => ?_) ?_
  · obtain ⟨q0, q1, q2, q3, q4, q5, q6, q7⟩ := hz.row.ro
    go_simp
    exact ⟨hz, PE_ext (by decide) (Ext.refl z), rfl⟩
  simp only [Act.put, List.setIfInBounds_toArray, List.set_cons_zero, List.set_cons_succ]
  refine relE_quiet rfl rfl rfl rfl ?_; intro K hK; go_big_quiet_op; (first | refine ⟨_, fun _ _ => rfl, hK _ ?_⟩ | refine hK _ ?_); clear hK K
  refine relE_val [] rfl rfl rfl (by kernel_rfl) (fun z hz hf => ?_) ?_
  · obtain ⟨q0, q1, q2⟩ := hz.now.pa
    go_simp
    exact ⟨hz, PE_ext (by decide) (Ext.refl z), rfl⟩
  simp only [Act.put, List.setIfInBounds_toArray, List.set_cons_zero, List.set_cons_succ]
  refine relE_fact [] rfl rfl rfl (by kernel_rfl) (fun z hz hf => ?_) (fun v8 z8 hC8 hG8 h8 => ?_)
  · go_simp
    refine (left_any x u m r vm v ng z (hin.ext hz.ext)).mono ?_
    rw [← HJ.out]
    rintro e y ⟨v', he, hc, hy⟩
    exact ⟨_, he, hz.ext' hy, PE_ext (by decide) hy, v', rfl, hc⟩
  obtain ⟨v11, rfl, h11⟩ := h8
  obtain ⟨a11, c11, rfl⟩ := h11.shape
  clear hC8 hG8 h11
  simp only [Act.put, List.setIfInBounds_toArray, List.set_cons_zero, List.set_cons_succ]
  refine relE_fact [11] rfl rfl rfl (by kernel_rfl) (fun z hz hf => ?_) (fun v4 z4 hC4 hG4 h4 => ?_)
  · obtain ⟨v', e, hc⟩ := (hf 11 (by simp)).2 rfl
    cases e
    go_simp
    exact ⟨hz.ext' ((Ext.refl z).alloc _), PE_ext (by decide) ((Ext.refl z).alloc _), _, rfl, _, BoxAt.made z _ _, hc.ext ((Ext.refl z).alloc _)⟩
  obtain ⟨b12, v12, rfl, _, _⟩ := h4
  clear hC4 hG4
  simp only [Act.put, List.setIfInBounds_toArray, List.set_cons_zero, List.set_cons_succ]
  refine relE_quiet rfl rfl rfl rfl ?_; intro K hK; go_big_quiet_op; (first | refine ⟨_, fun _ _ => rfl, hK _ ?_⟩ | refine hK _ ?_); clear hK K
  refine relE_fact [12] rfl rfl rfl (by kernel_rfl) (fun z hz hf => ?_) (fun v4 z4 hC4 hG4 h4 => ?_)
  · obtain ⟨b, v', e, hb, hc⟩ := (hf 12 (by simp)).2 rfl
    cases e
    go_simp
    exact ⟨hz.ext' ((Ext.refl z).alloc _), PE_ext (by decide) ((Ext.refl z).alloc _), _, rfl, hz.size, _, BoxAt.made z _ _, _, RowsT.one (hb.ext ((Ext.refl z).alloc _)) (hc.ext ((Ext.refl z).alloc _)), ⟨_, rfl⟩⟩
  obtain ⟨b14, rv14, ps14, rfl, _, _, _, _⟩ := h4
  clear hC4 hG4
  simp only [Act.put, List.setIfInBounds_toArray, List.set_cons_zero, List.set_cons_succ]
  refine relE_fact [14] rfl rfl rfl (by kernel_rfl) (fun z hz hf => ?_) (fun v5 z5 hC5 hG5 h5 => ?_)
  · obtain ⟨b, rv, ps, e, hb, hbox, hr, hm⟩ := (hf 14 (by simp)).2 rfl
    cases e
    obtain ⟨ar, cr, rfl⟩ := hr.shape
    refine yields_append info_Part und_Parts rfl (by decide) (.tmp 7) (.tmp 21) rfl B (Nat.le_trans hBw hz.size) (.slice al L.length cl) L.length (paCells L) hz.own (by rfl) b14 1 1 (pa3 wk 0 (.slice ar ps.length cr)).toList (by rfl) (by rfl) (fun j u hj => by rw [hbox.cell j]; simpa using hj) (by simp [pa3, Value.oneCell']) (by unfold maxLen; omega) (by omega) ?_
    intro v' y hown' hg hkeep
    have hR : PE (.slice al L.length cl) B 15 15 z y := by unfold PE; rw [if_pos rfl]; exact ⟨⟨_, _, hz.own⟩, hg⟩
    refine ⟨⟨hz.ext.grown hg (fun q hq => Nat.le_trans hB (hz.own.lt q hq).1), Nat.le_trans hz.size hg.size, PE_box hR (by decide) hz.lbox, PE_far hown hR (Nat.le_refl _) hz.was, PE_box hR (by decide) hz.row, PE_box hR (by decide) hz.view, hz.now.grown hg (fun e => by have := (hz.own.lt _ e.symm).1; omega), hkeep, fun p hp => PE_rows hR (hz.rows p hp), PE_rows hR hz.wrow, fun q cs T h1 h2 h3 => (hz.keep q cs T h1 h2 h3).grown hg h3, fun v qs h1 => PE_rows hR (hz.keepR v qs h1)⟩, hR, _, _, ?_, PE_rows hR hr, hm⟩
    rw [paCells_append]
    exact hown'
  obtain ⟨rv15, ps15, h5, _, _⟩ := h5
  obtain ⟨a5, c5, rfl⟩ := own_shape h5
  clear hC5 hG5 h5
  simp only [Act.put, List.setIfInBounds_toArray, List.set_cons_zero, List.set_cons_succ]
  refine relE_tail rfl rfl fun w9 hC hG => ?_
  obtain ⟨rv, ps, hown9, hr9, hm9⟩ := (hG 15).2 rfl
  have q0 : w9.cell? ⟨bl, 0, none⟩ = some (.slice al L.length cl) := hC.lbox.cell 0
  have qf := hC.lbox.free 0
  go_wp2_with fail
  refine bodyPost_end (v := .tuple #[]) ?_ rfl ⟨⟨_, rfl⟩, hC.ext.setCell (p := ⟨bl, 0, none⟩) hBl _, fun q cs T h1 h2 h3 => (hC.keep q cs T h1 h2 h3).other h2 0 _, fun v qs h1 => (hC.keepR v qs h1).set 0 _ hC.lbox (by decide) (by decide), _, rv, ps, hC.lbox.set 0 _, own_setCell hown9 (own_ne_box hown9 hC.lbox (by decide)), hr9.set 0 _ hC.lbox (by decide) (by decide), hm9⟩
  simp [results, Try.results46]
end Go.Proofs.Yteamiiekpjoclaa
