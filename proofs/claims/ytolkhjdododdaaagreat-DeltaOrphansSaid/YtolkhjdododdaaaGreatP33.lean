/- The state of the law of Orphan, from step to step (plain). -/
import Derived.Test.YtolkhjdododdaaaGreatP32
import Derived.Test.YtolkhjdododdaaaGreatP8
import Derived.Test.YtolkhjdododdaaaGreatP15
set_option linter.unusedSimpArgs false
set_option linter.unusedVariables false
namespace Go.Proofs.YtolkhjdododdaaaGreat
open Go Go.RowKit

theorem xyz_val (i : Nat) (h : i < 3) : (⟨#[120, 121, 122]⟩ : ByteArray).extract i (i + 1) ∈ valK := by
  have e0 : (⟨#[120, 121, 122]⟩ : ByteArray).extract 0 1 = ⟨#[120]⟩ := ByteArray.ext (by decide)
  have e1 : (⟨#[120, 121, 122]⟩ : ByteArray).extract 1 2 = ⟨#[121]⟩ := ByteArray.ext (by decide)
  have e2 : (⟨#[120, 121, 122]⟩ : ByteArray).extract 2 3 = ⟨#[122]⟩ := ByteArray.ext (by decide)
  obtain rfl | rfl | rfl : i = 0 ∨ i = 1 ∨ i = 2 := by omega
  · rw [e0]; simp [valK]
  · rw [e1]; simp [valK]
  · rw [e2]; simp [valK]
theorem cellN_val (n : Int) (h0 : 0 ≤ n) : (cellN n).val ∈ valK := by
  unfold cellN
  split
  · exact List.mem_cons_self ..
  · have e1 : (n / 28 % 3 + 1).toNat = (n / 28 % 3).toNat + 1 := by omega
    have := xyz_val (n / 28 % 3).toNat (by omega)
    rw [← e1] at this
    exact this
theorem GenCols.vals {k : Nat} {l : List Co} (h : GenCols k l) : ∀ c ∈ l, c.cell.val ∈ valK := by
  induction h with
  | nil => nofun
  | skip _ ih => exact ih
  | put _ hn ih =>
    intro c hc
    rcases List.mem_append.1 hc with hc | hc
    · exact ih c hc
    · rw [List.mem_singleton.1 hc]
      exact cellN_val _ hn
section
variable {x : Vw} {ns : List ByteArray} {pk : ByteArray}
theorem gen_bs {g : Int} {l : List Ro} (hg : 0 ≤ g) (h : GenRows 4 l) : BsOk x (g, l) := by
  have hn := h.num
  refine ⟨num_ok hg hn, h.key, fun r hr c hc => ⟨?_, (h.row r hr).cols.vals c hc⟩⟩
  exact NmL.num (x := x) (hn.row r hr).cols c hc
theorem BsOk.nil : BsOk x (0, []) := ⟨nil_ok, nofun, nofun⟩
theorem BsOk.join {p q : Dp} (h : BsOk x p) (h' : BsOk x q) : BsOk x (joinD p q) ∧ LeD p (joinD p q) := by
  obtain ⟨h1, h2⟩ := joinD_le h.ok h'.ok
  refine ⟨⟨h1, fun r hr => ?_, fun r hr c hc => ?_⟩, h2⟩
  · rcases mem_mergeRs hr with (hm | hm) | ⟨u, hu, v, hv, _, rfl⟩
    · exact h.keys r hm
    · exact h'.keys r hm
    · exact h.keys u hu
  · rcases mem_mergeRs hr with (hm | hm) | ⟨u, hu, v, hv, _, rfl⟩
    · exact h.cols r hm c hc
    · exact h'.cols r hm c hc
    · rcases mem_mergeCo hc with (hm | hm) | ⟨c1, h1, c2, h2, _, rfl⟩
      · exact h.cols u hu c hm
      · exact h'.cols v hv c hm
      · obtain ⟨n1, v1⟩ := h.cols u hu c1 h1
        obtain ⟨n2, v2⟩ := h'.cols v hv c2 h2
        rcases joinCl_or c1.cell c2.cell with e | e
        · exact ⟨n1, by show (joinCl c1.cell c2.cell).val ∈ _; rw [e]; exact v1⟩
        · exact ⟨n1, by show (joinCl c1.cell c2.cell).val ∈ _; rw [e]; exact v2⟩
theorem BsOk.small {p : Dp} (h : BsOk x p) : p.2.length ≤ 4 ∧ ∀ r ∈ p.2, r.cols.length ≤ 5 := by
  refine ⟨h.ok.good.1.len (K := [(ik 0).data.toList, (ik 1).data.toList, (ik 2).data.toList, (ik 3).data.toList]) fun r hr => ?_, fun r hr => ?_⟩
  · obtain ⟨j, hj, e⟩ := h.keys r hr
    unfold kRo
    rw [e]
    obtain rfl | rfl | rfl | rfl : j = 0 ∨ j = 1 ∨ j = 2 ∨ j = 3 := by omega
    all_goals simp
  · exact NmL.len (x := x) (fun c hc => (h.cols r hr c hc).1) (h.ok.good.2 r hr)
/-- A view has few partitions. -/
theorem VwS.few {V : Vi} (h : VwS x ns pk V) (hne : ∀ q ∈ V, q.2 ≠ []) : V.length ≤ 4 := by
  have h1 := nodup_len (m := valK) h.keys fun a ha => by
    obtain ⟨q, hq, rfl⟩ := List.mem_map.1 ha
    obtain ⟨y, hy⟩ := List.exists_mem_of_ne_nil _ (hne q hq)
    exact (h.ir q hq y hy).val
  simpa [valK] using h1
theorem merge_ne {l m : List Ro} (h : l ≠ []) : mergeRo l m ≠ [] := by
  intro e
  unfold mergeRo at e
  cases l with
  | nil => exact h rfl
  | cons a l =>
    cases m with
    | nil => unfold mergeG at e; cases e
    | cons b m =>
      unfold mergeG at e
      split at e
      · cases e
      · split at e
        · cases e
        · cases e
theorem putV_ne {V : Vi} {d : ByteArray × Ro} (h : ∀ q ∈ V, q.2 ≠ []) : ∀ q ∈ putV V d, q.2 ≠ [] := fun q hq => by
  rcases mem_putV hq with ⟨h1, _⟩ | rfl | ⟨rs, h1, rfl⟩
  · exact h q h1
  · exact List.cons_ne_nil _ _
  · exact merge_ne (h _ h1)
theorem puts_ne : ∀ {l : List (ByteArray × Ro)} {V : Vi}, (∀ q ∈ V, q.2 ≠ []) → ∀ q ∈ l.foldl putV V, q.2 ≠ []
  | [], _, h => h
  | d :: l, V, h => puts_ne (l := l) (V := putV V d) (putV_ne h)
theorem putP_ne {V : Vi} {d : ByteArray × List Ro} (hm : d.1 ∈ V.map (·.1)) (h : ∀ q ∈ V, q.2 ≠ []) : ∀ q ∈ putP V d, q.2 ≠ [] := fun q hq => by
  rcases mem_putP hm hq with h1 | ⟨rs, h1, rfl⟩
  · exact h q h1
  · exact merge_ne (h _ h1)
/-- Keys stay where they are. -/
theorem puts_keys : ∀ {l : List (ByteArray × Ro)} {V : Vi}, V.map (·.1) <+: (l.foldl putV V).map (·.1)
  | [], V => List.prefix_refl _
  | d :: l, V => by
    refine List.IsPrefix.trans ?_ (puts_keys (l := l) (V := putV V d))
    rcases putV_keys V d with ⟨_, h1, _, _⟩ | ⟨h1, _⟩
    · rw [h1]; exact List.prefix_refl _
    · rw [h1]; exact List.prefix_append _ _
/-- A base and its view. -/
structure St (x : Vw) (ns : List ByteArray) (pk : ByteArray) (p : Dp) (V : Vi) : Prop where
  base : BsOk x p
  view : VwS x ns pk V
  has : HasM x ns pk p V
  ne : ∀ q ∈ V, q.2 ≠ []
theorem St.start : St x ns pk (0, []) [] := ⟨BsOk.nil, VwS.nil, HasM.nil, nofun⟩
/-- The base is lost. -/
theorem St.lost {p : Dp} {V : Vi} (h : St x ns pk p V) : St x ns pk (0, []) V := ⟨BsOk.nil, h.view, HasM.empty V, h.ne⟩
/-- The view on its way: what a put needs to know. -/
structure OnW (x : Vw) (ns : List ByteArray) (pk : ByteArray) (V : Vi) : Prop where
  view : VwS x ns pk V
  ne : ∀ q ∈ V, q.2 ≠ []
theorem OnW.len {V : Vi} (h : OnW x ns pk V) : V.length ≤ 4 := h.view.few h.ne
theorem St.way {p : Dp} {V : Vi} (h : St x ns pk p V) : OnW x ns pk V := ⟨h.view, h.ne⟩
theorem St.step {p q : Dp} {V : Vi} (h : St x ns pk p V) (hq : BsOk x q) :
    (∀ j, OnW x ns pk (((stepL x ns pk p (joinD p q)).take j).foldl putV V)) ∧ St x ns pk (joinD p q) ((stepL x ns pk p (joinD p q)).foldl putV V) ∧ ∀ A, Fine x ns pk p V A → Fine x ns pk (joinD p q) ((stepL x ns pk p (joinD p q)).foldl putV V) A := by
  obtain ⟨hn, hle⟩ := h.base.join hq
  obtain ⟨h1, h2, h3⟩ := VwS.step h.base hn hle h.view h.has
  refine ⟨fun j => ⟨h1 j, puts_ne h.ne⟩, ⟨hn, ?_, h2, puts_ne h.ne⟩, h3⟩
  have := h1 (stepL x ns pk p (joinD p q)).length
  rw [List.take_length] at this
  exact this
/-- The first i partitions are gone through. -/
def Done (x : Vw) (ns : List ByteArray) (pk : ByteArray) (p : Dp) (V : Vi) (i : Nat) : Prop := Fine x ns pk p V fun a => a ∈ (V.map (·.1)).take i
theorem Done.zero (p : Dp) (V : Vi) : Done x ns pk p V 0 := fun q _ h => by rw [List.take_zero] at h; cases h
theorem Done.all {p : Dp} {V : Vi} {i : Nat} (hi : V.length ≤ i) (h : Done x ns pk p V i) : Fine x ns pk p V fun _ => True := fun q hq _ => h q hq (by
  rw [List.take_of_length_le (by simpa using hi)]
  exact List.mem_map.2 ⟨q, hq, rfl⟩)
theorem St.orph {p : Dp} {V : Vi} {i : Nat} (h : St x ns pk p V) (hd : Done x ns pk p V i) (hi : i < V.length) {p' : Dp} {sh : List Ro} (ep : p' = nextD x pk p V[i].1 V[i].2) (es : sh = shadeD x ns pk p V[i].1 V[i].2) :
    PB x ns pk p V[i].1 V[i].2 ∧ GoodRs sh ∧ OnW x ns pk (putP V (V[i].1, sh)) ∧ (∀ j, OnW x ns pk (((stepL x ns pk p p').take j).foldl putV (putP V (V[i].1, sh)))) ∧ St x ns pk p' ((stepL x ns pk p p').foldl putV (putP V (V[i].1, sh))) ∧ Done x ns pk p' ((stepL x ns pk p p').foldl putV (putP V (V[i].1, sh))) (i + 1) := by
  subst ep
  subst es
  have hmem : V[i] ∈ V := List.getElem_mem hi
  have hb : PB x ns pk p V[i].1 V[i].2 := ⟨h.base, h.view.good _ hmem, h.view.ir _ hmem⟩
  have ha : V[i].1 ∈ V.map (·.1) := List.mem_map.2 ⟨_, hmem, rfl⟩
  obtain ⟨hn, hle⟩ := hb.next
  obtain ⟨s1, s2⟩ := hb.shadeIr
  have same : ∀ q ∈ V, q.1 = V[i].1 → q = V[i] := fun q hq e => nodup_key h.view.keys hq hmem e
  obtain ⟨o1, o2, o3, o4⟩ := VwS.orph h.base hn hle h.view h.has ha s1 (fun s hs => (s2 s hs).1) (fun q hq e y hy k hk => hb.under (by rw [← same q hq e]; exact hy) hk) (fun s hs k hk => ⟨(s2 s hs).2.2 k hk, (s2 s hs).2.1⟩)
    (fun q hq e y hy k hk hm => hb.idle (by rw [← same q hq e]; exact hy) hk hm)
  have hne := putP_ne (d := (V[i].1, shadeD x ns pk p V[i].1 V[i].2)) ha h.ne
  refine ⟨hb, s1, ⟨o1, hne⟩, fun j => ⟨o2 j, puts_ne hne⟩, ⟨hn, ?_, o3, puts_ne hne⟩, ?_⟩
  · have := o2 (stepL x ns pk p (nextD x pk p V[i].1 V[i].2)).length
    rw [List.take_length] at this
    exact this
  · intro q hq hqa
    refine o4 _ hd q hq ?_
    have hpre := puts_keys (l := stepL x ns pk p (nextD x pk p V[i].1 V[i].2)) (V := putP V (V[i].1, shadeD x ns pk p V[i].1 V[i].2))
    rw [putP_keys (d := (V[i].1, shadeD x ns pk p V[i].1 V[i].2)) ha] at hpre
    obtain ⟨t, ht⟩ := hpre
    rw [← ht, List.take_append_of_le_length (by simp; omega), List.take_succ_eq_append_getElem (by simpa using hi)] at hqa
    rcases List.mem_append.1 hqa with h1 | h1
    · exact .inl h1
    · right
      have := List.mem_singleton.1 h1
      simpa using this
theorem St.seen {p : Dp} {V : Vi} (h : St x ns pk p V) (hon : fK ns x.on.data.toList = false) (hf : Fine x ns pk p V fun _ => True) (t : Int) :
    (∀ e, e ∈ seenV x V t ↔ e ∈ viewRs x ns pk p.1 t p.2) ∧ (seenV x V t).length = (viewRs x ns pk p.1 t p.2).length := fine_end h.base hon h.view h.has hf t
end
end Go.Proofs.YtolkhjdododdaaaGreat

/- A list of one row in memory. -/
namespace Go.Proofs.YtolkhjdododdaaaGreat
open Go Go.RowKit

theorem RowsT.at0 {y : World} {bm cm : Nat} {m : Ro} {vm : Value} (h : RowsT y (.slice (some ⟨bm, 0, none⟩) 1 cm) [(m, vm)]) : RoAt y bm 0 m vm := by
  obtain ⟨a, c, e, _, _, hg⟩ := h.rows.get
  cases e
  obtain ⟨b, o, e, hr⟩ := hg 0 (Nat.zero_lt_one)
  rcases h.tin with ⟨e', _⟩ | ⟨b', c', Z, e', _⟩
  · cases e'
  · cases e'
    cases e
    simpa using hr
theorem RowsT.single {y : World} {a : Option Addr} {n c : Nat} {ps : List (Ro × Value)} {m : Ro} (h : RowsT y (.slice a n c) ps) (hm : ps.map (·.1) = [m]) : ∃ vm bm, ps = [(m, vm)] ∧ a = some ⟨bm, 0, none⟩ ∧ n = 1 := by
  cases ps with
  | nil => cases hm
  | cons p l =>
    cases l with
    | cons q l => cases hm
    | nil =>
      obtain ⟨r, vm⟩ := p
      have e : r = m := by simpa using hm
      subst e
      rcases h.tin with ⟨e, h0, _⟩ | ⟨b, c', Z, e, _⟩
      · cases h0
      · cases e
        exact ⟨vm, b, rfl, rfl, rfl⟩
end Go.Proofs.YtolkhjdododdaaaGreat

/- delta.Of's closure: what a view's row is that a base's row left is put behind the list. -/
namespace Go.Proofs.YtolkhjdododdaaaGreat
open Go Go.RowKit
attribute [local go_sem] yields yUpon ro8 pa3 vw5

/-- What stays true in the closure's region. -/
structure LC (w0 ws : World) (S B bl p5 p6 bv bn : Nat) (vl : Value) (L : List Pa) (x : Vw) (u : Value) (wk : ByteArray) (wg : Int) (m : Ro) (vm : Value) (bm cm : Nat) (r : Ro) (v : Value) (nk : ByteArray) (ng : Int) (nu : Value) (y : World) : Prop where
  ext : Ext w0 y
  size : S ≤ y.heap.size
  lbox : BoxAt y bl #[vl] 35
  was : BoxAt y p5 (pa3 wk wg (.slice (some ⟨bm, 0, none⟩) 1 cm)) 39
  row : BoxAt y p6 (ro8 r v) 54
  view : BoxAt y bv (vw5 x u) 31
  now : BoxAt y bn (pa3 nk ng nu) 39
  own : y.ownsRow B 39 3 vl L.length (paCells L)
  rows : ∀ p ∈ L, RowsT y p.rv p.ps
  wrow : RowsT y (.slice (some ⟨bm, 0, none⟩) 1 cm) [(m, vm)]
  keep : ∀ q cs T, BoxAt ws q cs T → q ≠ bl → some q ≠ vl.ownBlock → BoxAt y q cs T
  keepR : ∀ v qs, RowsT ws v qs → RowsT y v qs
theorem LC.ext' {w0 ws : World} {S B bl p5 p6 bv bn : Nat} {vl : Value} {L : List Pa} {x : Vw} {u : Value} {wk : ByteArray} {wg : Int} {m : Ro} {vm : Value} {bm cm : Nat} {r : Ro} {v : Value} {nk : ByteArray} {ng : Int} {nu : Value} {y z : World} (hE : Ext y z)
    (h : LC w0 ws S B bl p5 p6 bv bn vl L x u wk wg m vm bm cm r v nk ng nu y) : LC w0 ws S B bl p5 p6 bv bn vl L x u wk wg m vm bm cm r v nk ng nu z :=
  ⟨h.ext.trans hE, Nat.le_trans h.size hE.le, h.lbox.ext hE, h.was.ext hE, h.row.ext hE, h.view.ext hE, h.now.ext hE, ownsRow_ext h.own hE, fun p hp => (h.rows p hp).ext hE, h.wrow.ext hE, fun q cs T h1 h2 h3 => (h.keep q cs T h1 h2 h3).ext hE, fun v qs h1 => (h.keepR v qs h1).ext hE⟩
set_option maxRecDepth 100000 in
set_option maxHeartbeats 8000000 in
theorem leave_any (bl bv bn B : Nat) (vl : Value) (L : List Pa) (x : Vw) (u : Value) (wk : ByteArray) (wg : Int) (m : Ro) (vm : Value) (bm cm : Nat) (r : Ro) (v : Value) (nk : ByteArray) (ng : Int) (nu : Value) (w0 w : World)
    (hE0 : Ext w0 w) (hB : w0.heap.size ≤ B) (hBw : B ≤ w.heap.size) (hBl : w0.heap.size ≤ bl) (hlb : BoxAt w bl #[vl] 35) (hv : BoxAt w bv (vw5 x u) 31) (hnb : BoxAt w bn (pa3 nk ng nu) 39) (hbn : bn < B)
    (hown : w.ownsRow B 39 3 vl L.length (paCells L)) (hrows : ∀ p ∈ L, RowsT w p.rv p.ps) (hwr : RowsT w (.slice (some ⟨bm, 0, none⟩) 1 cm) [(m, vm)]) (hin : ColsIn w0 v r.cols) (hL : L.length ≤ 100000) :
    Calls Tryz.prog 20 #[.agg #[.string wk, .int .i64 wg, .slice (some ⟨bm, 0, none⟩) 1 cm], (.agg #[.string r.key, .string r.live.val, .bool r.live.dead, .int .i64 r.live.at_, .int .i64 r.live.fin, .int .i64 r.gone, .int .i64 r.shade, v]), .pointer (some ⟨bl, 0, none⟩), .pointer (some ⟨bv, 0, none⟩), .pointer (some ⟨bn, 0, none⟩)] w fun e w' =>
      (∃ z, e = .returned z) ∧ Ext w0 w' ∧ (∀ q cs T, BoxAt w q cs T → q ≠ bl → some q ≠ vl.ownBlock → BoxAt w' q cs T) ∧ (∀ v qs, RowsT w v qs → RowsT w' v qs) ∧
        ∃ (vl' rv : Value) (ps : List (Ro × Value)), BoxAt w' bl #[vl'] 35 ∧ w'.ownsRow B 39 3 vl' (L.length + 1) (paCells (L ++ [⟨wk, 0, rv, ps⟩])) ∧ RowsT w' rv ps ∧ ps.map (·.1) = [leftRo x m r ng] := by
  have hlt := hlb.lt
  obtain ⟨a0, a1, hE⟩ := boxes2 w (pa3 wk wg (.slice (some ⟨bm, 0, none⟩) 1 cm)) (ro8 r v) 39 54
  obtain ⟨J, hJ⟩ : ∃ J, J = leftRo x m r ng := ⟨_, rfl⟩
  rw [← hJ]
  have HJ := Lib.hid hJ
  clear hJ
  obtain ⟨al, cl, rfl⟩ := own_shape hown
  go_enter Tryz.func20, Tryz.ntmps20
  go_wp2_with fail
  have hle := hE0.le
  refine wp_region_relE (LC w0 w w.heap.size B bl w.heap.size (w.heap.size + 1) bv bn (.slice al L.length cl) L x u wk wg m vm bm cm r v nk ng nu) (PE (.slice al L.length cl) B 15) (Tab.atE [(0, fun v _ => v = (.slice al L.length cl)), (2, fun v _ => v = .string wk), (3, fun v _ => v = .agg (vw5 x u)), (5, fun v _ => v = .slice (some ⟨bm, 0, none⟩) 1 cm), (7, fun v _ => v = (.agg #[.string m.key, .string m.live.val, .bool m.live.dead, .int .i64 m.live.at_, .int .i64 m.live.fin, .int .i64 m.gone, .int .i64 m.shade, vm])), (8, fun y _ => y = (.agg #[.string r.key, .string r.live.val, .bool r.live.dead, .int .i64 r.live.at_, .int .i64 r.live.fin, .int .i64 r.gone, .int .i64 r.shade, v])), (10, fun v _ => v = .int .i64 ng), (11, fun v y => ∃ v', v = (.agg #[.string J.key, .string J.live.val, .bool J.live.dead, .int .i64 J.live.at_, .int .i64 J.live.fin, .int .i64 J.gone, .int .i64 J.shade, v']) ∧ ColsT y v' J.cols), (12, fun v y => ∃ b v', v = .slice (some ⟨b, 0, none⟩) 1 1 ∧ BoxAt y b (ro8 J v') 54 ∧ ColsT y v' J.cols), (14, fun v y => ∃ b rv ps, v = .slice (some ⟨b, 0, none⟩) 1 1 ∧ w.heap.size ≤ b ∧ BoxAt y b (pa3 wk 0 rv) 39 ∧ RowsT y rv ps ∧ Hid (ps.map (·.1) = [J])), (15, fun v y => ∃ rv ps, y.ownsRow B 39 3 v (L.length + 1) (paCells (L ++ [⟨wk, 0, rv, ps⟩])) ∧ RowsT y rv ps ∧ Hid (ps.map (·.1) = [J]))])
    (Tab.staysE ⟨fun _ _ _ _ _ _ h => h, fun _ _ _ _ _ _ h => h, fun _ _ _ _ _ _ h => h, fun _ _ _ _ _ _ h => h, fun _ _ _ _ _ _ h => h, fun _ _ _ _ _ _ h => h, fun _ _ _ _ _ _ h => h, fun _ _ _ _ _ hR ⟨v', e, h⟩ => ⟨v', e, PE_tin hR (by decide) h⟩, fun _ _ _ _ _ hR ⟨b, v', e, hb, h⟩ => ⟨b, v', e, PE_box hR (by decide) hb, PE_tin hR (by decide) h⟩, fun _ _ _ _ _ hR ⟨b, rv, ps, e, hb, hx, hr, hm⟩ => ⟨b, rv, ps, e, hb, PE_far hown hR hb hx, PE_rows hR hr, hm⟩, fun _ hj _ _ _ hR ⟨rv, ps, h, hr, hm⟩ => ⟨rv, ps, ownsRow_ext h (PE_off hj hR), PE_rows hR hr, hm⟩, trivial⟩)
    16 (by kernel_rfl) (by kernel_rfl) (by kernel_rfl) ((⟨hE0.trans hE, hE.le, hlb.ext hE, a0, a1, hv.ext hE, hnb.ext hE, ownsRow_ext hown hE, fun p hp => (hrows p hp).ext hE, hwr.ext hE, fun q cs T h1 _ _ => h1.ext hE, fun v qs h1 => h1.ext hE⟩ : LC w0 w w.heap.size B bl w.heap.size (w.heap.size + 1) bv bn (.slice al L.length cl) L x u wk wg m vm bm cm r v nk ng nu _).ext' (Ext.refl _).drew) ?_
  refine relE_val [] rfl rfl rfl (by kernel_rfl) (fun z hz hf => ?_) ?_
  · have q0 : z.cell? ⟨bl, 0, none⟩ = some (.slice al L.length cl) := hz.lbox.cell 0
    go_simp
    exact ⟨hz, PE_ext (by decide) (Ext.refl z), rfl⟩
  simp only [Act.put, List.setIfInBounds_toArray, List.set_cons_zero, List.set_cons_succ]
  refine relE_quiet rfl rfl rfl rfl ?_; intro K hK; go_big_quiet_op; (first | refine ⟨_, fun _ _ => rfl, hK _ ?_⟩ | refine hK _ ?_); clear hK K
  refine relE_val [] rfl rfl rfl (by kernel_rfl) (fun z hz hf => ?_) ?_
  · obtain ⟨q0, q1, q2⟩ := hz.was.pa
    go_simp
    exact ⟨hz, PE_ext (by decide) (Ext.refl z), rfl⟩
  simp only [Act.put, List.setIfInBounds_toArray, List.set_cons_zero, List.set_cons_succ]
  refine relE_val [] rfl rfl rfl (by kernel_rfl) (fun z hz hf => ?_) ?_
  · obtain ⟨q0, q1, q2, q3, q4⟩ := hz.view.vw
    go_simp
    exact ⟨hz, PE_ext (by decide) (Ext.refl z), rfl⟩
  simp only [Act.put, List.setIfInBounds_toArray, List.set_cons_zero, List.set_cons_succ]
  refine relE_quiet rfl rfl rfl rfl ?_; intro K hK; go_big_quiet_op; (first | refine ⟨_, fun _ _ => rfl, hK _ ?_⟩ | refine hK _ ?_); clear hK K
  refine relE_val [] rfl rfl rfl (by kernel_rfl) (fun z hz hf => ?_) ?_
  · obtain ⟨q0, q1, q2⟩ := hz.was.pa
    go_simp
    exact ⟨hz, PE_ext (by decide) (Ext.refl z), rfl⟩
  simp only [Act.put, List.setIfInBounds_toArray, List.set_cons_zero, List.set_cons_succ]
  refine relE_quiet rfl rfl rfl rfl ?_; intro K hK; go_big_quiet_op; (first | refine ⟨_, fun _ _ => rfl, hK _ ?_⟩ | refine hK _ ?_); clear hK K
  refine relE_val [] rfl rfl rfl (by kernel_rfl) (fun z hz hf => ?_) ?_
  · obtain ⟨q0, q1, q2, q3, q4, q5, q6, q7⟩ := hz.wrow.at0
    go_simp
    exact ⟨hz, PE_ext (by decide) (Ext.refl z), rfl⟩
  simp only [Act.put, List.setIfInBounds_toArray, List.set_cons_zero, List.set_cons_succ]
  refine relE_val [] rfl rfl rfl (by kernel_rfl) (fun z hz hf => ?_) ?_
  · obtain ⟨q0, q1, q2, q3, q4, q5, q6, q7⟩ := hz.row.ro
    go_simp
    exact ⟨hz, PE_ext (by decide) (Ext.refl z), rfl⟩
  simp only [Act.put, List.setIfInBounds_toArray, List.set_cons_zero, List.set_cons_succ]
  refine relE_quiet rfl rfl rfl rfl ?_; intro K hK; go_big_quiet_op; (first | refine ⟨_, fun _ _ => rfl, hK _ ?_⟩ | refine hK _ ?_); clear hK K
  refine relE_val [] rfl rfl rfl (by kernel_rfl) (fun z hz hf => ?_) ?_
  · obtain ⟨q0, q1, q2⟩ := hz.now.pa
    go_simp
    exact ⟨hz, PE_ext (by decide) (Ext.refl z), rfl⟩
  simp only [Act.put, List.setIfInBounds_toArray, List.set_cons_zero, List.set_cons_succ]
  refine relE_fact [] rfl rfl rfl (by kernel_rfl) (fun z hz hf => ?_) (fun v8 z8 hC8 hG8 h8 => ?_)
  · go_simp
    refine (left_any x u m r vm v ng z (hin.ext hz.ext)).mono ?_
    rw [← HJ.out]
    rintro e y ⟨v', he, hc, hy⟩
    exact ⟨_, he, hz.ext' hy, PE_ext (by decide) hy, v', rfl, hc⟩
  obtain ⟨v11, rfl, h11⟩ := h8
  obtain ⟨a11, c11, rfl⟩ := h11.shape
  clear hC8 hG8 h11
  simp only [Act.put, List.setIfInBounds_toArray, List.set_cons_zero, List.set_cons_succ]
  refine relE_fact [11] rfl rfl rfl (by kernel_rfl) (fun z hz hf => ?_) (fun v4 z4 hC4 hG4 h4 => ?_)
  · obtain ⟨v', e, hc⟩ := (hf 11 (by simp)).2 rfl
    cases e
    go_simp
    exact ⟨hz.ext' ((Ext.refl z).alloc _), PE_ext (by decide) ((Ext.refl z).alloc _), _, rfl, _, BoxAt.made z _ _, hc.ext ((Ext.refl z).alloc _)⟩
  obtain ⟨b12, v12, rfl, _, _⟩ := h4
  clear hC4 hG4
  simp only [Act.put, List.setIfInBounds_toArray, List.set_cons_zero, List.set_cons_succ]
  refine relE_quiet rfl rfl rfl rfl ?_; intro K hK; go_big_quiet_op; (first | refine ⟨_, fun _ _ => rfl, hK _ ?_⟩ | refine hK _ ?_); clear hK K
  refine relE_fact [12] rfl rfl rfl (by kernel_rfl) (fun z hz hf => ?_) (fun v4 z4 hC4 hG4 h4 => ?_)
  · obtain ⟨b, v', e, hb, hc⟩ := (hf 12 (by simp)).2 rfl
    cases e
    go_simp
    exact ⟨hz.ext' ((Ext.refl z).alloc _), PE_ext (by decide) ((Ext.refl z).alloc _), _, rfl, hz.size, _, BoxAt.made z _ _, _, RowsT.one (hb.ext ((Ext.refl z).alloc _)) (hc.ext ((Ext.refl z).alloc _)), ⟨_, rfl⟩⟩
  obtain ⟨b14, rv14, ps14, rfl, _, _, _, _⟩ := h4
  clear hC4 hG4
  simp only [Act.put, List.setIfInBounds_toArray, List.set_cons_zero, List.set_cons_succ]
  refine relE_fact [14] rfl rfl rfl (by kernel_rfl) (fun z hz hf => ?_) (fun v5 z5 hC5 hG5 h5 => ?_)
  · obtain ⟨b, rv, ps, e, hb, hbox, hr, hm⟩ := (hf 14 (by simp)).2 rfl
    cases e
    obtain ⟨ar, cr, rfl⟩ := hr.shape
    refine yields_append info_Part und_Parts rfl (by decide) (.tmp 7) (.tmp 21) rfl B (Nat.le_trans hBw hz.size) (.slice al L.length cl) L.length (paCells L) hz.own (by rfl) b14 1 1 (pa3 wk 0 (.slice ar ps.length cr)).toList (by rfl) (by rfl) (fun j u hj => by rw [hbox.cell j]; simpa using hj) (by simp [pa3, Value.oneCell']) (by unfold maxLen; omega) (by omega) ?_
    intro v' y hown' hg hkeep
    have hR : PE (.slice al L.length cl) B 15 15 z y := by unfold PE; rw [if_pos rfl]; exact ⟨⟨_, _, hz.own⟩, hg⟩
    refine ⟨⟨hz.ext.grown hg (fun q hq => Nat.le_trans hB (hz.own.lt q hq).1), Nat.le_trans hz.size hg.size, PE_box hR (by decide) hz.lbox, PE_far hown hR (Nat.le_refl _) hz.was, PE_box hR (by decide) hz.row, PE_box hR (by decide) hz.view, hz.now.grown hg (fun e => by have := (hz.own.lt _ e.symm).1; omega), hkeep, fun p hp => PE_rows hR (hz.rows p hp), PE_rows hR hz.wrow, fun q cs T h1 h2 h3 => (hz.keep q cs T h1 h2 h3).grown hg h3, fun v qs h1 => PE_rows hR (hz.keepR v qs h1)⟩, hR, _, _, ?_, PE_rows hR hr, hm⟩
    rw [paCells_append]
    exact hown'
  obtain ⟨rv15, ps15, h5, _, _⟩ := h5
  obtain ⟨a5, c5, rfl⟩ := own_shape h5
  clear hC5 hG5 h5
  simp only [Act.put, List.setIfInBounds_toArray, List.set_cons_zero, List.set_cons_succ]
  refine relE_tail rfl rfl fun w9 hC hG => ?_
  obtain ⟨rv, ps, hown9, hr9, hm9⟩ := (hG 15).2 rfl
  have q0 : w9.cell? ⟨bl, 0, none⟩ = some (.slice al L.length cl) := hC.lbox.cell 0
  have qf := hC.lbox.free 0
  go_wp2_with fail
  refine bodyPost_end (v := .tuple #[]) ?_ rfl ⟨⟨_, rfl⟩, hC.ext.setCell (p := ⟨bl, 0, none⟩) hBl _, fun q cs T h1 h2 h3 => (hC.keep q cs T h1 h2 h3).other h2 0 _, fun v qs h1 => (hC.keepR v qs h1).set 0 _ hC.lbox (by decide) (by decide), _, rv, ps, hC.lbox.set 0 _, own_setCell hown9 (own_ne_box hown9 hC.lbox (by decide)), hr9.set 0 _ hC.lbox (by decide) (by decide), hm9⟩
  simp [results, Tryz.results20]
end Go.Proofs.YtolkhjdododdaaaGreat

/- delta.Of. -/
namespace Go.Proofs.YtolkhjdododdaaaGreat
open Go Go.RowKit
attribute [local go_sem] yields yUpon ro8 pa3 vw5 tabV

/-- What stays true from round to round. -/
structure DS (w : World) (s : Value) (x : Vw) (u : Value) (ok : ByteArray) (og : Int) (ou : Value) (nk : ByteArray) (ng : Int) (nu : Value) (vl : Value) (L : List Pa) (y : World) : Prop where
  ext : Ext w y
  tab : BoxAt y w.heap.size #[.string ⟨#[116]⟩, .int .i64 1, .string ⟨#[112]⟩, .int .i64 1, .string ⟨#[107]⟩, .int .i64 2, s] 28
  view : BoxAt y (w.heap.size + 1) (vw5 x u) 31
  old : BoxAt y (w.heap.size + 1 + 1) (pa3 ok og ou) 39
  now : BoxAt y (w.heap.size + 1 + 1 + 1) (pa3 nk ng nu) 39
  lbox : BoxAt y (w.heap.size + 1 + 1 + 1 + 1) #[vl] 35
  own : y.ownsRow (w.heap.size + 5) 39 3 vl L.length (paCells L)
  rows : ∀ p ∈ L, RowsT y p.rv p.ps
  size : w.heap.size + 5 ≤ y.heap.size
section
variable {w : World} {s : Value} {x : Vw} {u : Value} {ok : ByteArray} {og : Int} {ou : Value} {nk : ByteArray} {ng : Int} {nu : Value} {vl : Value} {L : List Pa}
theorem DS.ext' {y z : World} (hE : Ext y z) (h : DS w s x u ok og ou nk ng nu vl L y) : DS w s x u ok og ou nk ng nu vl L z :=
  ⟨h.ext.trans hE, h.tab.ext hE, h.view.ext hE, h.old.ext hE, h.now.ext hE, h.lbox.ext hE, ownsRow_ext h.own hE, fun p hp => (h.rows p hp).ext hE, Nat.le_trans h.size hE.le⟩
/-- Behind an append in the loop. -/
theorem DS.app {y z : World} {v' : Value} {P : Pa} (h : DS w s x u ok og ou nk ng nu vl L y) (hg : y.grownBy z vl.ownBlock) (hown : z.ownsRow (w.heap.size + 5) 39 3 v' (L.length + 1) (paCells (L ++ [P]))) (hP : RowsT y P.rv P.ps) : DS w s x u ok og ou nk ng nu v' (L ++ [P]) (z.setCell ⟨w.heap.size + 1 + 1 + 1 + 1, 0, none⟩ v') := by
  have ne : ∀ b, b < w.heap.size + 5 → some b ≠ vl.ownBlock := fun b hb e => by have := (h.own.lt _ e.symm).1; omega
  have hl := h.lbox.grown hg (ne _ (by omega))
  refine ⟨(h.ext.grown hg (fun q hq => by have := (h.own.lt q hq).1; omega)).setCell (by show w.heap.size ≤ w.heap.size + 1 + 1 + 1 + 1; omega) _, (h.tab.grown hg (ne _ (by omega))).other (by omega) _ _, (h.view.grown hg (ne _ (by omega))).other (by omega) _ _, (h.old.grown hg (ne _ (by omega))).other (by omega) _ _, (h.now.grown hg (ne _ (by omega))).other (by omega) _ _, hl.set 0 v', ?_, ?_, ?_⟩
  · rw [List.length_append]; exact own_setCell hown (own_ne_box hown hl (by decide))
  · intro p hp
    rcases List.mem_append.1 hp with hp | hp
    · exact ((h.rows p hp).keepOwn h.own hg (by decide) (by decide)).set 0 v' hl (by decide) (by decide)
    · rw [List.mem_singleton.1 hp]
      exact (hP.keepOwn h.own hg (by decide) (by decide)).set 0 v' hl (by decide) (by decide)
  · rw [Deep.nblk_setCell]; exact Nat.le_trans h.size hg.size
/-- Behind the closure. -/
theorem DS.leave {y z : World} {v' : Value} {P : Pa} (h : DS w s x u ok og ou nk ng nu vl L y) (hE : Ext w z) (hkeep : ∀ q cs T, BoxAt y q cs T → q ≠ w.heap.size + 1 + 1 + 1 + 1 → some q ≠ vl.ownBlock → BoxAt z q cs T) (hkeepR : ∀ v qs, RowsT y v qs → RowsT z v qs)
    (hl : BoxAt z (w.heap.size + 1 + 1 + 1 + 1) #[v'] 35) (hown : z.ownsRow (w.heap.size + 5) 39 3 v' (L.length + 1) (paCells (L ++ [P]))) (hP : RowsT z P.rv P.ps) : DS w s x u ok og ou nk ng nu v' (L ++ [P]) z := by
  have ne : ∀ b, b < w.heap.size + 5 → some b ≠ vl.ownBlock := fun b hb e => by have := (h.own.lt _ e.symm).1; omega
  refine ⟨hE, hkeep _ _ _ h.tab (by omega) (ne _ (by omega)), hkeep _ _ _ h.view (by omega) (ne _ (by omega)), hkeep _ _ _ h.old (by omega) (ne _ (by omega)), hkeep _ _ _ h.now (by omega) (ne _ (by omega)), hl, by rw [List.length_append]; exact hown, ?_, by have := hl.lt; omega⟩
  intro p hp
  rcases List.mem_append.1 hp with hp | hp
  · exact hkeepR _ _ (h.rows p hp)
  · rw [List.mem_singleton.1 hp]; exact hP
end
set_option maxRecDepth 100000 in
set_option maxHeartbeats 16000000 in
theorem deltaOf_any (s : Value) (x : Vw) (u : Value) (ns : List ByteArray) (ok : ByteArray) (og : Int) (ou : Value) (pso : List (Ro × Value)) (nk : ByteArray) (ng : Int) (nu : Value) (psn : List (Ro × Value)) (w : World)
    (ho : RowsIn w ou pso) (hn : RowsIn w nu psn) (hns : StrsIn w u ns) (hco : ∀ p ∈ pso, p.1.cols.length ≤ 1000000) (hcn : ∀ p ∈ psn, p.1.cols.length ≤ 1000000) (hlen : psn.length ≤ 10000)
    (hok : ok.size ≤ 10000000) (hnk : nk.size ≤ 10000000) (hkey : ∀ p ∈ psn, p.1.key.size ≤ 10000000 ∧ (vkey ok p.1.key).size ≤ 400 ∧ (vkey nk p.1.key).size ≤ 400) :
    Calls Tryz.prog 10 #[tabV s, .agg #[.string x.name, .int .i64 x.id, .string x.table, .string x.on, u], .agg #[.string ok, .int .i64 og, ou], .agg #[.string nk, .int .i64 ng, nu]] w fun e w' =>
      ∃ v', e = .returned v' ∧ ∃ L, w'.ownsRow w.heap.size 39 3 v' L.length (paCells L) ∧ (∀ p ∈ L, RowsT w' p.rv p.ps) ∧ L.map Pa.data = outP (deltaRs x ns ok og nk ng (pso.map (·.1)) (psn.map (·.1))) ∧ Ext w w' := by
  obtain ⟨a0, a1, a2, a3, a4, hE⟩ := boxes5 w #[.string ⟨#[116]⟩, .int .i64 1, .string ⟨#[112]⟩, .int .i64 1, .string ⟨#[107]⟩, .int .i64 2, s] (vw5 x u) (pa3 ok og ou) (pa3 nk ng nu) #[.slice none 0 0] 28 31 39 39 35
  obtain ⟨aa, ca, rfl, hca, hcma, hget⟩ := hn.get
  obtain ⟨n, hnn⟩ : ∃ n, n = psn.length := ⟨_, rfl⟩
  rw [← hnn] at hlen hca a0 a1 a2 a3 a4 hE ⊢
  have HN := Lib.hid hnn
  have HGET := Lib.hid hget
  have HCS := Lib.hid hn.cols
  have HKEY := Lib.hid hkey
  have hds : DS w s x u ok og ou nk ng (.slice aa n ca) (.slice none 0 0) [] _ := ⟨hE, a0, a1, a2, a3, a4, World.ownsRow_nil _ _ _ _, nofun, by have := a4.lt; omega⟩
  have c3 := a3.pa
  clear hnn hget a0 a1 a2 a4 hE hkey
  unfold tabV
  go_enter Tryz.func10, Tryz.ntmps10
  go_wp2
  go_loopw [23] (fun i wr => ∃ (k : Nat) (vl : Value) (L : List Pa), k ≤ n ∧ i = .int .i64 k ∧ DS w s x u ok og ou nk ng (.slice aa n ca) vl L wr ∧ L.length ≤ 2 * k ∧ Hid (L.map Pa.data = outP (deltaRs x ns ok og nk ng (pso.map (·.1)) ((psn.map (·.1)).take k)))) (fun i _ => n - (intOf i).toNat)
  case atStart => exact ⟨0, _, [], Nat.zero_le _, rfl, hds, by simp, rfl⟩
  case round =>
    obtain ⟨k, vl, L, hk, rfl, hds, hLk, HD⟩ := hrel
    obtain ⟨al, cl, rfl⟩ := own_shape hds.own
    by_cases hlt : k < n
    · have hkp : k < psn.length := by rw [← HN.out]; exact hlt
      have hkc := hcn _ (List.getElem_mem hkp)
      have hcu := HCS.out _ (List.getElem_mem hkp)
      obtain ⟨hky1, hky2, hky3⟩ := HKEY.out _ (List.getElem_mem hkp)
      obtain ⟨b, o, rfl, hat⟩ := HGET.out k hkp
      have hsnoc : (psn.map (·.1)).take (k + 1) = (psn.map (·.1)).take k ++ [psn[k].1] := by
        rw [List.take_succ_eq_append_getElem (by simpa using hkp)]
        simp
      obtain ⟨M, hM⟩ : ∃ M, M = psn[k].1 := ⟨_, rfl⟩
      obtain ⟨au, cu, hu⟩ := hcu.shape
      rw [← hM] at hkc hcu hu hsnoc hat hky1 hky2 hky3
      rw [hu] at hcu hat
      have HSN := Lib.hid hsnoc
      have HK3 := Lib.hid hky3
      clear hM hu hsnoc hky3
      obtain ⟨mm, hmm⟩ : ∃ mm, mm = M.cols.length := ⟨_, rfl⟩
      rw [← hmm] at hcu hat
      clear hmm
      have hcu0 := hcu
      obtain ⟨x0, x1, x2, x3, x4, x5, x6, x7⟩ := hat.ext hds.ext
      obtain ⟨R, hR⟩ : ∃ R, R = rowOf (pso.map (·.1)) M.key := ⟨_, rfl⟩
      have HR := Lib.hid hR
      have hRk : R.key = M.key := by rw [hR]; exact rowOf_is _ _
      have hRc : R.cols.length ≤ 1000000 := by
        rcases rowOf_or (pso.map (·.1)) M.key with h | h
        · obtain ⟨p, hp, e⟩ := List.mem_map.1 h
          rw [hR, ← e]; exact hco p hp
        · rw [hR, h]; decide
      have hk1 : R.key.size ≤ 10000000 := by rw [hRk]; exact hky1
      have hk2 : (vkey ok R.key).size ≤ 400 := by rw [hRk]; exact hky2
      have HK1 := Lib.hid hk1
      have HK2 := Lib.hid hk2
      have HY1 := Lib.hid hky1
      clear hR hRk hk1 hk2 hky2 hky1
      have hsz := hds.size
      go_wp2_with (((guard_target =~ wpList _ _ _ (Oper.mk none (Op.store _ (Operand.tmp 12) (Operand.tmp 26)) _ _ _ _ :: _) _ _); go_must (refine storeBox rfl 54 (.tmp 12) (.tmp 26) rfl (wr.heap.size) _ _ _ (by rfl) (by rfl) ((BoxAt.made wr (ro8 ⟨⟨#[]⟩, zeroCl, 0, 0, []⟩ (.slice none 0 0)) 54)) (by kernel_rfl) (by rfl) (by simp [Value.oneCell']) ?_); intro w1 c1 g1); have hX1 : Ext wr w1 := ((Ext.refl wr).alloc _).grown g1 (fun q hq => by cases hq; omega); have d1 := c1.ro (r := ⟨M.key, M.live, M.gone, M.shade, []⟩) (v := .slice au mm cu); have e1 := (hds.ext' hX1).old.pa)
      have ds1 := hds.ext' hX1
      refine (prow_any ok og ou pso M.key w1 (ho.ext ds1.ext) hco).mono ?_
      rw [← HR.out]
      rintro e w2 ⟨v2, rfl, hc2, hE2⟩
      obtain ⟨a2, cc2, rfl⟩ := hc2.shape
      have ds2 := ds1.ext' hE2
      have r2 : BoxAt w2 wr.heap.size (ro8 M (.slice au mm cu)) 54 := c1.ext hE2
      obtain ⟨rl, hrl⟩ : ∃ rl, rl = R.cols.length := ⟨_, rfl⟩
      rw [← hrl] at hc2
      rw [← hrl]
      clear hrl d1 e1 c1 g1 x0 x1 x2 x3 x4 x5 x6 x7 ds1
      go_wp2_with (((guard_target =~ wpList _ _ _ (Oper.mk none (Op.store _ (Operand.tmp 13) (Operand.tmp 32)) _ _ _ _ :: _) _ _); go_must (refine storeBox rfl 54 (.tmp 13) (.tmp 32) rfl (w2.heap.size) _ _ _ (by rfl) (by rfl) ((BoxAt.made w2 (ro8 ⟨⟨#[]⟩, zeroCl, 0, 0, []⟩ (.slice none 0 0)) 54)) (by kernel_rfl) (by rfl) (by simp [Value.oneCell']) ?_); intro w3 c3 g3); have hX3 : Ext w2 w3 := ((Ext.refl w2).alloc _).grown g3 (fun q hq => by cases hq; omega); have ds3 := ds2.ext' hX3; have d3 := c3.ro (r := ⟨R.key, R.live, R.gone, R.shade, []⟩) (v := .slice a2 rl cc2); have q1 := fun i => (ds3.tab).cell i; have q2 := ds3.view.vw; have q3 := ds3.old.pa; have z0 : w3.cell? ⟨w.heap.size, 0, none⟩ = some (.string ⟨#[116]⟩) := ds3.tab.cell 0; have z1 : w3.cell? ⟨w.heap.size, 1, none⟩ = some (.int .i64 1) := ds3.tab.cell 1; have z2 : w3.cell? ⟨w.heap.size, 2, none⟩ = some (.string ⟨#[112]⟩) := ds3.tab.cell 2; have z3 : w3.cell? ⟨w.heap.size, 3, none⟩ = some (.int .i64 1) := ds3.tab.cell 3; have z4 : w3.cell? ⟨w.heap.size, 4, none⟩ = some (.string ⟨#[107]⟩) := ds3.tab.cell 4; have z5 : w3.cell? ⟨w.heap.size, 5, none⟩ = some (.int .i64 2) := ds3.tab.cell 5; have z6 : w3.cell? ⟨w.heap.size, 6, none⟩ = some s := ds3.tab.cell 6; clear q1)
      have r3 := r2.ext hX3
      refine (mirror_any s x u ns ok og ou R _ w3 (hc2.ext hX3) hRc (hns.ext ds3.ext) hok HK1.out HK2.out).mono ?_
      obtain ⟨m1, hm1⟩ : ∃ m1, m1 = mirOf x ns ok og R := ⟨_, rfl⟩
      rw [← hm1]
      have HM1 := Lib.hid hm1
      clear hm1
      rintro e w4 ⟨rv1, rfl, ps1, hr1, hpm1, hE4⟩
      obtain ⟨ar1, cr1, rfl⟩ := hr1.shape
      have ds4 := ds3.ext' hE4
      have r4 := r3.ext hE4
      clear z0 z1 z2 z3 z4 z5 z6 q2 q3 d3 c3 g3 ds2 r2 r3 ds3
      obtain ⟨n1, hn1⟩ : ∃ n1, n1 = ps1.length := ⟨_, rfl⟩
      rw [← hn1] at hr1 ⊢
      have HN1 := Lib.hid hn1
      clear hn1
      go_wp2_with (((guard_target =~ wpList _ _ _ (Oper.mk none (Op.store _ (Operand.tmp 15) (Operand.tmp 40)) _ _ _ _ :: _) _ _); go_must (refine storeBox rfl 39 (.tmp 15) (.tmp 40) rfl (w4.heap.size) _ _ _ (by rfl) (by rfl) ((BoxAt.made w4 (pa3 ⟨#[]⟩ 0 (.slice none 0 0)) 39)) (by kernel_rfl) (by rfl) (by simp [Value.oneCell']) ?_); intro w5 c5 g5); have hX5 : Ext w4 w5 := ((Ext.refl w4).alloc _).grown g5 (fun q hq => by cases hq; omega); have ds5 := ds4.ext' hX5; have r5 := r4.ext hX5; have d5 := r5.ro; have q2 := ds5.view.vw; have q3 := ds5.now.pa; have z0 : w5.cell? ⟨w.heap.size, 0, none⟩ = some (.string ⟨#[116]⟩) := ds5.tab.cell 0; have z1 : w5.cell? ⟨w.heap.size, 1, none⟩ = some (.int .i64 1) := ds5.tab.cell 1; have z2 : w5.cell? ⟨w.heap.size, 2, none⟩ = some (.string ⟨#[112]⟩) := ds5.tab.cell 2; have z3 : w5.cell? ⟨w.heap.size, 3, none⟩ = some (.int .i64 1) := ds5.tab.cell 3; have z4 : w5.cell? ⟨w.heap.size, 4, none⟩ = some (.string ⟨#[107]⟩) := ds5.tab.cell 4; have z5 : w5.cell? ⟨w.heap.size, 5, none⟩ = some (.int .i64 2) := ds5.tab.cell 5; have z6 : w5.cell? ⟨w.heap.size, 6, none⟩ = some s := ds5.tab.cell 6)
      refine (mirror_any s x u ns nk ng _ M _ w5 (hcu0.ext ds5.ext) hkc (hns.ext ds5.ext) hnk HY1.out HK3.out).mono ?_
      obtain ⟨m2, hm2⟩ : ∃ m2, m2 = mirOf x ns nk ng M := ⟨_, rfl⟩
      rw [← hm2]
      have HM2 := Lib.hid hm2
      clear hm2
      rintro e w6 ⟨rv2, rfl, ps2, hr2, hpm2, hE6⟩
      obtain ⟨ar2, cr2, rfl⟩ := hr2.shape
      have p5 : BoxAt w5 w4.heap.size (pa3 (mirK m1) 0 (.slice ar1 n1 cr1)) 39 := c5
      have p6 := p5.ext hE6
      have ds6 := ds5.ext' hE6
      have r6 := r5.ext hE6
      have rr6 := (hr1.ext hX5).ext hE6
      have hlt4 : wr.heap.size < w4.heap.size := r4.lt
      clear z0 z1 z2 z3 z4 z5 z6 q2 q3 d5 c5 g5 ds4 r4 r5 ds5 p5 hr1
      obtain ⟨n2, hn2⟩ : ∃ n2, n2 = ps2.length := ⟨_, rfl⟩
      rw [← hn2] at hr2 ⊢
      have HN2 := Lib.hid hn2
      clear hn2
      have HSTEP : Hid (deltaRs x ns ok og nk ng (pso.map (·.1)) ((psn.map (·.1)).take (k + 1)) = deltaRs x ns ok og nk ng (pso.map (·.1)) ((psn.map (·.1)).take k) ++ stepD x ng M m1 m2) := by
        show _ = _
        rw [HSN.out, deltaRs_snoc, ← HR.out, ← HM1.out, ← HM2.out]
      cases m1 with
      | none =>
        cases m2 with
        | none =>
          go_wp2_with (((guard_target =~ wpList _ _ _ (Oper.mk none (Op.store _ (Operand.tmp 17) (Operand.tmp 48)) _ _ _ _ :: _) _ _); go_must (refine storeBox rfl 39 (.tmp 17) (.tmp 48) rfl (w6.heap.size) _ _ _ (by rfl) (by rfl) ((BoxAt.made w6 (pa3 ⟨#[]⟩ 0 (.slice none 0 0)) 39)) (by kernel_rfl) (by rfl) (by simp [Value.oneCell']) ?_); intro w7 c7 g7); have hX7 : Ext w6 w7 := ((Ext.refl w6).alloc _).grown g7 (fun q hq => by cases hq; omega); have ds7 := ds6.ext' hX7; have p7 := (p6.ext hX7).pa; have r7 := (r6.ext hX7).ro; have l7 : w7.cell? ⟨w.heap.size + 1 + 1 + 1 + 1, 0, none⟩ = some (.slice al L.length cl) := ds7.lbox.cell 0)
          go_roundw
          case rel =>
            refine ⟨k + 1, _, _, hlt, rfl, ds7, by omega, ?_⟩
            show _ = _
            rw [HSTEP.out, HD.out]
            simp [stepD, outP]
          case measure => simp [intOf]; omega
        | some q =>
          go_wp2_with (first | (((guard_target =~ wpList _ _ _ (Oper.mk none (Op.store _ (Operand.tmp 17) (Operand.tmp 48)) _ _ _ _ :: _) _ _); go_must (refine storeBox rfl 39 (.tmp 17) (.tmp 48) rfl (w6.heap.size) _ _ _ (by rfl) (by rfl) ((BoxAt.made w6 (pa3 ⟨#[]⟩ 0 (.slice none 0 0)) 39)) (by kernel_rfl) (by rfl) (by simp [Value.oneCell']) ?_); intro w7 c7 g7); have hX7 : Ext w6 w7 := ((Ext.refl w6).alloc _).grown g7 (fun q hq => by cases hq; omega); have ds7 := ds6.ext' hX7; have p7 := (p6.ext hX7).pa; have r7 := (r6.ext hX7).ro; have l7 : w7.cell? ⟨w.heap.size + 1 + 1 + 1 + 1, 0, none⟩ = some (.slice al L.length cl) := ds7.lbox.cell 0; have m7 := c7.pa (k := mirK (some q)) (g := 0) (u := .slice ar2 n2 cr2)) | (at_builtin; go_must (refine appR info_Part und_Parts rfl (by decide) w7 rfl (.tmp 76) (.tmp 78) rfl (w.heap.size + 5) ds7.size (.slice al L.length cl) L.length (paCells L) ds7.own rfl 1 (pa3 (mirK (some q)) 0 (.slice ar2 n2 cr2)) rfl rfl (by simp [pa3, Value.oneCell']) (by unfold maxLen; omega) (by omega) ?_); intro v20 w20 hown20 hg20; obtain ⟨a20, c20, rfl⟩ := own_shape hown20; have ds20 := ds7.ext' ((Ext.refl w7).alloc (.cells (pa3 (mirK (some q)) 0 (.slice ar2 n2 cr2)) 39)); have hl20 := ds20.lbox.grown hg20 (fun e => by have := (ds20.own.lt _ e.symm).1; omega); have l20 : w20.cell? ⟨w.heap.size + 1 + 1 + 1 + 1, 0, none⟩ = some (.slice al L.length cl) := hl20.cell 0; have f20 := hl20.free 0))
          go_roundw
          case rel =>
            refine ⟨k + 1, _, _, hlt, rfl, (DS.app (P := ⟨mirK (some q), 0, .slice ar2 n2 cr2, ps2⟩) ds20 hg20 (by rw [paCells_append]; exact hown20) ((hr2.ext hX7).ext ((Ext.refl _).alloc _))), by simp; omega, ?_⟩
            show _ = _
            rw [HSTEP.out, List.map_append, HD.out]
            simp [stepD, outP, Pa.data, hpm2, mirR, mirK]
          case measure => simp [intOf]; omega
      | some p =>
        cases m2 with
        | none =>
          obtain ⟨vm, bm, rfl, rfl, rfl⟩ := rr6.single hpm1
          go_wp2_with (((guard_target =~ wpList _ _ _ (Oper.mk none (Op.store _ (Operand.tmp 17) (Operand.tmp 48)) _ _ _ _ :: _) _ _); go_must (refine storeBox rfl 39 (.tmp 17) (.tmp 48) rfl (w6.heap.size) _ _ _ (by rfl) (by rfl) ((BoxAt.made w6 (pa3 ⟨#[]⟩ 0 (.slice none 0 0)) 39)) (by kernel_rfl) (by rfl) (by simp [Value.oneCell']) ?_); intro w7 c7 g7); have hX7 : Ext w6 w7 := ((Ext.refl w6).alloc _).grown g7 (fun q hq => by cases hq; omega); have ds7 := ds6.ext' hX7; have p7 := (p6.ext hX7).pa; have r7 := (r6.ext hX7).ro; have l7 : w7.cell? ⟨w.heap.size + 1 + 1 + 1 + 1, 0, none⟩ = some (.slice al L.length cl) := ds7.lbox.cell 0)
          have rr7 := rr6.ext hX7
          refine (leave_any (w.heap.size + 1 + 1 + 1 + 1) (w.heap.size + 1) (w.heap.size + 1 + 1 + 1) (w.heap.size + 5) _ L x u _ 0 p.2 vm bm cr1 M (.slice au mm cu) nk ng _ w w7 ds7.ext (by omega) ds7.size (by omega) ds7.lbox ds7.view ds7.now (by omega) ds7.own ds7.rows rr7 hcu0 (by omega)).mono ?_
          rintro e w8 ⟨⟨zz, rfl⟩, hE8, hkeep, hkeepR, vl8, rv8, ps8, hl8, hown8, hr8, hm8⟩
          obtain ⟨a8, c8, rfl⟩ := own_shape hown8
          have ds8 := DS.leave (P := ⟨mirK (some p), 0, rv8, ps8⟩) ds7 hE8 hkeep hkeepR hl8 hown8 hr8
          clear p7 r7 l7
          go_wp2_with fail
          go_roundw
          case rel =>
            refine ⟨k + 1, _, _, hlt, rfl, ds8, by simp; omega, ?_⟩
            show _ = _
            rw [HSTEP.out, List.map_append, HD.out]
            simp [stepD, outP, Pa.data, hm8, mirK]
          case measure => simp [intOf]; omega
        | some q =>
          by_cases hpk : p.1 = q.1
          · by_cases hpq : p = q
            · obtain ⟨vm, bm, rfl, rfl, rfl⟩ := rr6.single hpm1
              subst hpq
              clear hpk
              go_wp2_with (((guard_target =~ wpList _ _ _ (Oper.mk none (Op.store _ (Operand.tmp 17) (Operand.tmp 48)) _ _ _ _ :: _) _ _); go_must (refine storeBox rfl 39 (.tmp 17) (.tmp 48) rfl (w6.heap.size) _ _ _ (by rfl) (by rfl) ((BoxAt.made w6 (pa3 ⟨#[]⟩ 0 (.slice none 0 0)) 39)) (by kernel_rfl) (by rfl) (by simp [Value.oneCell']) ?_); intro w7 c7 g7); have hX7 : Ext w6 w7 := ((Ext.refl w6).alloc _).grown g7 (fun q hq => by cases hq; omega); have ds7 := ds6.ext' hX7; have p7 := (p6.ext hX7).pa; have r7 := (r6.ext hX7).ro; have l7 : w7.cell? ⟨w.heap.size + 1 + 1 + 1 + 1, 0, none⟩ = some (.slice al L.length cl) := ds7.lbox.cell 0; have m7 := c7.pa (k := mirK (some p)) (g := 0) (u := .slice ar2 n2 cr2))
              refine (partSame_any (mirK (some p)) (mirK (some p)) 0 0 _ _ [(p.2, vm)] ps2 w7 (rr6.ext hX7).rows (hr2.ext hX7).rows).mono ?_
              rw [hpm2, show ([(p.2, vm)] : List (Ro × Value)).map (·.1) = [p.2] from rfl]
              rw [eqB_true (show (mirK (some p), (0 : Int), [p.2]) = (mirK (some p), 0, mirR (some p)) from rfl)]
              rintro e w8 ⟨rfl, hE8⟩
              have ds8 := ds7.ext' hE8
              clear p7 r7 l7 m7
              go_wp2_with fail
              go_roundw
              case rel =>
                refine ⟨k + 1, _, _, hlt, rfl, ds8, by omega, ?_⟩
                show _ = _
                rw [HSTEP.out, HD.out]
                simp [stepD, outP, eqB_true]
              case measure => simp [intOf]; omega
            · obtain ⟨vm, bm, rfl, rfl, rfl⟩ := rr6.single hpm1
              have hkb : ((mirK (some p)).toList == (mirK (some q)).toList) = true := by simpa [mirK] using congrArg ByteArray.toList hpk
              go_wp2_with (((guard_target =~ wpList _ _ _ (Oper.mk none (Op.store _ (Operand.tmp 17) (Operand.tmp 48)) _ _ _ _ :: _) _ _); go_must (refine storeBox rfl 39 (.tmp 17) (.tmp 48) rfl (w6.heap.size) _ _ _ (by rfl) (by rfl) ((BoxAt.made w6 (pa3 ⟨#[]⟩ 0 (.slice none 0 0)) 39)) (by kernel_rfl) (by rfl) (by simp [Value.oneCell']) ?_); intro w7 c7 g7); have hX7 : Ext w6 w7 := ((Ext.refl w6).alloc _).grown g7 (fun q hq => by cases hq; omega); have ds7 := ds6.ext' hX7; have p7 := (p6.ext hX7).pa; have r7 := (r6.ext hX7).ro; have l7 : w7.cell? ⟨w.heap.size + 1 + 1 + 1 + 1, 0, none⟩ = some (.slice al L.length cl) := ds7.lbox.cell 0; have m7 := c7.pa (k := mirK (some q)) (g := 0) (u := .slice ar2 n2 cr2))
              refine (partSame_any (mirK (some p)) (mirK (some q)) 0 0 _ _ [(p.2, vm)] ps2 w7 (rr6.ext hX7).rows (hr2.ext hX7).rows).mono ?_
              rw [hpm2, show ([(p.2, vm)] : List (Ro × Value)).map (·.1) = [p.2] from rfl]
              rw [eqB_false (show (mirK (some p), (0 : Int), [p.2]) ≠ (mirK (some q), 0, mirR (some q)) from fun e => hpq (by
                have e1 : p.1 = q.1 := (Prod.mk.inj e).1
                have e2 : [p.2] = [q.2] := (Prod.mk.inj (Prod.mk.inj e).2).2
                exact Prod.ext e1 (by simpa using e2)))]
              rintro e w8 ⟨rfl, hE8⟩
              have ds8 := ds7.ext' hE8
              have l8 : w8.cell? ⟨w.heap.size + 1 + 1 + 1 + 1, 0, none⟩ = some (.slice al L.length cl) := ds8.lbox.cell 0
              have m8 := (c7.ext hE8).pa (k := mirK (some q)) (g := 0) (u := .slice ar2 n2 cr2)
              clear p7 r7 l7 m7
              go_wp2_with (at_builtin; go_must (refine appR info_Part und_Parts rfl (by decide) w8 rfl (.tmp 76) (.tmp 78) rfl (w.heap.size + 5) ds8.size (.slice al L.length cl) L.length (paCells L) ds8.own rfl 1 (pa3 (mirK (some q)) 0 (.slice ar2 n2 cr2)) rfl rfl (by simp [pa3, Value.oneCell']) (by unfold maxLen; omega) (by omega) ?_); intro v20 w20 hown20 hg20; obtain ⟨a20, c20, rfl⟩ := own_shape hown20; have ds20 := ds8.ext' ((Ext.refl w8).alloc (.cells (pa3 (mirK (some q)) 0 (.slice ar2 n2 cr2)) 39)); have hl20 := ds20.lbox.grown hg20 (fun e => by have := (ds20.own.lt _ e.symm).1; omega); have l20 : w20.cell? ⟨w.heap.size + 1 + 1 + 1 + 1, 0, none⟩ = some (.slice al L.length cl) := hl20.cell 0; have f20 := hl20.free 0)
              go_roundw
              case rel =>
                refine ⟨k + 1, _, _, hlt, rfl, (DS.app (P := ⟨mirK (some q), 0, .slice ar2 n2 cr2, ps2⟩) ds20 hg20 (by rw [paCells_append]; exact hown20) ((hr2.ext (hX7.trans hE8)).ext ((Ext.refl _).alloc _))), by simp; omega, ?_⟩
                show _ = _
                rw [HSTEP.out, List.map_append, HD.out]
                simp [stepD, outP, Pa.data, hpm2, mirR, mirK, eqB_true hpk, eqB_false hpq]
              case measure => simp [intOf]; omega
          · obtain ⟨vm, bm, rfl, rfl, rfl⟩ := rr6.single hpm1
            have hkb : ((mirK (some p)).toList == (mirK (some q)).toList) = false := by simp [mirK]; exact fun e => hpk (bytes_ext e)
            go_wp2_with (((guard_target =~ wpList _ _ _ (Oper.mk none (Op.store _ (Operand.tmp 17) (Operand.tmp 48)) _ _ _ _ :: _) _ _); go_must (refine storeBox rfl 39 (.tmp 17) (.tmp 48) rfl (w6.heap.size) _ _ _ (by rfl) (by rfl) ((BoxAt.made w6 (pa3 ⟨#[]⟩ 0 (.slice none 0 0)) 39)) (by kernel_rfl) (by rfl) (by simp [Value.oneCell']) ?_); intro w7 c7 g7); have hX7 : Ext w6 w7 := ((Ext.refl w6).alloc _).grown g7 (fun q hq => by cases hq; omega); have ds7 := ds6.ext' hX7; have p7 := (p6.ext hX7).pa; have r7 := (r6.ext hX7).ro; have l7 : w7.cell? ⟨w.heap.size + 1 + 1 + 1 + 1, 0, none⟩ = some (.slice al L.length cl) := ds7.lbox.cell 0; have m7 := c7.pa (k := mirK (some q)) (g := 0) (u := .slice ar2 n2 cr2))
            have rr7 := rr6.ext hX7
            refine (leave_any (w.heap.size + 1 + 1 + 1 + 1) (w.heap.size + 1) (w.heap.size + 1 + 1 + 1) (w.heap.size + 5) _ L x u _ 0 p.2 vm bm cr1 M (.slice au mm cu) nk ng _ w w7 ds7.ext (by omega) ds7.size (by omega) ds7.lbox ds7.view ds7.now (by omega) ds7.own ds7.rows rr7 hcu0 (by omega)).mono ?_
            rintro e w8 ⟨⟨zz, rfl⟩, hE8, hkeep, hkeepR, vl8, rv8, ps8, hl8, hown8, hr8, hm8⟩
            obtain ⟨a8, c8, rfl⟩ := own_shape hown8
            have ds8 := DS.leave (P := ⟨mirK (some p), 0, rv8, ps8⟩) ds7 hE8 hkeep hkeepR hl8 hown8 hr8
            have hq7 : BoxAt w7 w6.heap.size (pa3 (mirK (some q)) 0 (.slice ar2 n2 cr2)) 39 := c7
            have hlt6 := p6.lt
            have p8 := (hkeep _ _ _ (p6.ext hX7) (by omega) (fun e => by have := (hds.own.lt _ e.symm).2; omega))
            have q8 := (hkeep _ _ _ hq7 (by omega) (fun e => by have := (hds.own.lt _ e.symm).2; omega))
            have p8c := p8.pa
            have q8c := q8.pa
            have rr8 := hkeepR _ _ rr7
            have rq8 := hkeepR _ _ (hr2.ext hX7)
            clear p7 r7 l7 m7
            go_wp2_with fail
            refine (partSame_any (mirK (some p)) (mirK (some q)) 0 0 _ _ [(p.2, vm)] ps2 w8 (rr8).rows (rq8).rows).mono ?_
            rw [hpm2, show ([(p.2, vm)] : List (Ro × Value)).map (·.1) = [p.2] from rfl]
            rw [eqB_false (show (mirK (some p), (0 : Int), [p.2]) ≠ (mirK (some q), 0, mirR (some q)) from fun e => hpk (Prod.mk.inj e).1)]
            rintro e w9 ⟨rfl, hE9⟩
            have ds9 := ds8.ext' hE9
            have l9 : w9.cell? ⟨w.heap.size + 1 + 1 + 1 + 1, 0, none⟩ = some (.slice a8 (L.length + 1) c8) := ds9.lbox.cell 0
            have m9 := (q8.ext hE9).pa
            clear p8c q8c
            have hLL : (L ++ [(⟨mirK (some p), 0, rv8, ps8⟩ : Pa)]).length ≤ 30000 := by simp; omega
            go_wp2_with (at_builtin; go_must (refine appR info_Part und_Parts rfl (by decide) w9 rfl (.tmp 76) (.tmp 78) rfl (w.heap.size + 5) ds9.size (.slice a8 (L.length + 1) c8) (L ++ [(⟨mirK (some p), 0, rv8, ps8⟩ : Pa)]).length (paCells (L ++ [⟨mirK (some p), 0, rv8, ps8⟩])) ds9.own rfl 1 (pa3 (mirK (some q)) 0 (.slice ar2 n2 cr2)) rfl rfl (by simp [pa3, Value.oneCell']) (by unfold maxLen; have h30 := hLL; simp only [List.length_append, List.length_cons, List.length_nil] at h30 ⊢; omega) (by have h30 := hLL; simp only [List.length_append, List.length_cons, List.length_nil] at h30 ⊢; omega) ?_); intro v20 w20 hown20 hg20; simp only [List.length_append, List.length_cons, List.length_nil, Nat.zero_add] at hown20; obtain ⟨a20, c20, rfl⟩ := own_shape hown20; have ds20 := ds9.ext' ((Ext.refl w9).alloc (.cells (pa3 (mirK (some q)) 0 (.slice ar2 n2 cr2)) 39)); have hl20 := ds20.lbox.grown hg20 (fun e => by have := (ds20.own.lt _ e.symm).1; omega); have l20 : w20.cell? ⟨w.heap.size + 1 + 1 + 1 + 1, 0, none⟩ = some (.slice a8 (L.length + 1) c8) := hl20.cell 0; have f20 := hl20.free 0)
            go_roundw
            case rel =>
              refine ⟨k + 1, _, _, hlt, rfl, (DS.app (P := ⟨mirK (some q), 0, .slice ar2 n2 cr2, ps2⟩) ds20 hg20 (by rw [paCells_append, List.length_append]; exact hown20) ((rq8.ext hE9).ext ((Ext.refl _).alloc _))), by simp; omega, ?_⟩
              show _ = _
              rw [HSTEP.out, List.map_append, List.map_append, HD.out]
              simp [stepD, outP, Pa.data, hpm2, hm8, mirR, mirK, eqB_false hpk]
            case measure => simp [intOf]; omega
    · obtain rfl : k = n := by omega
      have l7 : wr.cell? ⟨w.heap.size + 1 + 1 + 1 + 1, 0, none⟩ = some (.slice al L.length cl) := hds.lbox.cell 0
      go_wp2_with fail
      go_ret
      refine ⟨_, rfl, L, ownsRow_base hds.own (by omega), hds.rows, ?_, hds.ext⟩
      rw [HD.out, List.take_of_length_le (by simp; rw [← HN.out]; exact Nat.le_refl _)]
end Go.Proofs.YtolkhjdododdaaaGreat
