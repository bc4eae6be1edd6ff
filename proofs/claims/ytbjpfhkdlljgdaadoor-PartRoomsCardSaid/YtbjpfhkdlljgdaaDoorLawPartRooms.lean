/- PartRooms: as many rows as may be, and one too many: the law's walk. -/
import Derived.Test.YtbjpfhkdlljgdaaDoorAwake8
import Derived.Test.YtbjpfhkdlljgdaaDoorKey3
import Derived.Test.YtbjpfhkdlljgdaaDoorGen
import Derived.Test.YtbjpfhkdlljgdaaDoorPartCheck
import Derived.Test.YtbjpfhkdlljgdaaDoorStoreE
namespace Go.Proofs.YtbjpfhkdlljgdaaDoor
open Go Go.RowKit
attribute [local go_sem] yields yUpon ro8 pa3

/-! ### The plain law -/
def rmRow (i : Nat) (a : Int) : Ro := ⟨key3 i, ⟨⟨#[]⟩, false, a, 0⟩, 0, 0, []⟩
def rg (s : Nat) : Nat → Int → List Ro
  | 0, _ => []
  | c + 1, a => rmRow s a :: rg (s + 1) c a
theorem rg_length (a : Int) : ∀ c s, (rg s c a).length = c
  | 0, _ => rfl
  | c + 1, s => by rw [rg, List.length_cons, rg_length a c]
theorem rg_snoc (a : Int) : ∀ c s, rg s (c + 1) a = rg s c a ++ [rmRow (s + c) a]
  | 0, s => rfl
  | c + 1, s => by
    rw [rg, rg_snoc a c (s + 1), rg]
    simp only [List.cons_append]
    rw [show s + 1 + c = s + (c + 1) by omega]
theorem rg_mem {a : Int} : ∀ {c s : Nat} {r : Ro}, r ∈ rg s c a → ∃ i, s ≤ i ∧ i < s + c ∧ r = rmRow i a
  | c + 1, s, r, h => by
    rcases List.mem_cons.1 h with rfl | h
    · exact ⟨s, Nat.le_refl _, by omega, rfl⟩
    · obtain ⟨i, h1, h2, e⟩ := rg_mem h
      exact ⟨i, by omega, by omega, e⟩
theorem rg_get (a : Int) : ∀ (c s k : Nat), k < c → (rg s c a)[k]? = some (rmRow (s + k) a)
  | c + 1, s, 0, _ => rfl
  | c + 1, s, k + 1, h => by
    rw [rg, List.getElem?_cons_succ, rg_get a c (s + 1) k (by omega), show s + 1 + k = s + (k + 1) by omega]
theorem rm_key {i j : Nat} {a b : Int} (h : i < j) (hj : j < 1000) : keyR (rmRow i a) (rmRow j b) < 0 := by
  show cmpB (key3 i).data.toList (key3 j).data.toList < 0
  rw [key3_cmp h hj]; decide
theorem rm_join (i : Nat) : joinRo (rmRow i 1) (rmRow i 2) = rmRow i 2 := by
  have e1 : joinCl ⟨⟨#[]⟩, false, 1, 0⟩ ⟨⟨#[]⟩, false, 2, 0⟩ = ⟨⟨#[]⟩, false, 2, 0⟩ := by unfold joinCl; rw [if_pos (by decide)]
  have e2 : mergeCo [] [] = [] := mergeG_nil_left ..
  unfold joinRo rmRow
  simp only [e1, e2]
  rfl
theorem rg_same : ∀ (s t m : Nat), s ≤ m → t + m ≤ 1000 → mergeRo (rg t s 1) (rg t m 2) = rg t m 2
  | 0, t, m, _, _ => mergeG_nil_left ..
  | s + 1, t, m + 1, h, h' => by
    unfold mergeRo
    rw [rg, rg, mergeG_eq (by show cmpB _ _ = 0; exact cmpB_self _), rm_join]
    congr 1
    exact rg_same s (t + 1) m (by omega) (by omega)
theorem rg_merge (s m : Nat) (hs : s ≤ m) : ∀ (d i : Nat), i + d + m ≤ 1000 → mergeRo (rg i (d + s) 1) (rg (i + d) m 2) = rg i d 1 ++ rg (i + d) m 2
  | 0, i, h => by rw [Nat.zero_add, Nat.add_zero]; exact rg_same s i m hs (by omega)
  | d + 1, i, h => by
    cases m with
    | zero =>
      obtain rfl : s = 0 := by omega
      unfold mergeRo
      rw [show rg (i + (d + 1)) 0 2 = [] from rfl, mergeG_nil_right, List.append_nil]
    | succ m =>
      have ih := rg_merge s (m + 1) hs d (i + 1) (by omega)
      unfold mergeRo at *
      rw [show d + 1 + s = (d + s) + 1 by omega, rg, show rg (i + (d + 1)) (m + 1) 2 = rmRow (i + (d + 1)) 2 :: rg (i + (d + 1) + 1) m 2 from rfl, mergeG_lt (rm_key (by omega) (by omega))]
      rw [show i + 1 + d = i + (d + 1) by omega] at ih
      rw [show rg (i + (d + 1)) (m + 1) 2 = rmRow (i + (d + 1)) 2 :: rg (i + (d + 1) + 1) m 2 from rfl] at ih
      rw [ih]
      rfl
def rv (l : List Ro) : List (Ro × Value) := l.map fun r => (r, .slice none 0 0)
theorem rv_fst (l : List Ro) : (rv l).map (·.1) = l := by
  induction l with
  | nil => rfl
  | cons a l ih => show a :: (rv l).map (·.1) = a :: l; rw [ih]
theorem rv_length (l : List Ro) : (rv l).length = l.length := by unfold rv; simp
theorem rv_snoc (l : List Ro) (r : Ro) : rv (l ++ [r]) = rv l ++ [(r, .slice none 0 0)] := by unfold rv; simp
theorem rg_bare {c s : Nat} {a : Int} : ∀ r ∈ rg s c a, r.cols = [] := fun r hr => by obtain ⟨i, _, _, rfl⟩ := rg_mem hr; rfl
theorem rm_head (i : Nat) (a : Int) (h1 : a = 1 ∨ a = 2) : headB (rmRow i a) = true := by
  have e : (key3 i).size = 3 := str_size _
  rcases h1 with rfl | rfl <;> (simp [headB, rmRow, checkC, stampB, e]; rfl)

/-- What stays true while a list of rows in a partition's variable is made longer. -/
structure RR (wB : World) (bx : Nat) (vo : Value) (out : List (Ro × Value)) (S : Nat) (x : World) : Prop where
  gr : wB.grownBy x (some bx)
  own : x.ownsRow wB.heap.size 26 8 vo out.length (roCells out)
  box : BoxAt x bx (pa3 ⟨#[]⟩ 0 vo) 35
  size : S ≤ x.heap.size
theorem RR.ext' {wB : World} {bx : Nat} {vo : Value} {out : List (Ro × Value)} {S : Nat} {x y : World} (hE : Ext x y) (h : RR wB bx vo out S x) : RR wB bx vo out S y :=
  ⟨grownBy_ext h.gr hE, ownsRow_ext h.own hE, h.box.ext hE, Nat.le_trans h.size hE.le⟩
theorem grown_far {a b c : World} {bx : Nat} {r : Option Nat} (h : a.grownBy b (some bx)) (hg : b.grownBy c r) (hr : ∀ q, r = some q → a.heap.size ≤ q) : a.grownBy c (some bx) :=
  ⟨hg.os.trans h.os, hg.tape.trans h.tape, hg.output.trans h.output, Nat.le_trans h.size hg.size, fun k hk hne => (hg.block k (Nat.lt_of_lt_of_le hk h.size) (fun e => by have := hr k e.symm; omega)).trans (h.block k hk hne)⟩

theorem grownBy_setO {w : World} (p i : Nat) (v : Value) : w.grownBy (w.setCell ⟨p, i, none⟩ v) (some p) :=
  ⟨rfl, rfl, rfl, by rw [Deep.nblk_setCell]; exact Nat.le_refl _, fun k _ hne => Deep.blk_setCell_other _ _ _ _ (fun e => hne (by rw [e]))⟩
theorem RR.put {wB : World} {bx S : Nat} {vo v : Value} {out out' : List (Ro × Value)} {p : Ro × Value} {x : World} (h : RR wB bx vo out S x) (hown : x.ownsRow wB.heap.size 26 8 v (out.length + 1) (roCells (out ++ [p]))) (ho : out' = out ++ [p]) : RR wB bx v out' 0 (x.setCell ⟨bx, 2, none⟩ v) := by
  subst ho
  exact ⟨grownBy_trans h.gr (grownBy_setO bx 2 v), by rw [List.length_append]; exact own_setCell hown (own_ne_box hown h.box (by decide)), h.box.set 2 v, Nat.zero_le _⟩

set_option maxRecDepth 100000 in
set_option maxHeartbeats 16000000 in
theorem law_partRooms (aa bb share : Int) (w : World) :
    Calls Tryd.prog 4 #[.int .i64 aa, .int .i64 bb, .int .i64 share] w fun e w' => e = .returned (.bool true) ∧ Ext w w' := by
  obtain ⟨n, hn⟩ : ∃ n : Nat, (n : Int) = aa % 101 := ⟨(aa % 101).toNat, by omega⟩
  obtain ⟨m, hm⟩ : ∃ m : Nat, (m : Int) = bb % 101 := ⟨(bb % 101).toNat, by omega⟩
  obtain ⟨s, hs⟩ : ∃ s : Nat, (s : Int) = share % (min (n : Int) m + 1) := ⟨(share % (min (n : Int) m + 1)).toNat, by have := Int.emod_nonneg share (show min (n : Int) m + 1 ≠ 0 by omega); omega⟩
  have hn1 : n ≤ 100 := by omega
  have hm1 : m ≤ 100 := by omega
  have hs1 : s ≤ n ∧ s ≤ m := by have := Int.emod_lt_of_pos share (show 0 < min (n : Int) m + 1 by omega); omega
  have Hn := Lib.hid hn
  have Hm := Lib.hid hm
  have Hs := Lib.hid hs
  clear hn hm hs
  go_enter Tryd.func4, Tryd.ntmps4
  go_wp2_with fail
  refine (place_any aa 101 (by decide) (by decide) w).mono ?_
  rw [← Hn.out]
  rintro e w1 ⟨rfl, rfl⟩
  go_wp2_with fail
  refine (place_any bb 101 (by decide) (by decide) w).mono ?_
  rw [← Hm.out]
  rintro e w1 ⟨rfl, rfl⟩
  go_wp2_with fail
  refine (place_any share (min (n : Int) m + 1) (by omega) (by omega) w).mono ?_
  rw [← Hs.out]
  rintro e w1 ⟨rfl, rfl⟩
  go_wp2_with fail
  obtain ⟨wB, hwB⟩ : ∃ wB, wB = (w.alloc (.cells (pa3 ⟨#[]⟩ 0 (.slice none 0 0)) 35)).alloc (.cells (pa3 ⟨#[]⟩ 0 (.slice none 0 0)) 35) := ⟨_, rfl⟩
  have hb10 : BoxAt wB w.heap.size (pa3 ⟨#[]⟩ 0 (.slice none 0 0)) 35 := by rw [hwB]; exact (BoxAt.made w _ _).ext ((Ext.refl _).alloc _)
  have hb11 : BoxAt wB (w.heap.size + 1) (pa3 ⟨#[]⟩ 0 (.slice none 0 0)) 35 := by rw [hwB]; exact BoxAt.madeN _ _ (by simp)
  have hEB : Ext w wB := by rw [hwB]; exact ((Ext.refl w).alloc _).alloc _
  have hbx1 := hb10.lt
  have hrr0 : RR wB w.heap.size (.slice none 0 0) [] 0 wB := ⟨grownBy_refl _ _, World.ownsRow_nil _ _ _ _, hb10, Nat.zero_le _⟩
  change Code.wp _ _ _ _ ((w.alloc (.cells (pa3 ⟨#[]⟩ 0 (.slice none 0 0)) 35)).alloc (.cells (pa3 ⟨#[]⟩ 0 (.slice none 0 0)) 35))
  rw [← hwB]
  clear hwB

  go_loopw [12] (fun i wr => ∃ (j : Nat) (vo : Value), 0 ≤ j ∧ j ≤ n ∧ i = .int .i64 (j : Int) ∧ RR wB w.heap.size vo (rv (rg 0 (j - 0) 1)) 0 wr ) (fun i _ => n - (intOf i).toNat)
  case atStart => exact ⟨0, _, Nat.le_refl _, Nat.zero_le _, rfl, hrr0⟩
  case round =>
    obtain ⟨j, vo, hj0, hj, rfl, hrr ⟩ := hrel
    obtain ⟨out, hout⟩ : ∃ out, out = rv (rg 0 (j - 0) 1) := ⟨_, rfl⟩
    rw [← hout] at hrr
    have hol : out.length ≤ 1000 := by rw [hout, rv_length, rg_length]; omega
    have HOUT := Lib.hid hout
    clear hout
    obtain ⟨ao, co, rfl⟩ := own_shape hrr.own
    by_cases hlt : j < n
    · have t1 : decide ((j : Int) < (n : Int)) = true := by simp; omega
      go_wp2_with fail
      have hboxlt : w.heap.size < (wB).heap.size := hbx1
      refine wp_region_relE (RR wB w.heap.size (.slice ao out.length co) out wr.heap.size) (ME (.slice ao out.length co) 7) (Tab.atE [(1, fun v _ => v = .slice ao out.length co), (3, fun v _ => v = .string (key3 j)), (6, fun v y => ∃ b, v = .slice (some ⟨b, 0, none⟩) 1 1 ∧ wr.heap.size ≤ b ∧ BoxAt y b (ro8 (rmRow j 1) (.slice none 0 0)) 26), (7, fun v y => y.ownsRow (wB).heap.size 26 8 v (out.length + 1) (roCells (out ++ [(rmRow j 1, .slice none 0 0)])))])
        (Tab.staysE ⟨fun _ _ _ _ _ _ h => h, fun _ _ _ _ _ _ h => h, fun _ _ _ _ _ hR ⟨b, e, hb, hx⟩ => ⟨b, e, hb, ME_box hrr.own hR hb hx⟩, fun _ hj _ _ _ hR h => ownsRow_ext h (ME_off hj hR), trivial⟩)
        9 (by kernel_rfl) (by kernel_rfl) (by kernel_rfl) ((⟨hrr.gr, hrr.own, hrr.box, Nat.le_refl _⟩ : RR wB w.heap.size (.slice ao out.length co) out wr.heap.size wr).ext' (Ext.refl wr).drew) ?_
      refine relE_quiet rfl rfl rfl rfl ?_; intro K hK; go_big_quiet_op; (first | refine ⟨_, fun _ _ => rfl, hK _ ?_⟩ | refine hK _ ?_); clear hK K
      refine relE_val [] rfl rfl rfl (by kernel_rfl) (fun z hz hf => ?_) ?_
      · obtain ⟨q0, q1, q2⟩ := hz.box.pa
        go_simp
        exact ⟨hz, ME_ext (Ext.refl z), rfl⟩
      simp only [Act.put, List.setIfInBounds_toArray, List.set_cons_zero, List.set_cons_succ]
      refine relE_quiet rfl rfl rfl rfl ?_; intro K hK; go_big_quiet_op; (first | refine ⟨_, fun _ _ => rfl, hK _ ?_⟩ | refine hK _ ?_); clear hK K
      refine relE_val [] rfl rfl rfl (by kernel_rfl) (fun z hz hf => ?_) ?_
      · go_simp
        refine (key8_any j (by omega) z).mono ?_
        rintro e y ⟨he, hy⟩
        exact ⟨_, he, hz.ext' hy, ME_ext hy, rfl⟩
      simp only [Act.put, List.setIfInBounds_toArray, List.set_cons_zero, List.set_cons_succ]
      refine relE_quiet rfl rfl rfl rfl ?_; intro K hK; go_big_quiet_op; (first | refine ⟨_, fun _ _ => rfl, hK _ ?_⟩ | refine hK _ ?_); clear hK K
      refine relE_quiet rfl rfl rfl rfl ?_; intro K hK; go_big_quiet_op; (first | refine ⟨_, fun _ _ => rfl, hK _ ?_⟩ | refine hK _ ?_); clear hK K
      refine relE_fact [] rfl rfl rfl (by kernel_rfl) (fun z hz hf => ?_) (fun v4 z4 hC4 hG4 h4 => ?_)
      · go_simp
        exact ⟨hz.ext' ((Ext.refl z).alloc _), ME_ext ((Ext.refl z).alloc _), _, rfl, hz.size, BoxAt.made z _ _⟩
      obtain ⟨b4, rfl, hb4, _⟩ := h4
      clear hC4 hG4
      simp only [Act.put, List.setIfInBounds_toArray, List.set_cons_zero, List.set_cons_succ]
      refine relE_fact [6] rfl rfl rfl (by kernel_rfl) (fun z hz hf => ?_) (fun v5 z5 hC5 hG5 h5 => ?_)
      · obtain ⟨b, e, _, hbox⟩ := (hf 6 (by simp)).2 rfl
        cases e
        refine yields_append info_Row und_Rows rfl (by decide) (.tmp 35) (.tmp 40) rfl (wB).heap.size hz.gr.size _ out.length (roCells out) hz.own (by rfl) b4 1 1 (ro8 (rmRow j 1) (.slice none 0 0)).toList (by rfl) (by rfl) (fun j u hj => by rw [hbox.cell j]; simpa using hj) (by simp [ro8, Value.oneCell']) (by unfold maxLen; omega) (by omega) ?_
        intro v' y hown' hg hkeep
        refine ⟨⟨grown_far hz.gr hg (fun q hq => (hz.own.lt q hq).1), hkeep, hz.box.grown hg (fun e => by have := (hz.own.lt _ e.symm).1; omega), Nat.le_trans hz.size hg.size⟩, by unfold ME; rw [if_pos rfl]; exact hg, ?_⟩
        rw [roCells_append]
        exact hown'
      obtain ⟨a5, c5, rfl⟩ := own_shape h5
      clear hC5 hG5 h5
      simp only [Act.put, List.setIfInBounds_toArray, List.set_cons_zero, List.set_cons_succ]
      refine relE_quiet rfl rfl rfl rfl ?_; intro K hK; go_big_quiet_op; (first | refine ⟨_, fun _ _ => rfl, hK _ ?_⟩ | refine hK _ ?_); clear hK K
      refine relE_tail rfl rfl fun w9 hC hG => ?_
      have hown9 := (hG 7).2 rfl
      obtain ⟨q0, q1, q2⟩ := hC.box.pa
      have qf := hC.box.free 2
      clear hG
      go_wp2_with fail
      go_roundw
      case rel =>
        refine ⟨j + 1, _, by omega, by omega, rfl, RR.put hC hown9 (by rw [HOUT.out, show j + 1 - 0 = (j - 0) + 1 by omega, rg_snoc, rv_snoc, show 0 + (j - 0) = j by omega]) ⟩
      case measure => simp [intOf]; omega
    -- EXIT1
    · have hjn : j = n := by omega
      have HX : Hid (out = rv (rg 0 n 1)) := by show _ = _; rw [HOUT.out, hjn, Nat.sub_zero]
      have hxrows : RowsT wr (.slice ao out.length co) out := ⟨TIn.own hrr.own, fun p hp => by rw [HX.out] at hp; obtain ⟨r, hr, rfl⟩ := List.mem_map.1 hp; show ColsT _ _ _; rw [rg_bare r hr]; exact ColsT.nil _⟩
      have hx10 := hrr.box
      have hx11 := hb11.grown hrr.gr (fun e => by have := Option.some.inj e; omega)
      have hEC : Ext w wr := hEB.grown hrr.gr (fun q hq => by cases hq; omega)
      have hxl := hol
      obtain ⟨wC, rfl⟩ : ∃ w', w' = wr := ⟨_, rfl⟩
      have hbx2 := hx11.lt
      have hrr2 : RR wC (w.heap.size + 1) (.slice none 0 0) [] 0 wC := ⟨grownBy_refl _ _, World.ownsRow_nil _ _ _ _, hx11, Nat.zero_le _⟩
      obtain ⟨xo, hxo⟩ : ∃ xo, xo = out := ⟨_, rfl⟩
      rw [← hxo] at hxrows hx10 hxl HX
      obtain ⟨xn, hxn⟩ : ∃ xn, xn = xo.length := ⟨_, rfl⟩
      rw [← hxn] at hxrows hx10 hxl
      clear hrr hrr0 HOUT hol hxo
      obtain ⟨xv, hxv⟩ : ∃ xv, xv = Value.slice ao xn co := ⟨_, rfl⟩
      rw [← hxv] at hxrows hx10
      clear hxv
      go_wp2_with fail
      go_loopw [13] (fun i wr => ∃ (j : Nat) (vo : Value), n - s ≤ j ∧ j ≤ n - s + m ∧ i = .int .i64 (j : Int) ∧ RR wC (w.heap.size + 1) vo (rv (rg (n - s) (j - (n - s)) 2)) 0 wr ) (fun i _ => n - s + m - (intOf i).toNat)
      case atStart => exact ⟨n - s, _, Nat.le_refl _, by omega, congrArg _ (by omega), by rw [Nat.sub_self]; exact hrr2⟩
      case round =>
        obtain ⟨j, vo, hj0, hj, rfl, hrr ⟩ := hrel
        obtain ⟨out, hout⟩ : ∃ out, out = rv (rg (n - s) (j - (n - s)) 2) := ⟨_, rfl⟩
        rw [← hout] at hrr
        have hol : out.length ≤ 1000 := by rw [hout, rv_length, rg_length]; omega
        have HOUT := Lib.hid hout
        clear hout
        obtain ⟨ao, co, rfl⟩ := own_shape hrr.own
        by_cases hlt : j < n - s + m
        · have t1 : decide ((j : Int) < (n : Int) - (s : Int) + (m : Int)) = true := by simp; omega
          go_wp2_with fail
          have hboxlt : w.heap.size + 1 < (wC).heap.size := hbx2
          refine wp_region_relE (RR wC (w.heap.size + 1) (.slice ao out.length co) out wr.heap.size) (ME (.slice ao out.length co) 7) (Tab.atE [(1, fun v _ => v = .slice ao out.length co), (3, fun v _ => v = .string (key3 j)), (6, fun v y => ∃ b, v = .slice (some ⟨b, 0, none⟩) 1 1 ∧ wr.heap.size ≤ b ∧ BoxAt y b (ro8 (rmRow j 2) (.slice none 0 0)) 26), (7, fun v y => y.ownsRow (wC).heap.size 26 8 v (out.length + 1) (roCells (out ++ [(rmRow j 2, .slice none 0 0)])))])
            (Tab.staysE ⟨fun _ _ _ _ _ _ h => h, fun _ _ _ _ _ _ h => h, fun _ _ _ _ _ hR ⟨b, e, hb, hx⟩ => ⟨b, e, hb, ME_box hrr.own hR hb hx⟩, fun _ hj _ _ _ hR h => ownsRow_ext h (ME_off hj hR), trivial⟩)
            9 (by kernel_rfl) (by kernel_rfl) (by kernel_rfl) ((⟨hrr.gr, hrr.own, hrr.box, Nat.le_refl _⟩ : RR wC (w.heap.size + 1) (.slice ao out.length co) out wr.heap.size wr).ext' (Ext.refl wr).drew) ?_
          refine relE_quiet rfl rfl rfl rfl ?_; intro K hK; go_big_quiet_op; (first | refine ⟨_, fun _ _ => rfl, hK _ ?_⟩ | refine hK _ ?_); clear hK K
          refine relE_val [] rfl rfl rfl (by kernel_rfl) (fun z hz hf => ?_) ?_
          · obtain ⟨q0, q1, q2⟩ := hz.box.pa
            go_simp
            exact ⟨hz, ME_ext (Ext.refl z), rfl⟩
          simp only [Act.put, List.setIfInBounds_toArray, List.set_cons_zero, List.set_cons_succ]
          refine relE_quiet rfl rfl rfl rfl ?_; intro K hK; go_big_quiet_op; (first | refine ⟨_, fun _ _ => rfl, hK _ ?_⟩ | refine hK _ ?_); clear hK K
          refine relE_val [] rfl rfl rfl (by kernel_rfl) (fun z hz hf => ?_) ?_
          · go_simp
            refine (key8_any j (by omega) z).mono ?_
            rintro e y ⟨he, hy⟩
            exact ⟨_, he, hz.ext' hy, ME_ext hy, rfl⟩
          simp only [Act.put, List.setIfInBounds_toArray, List.set_cons_zero, List.set_cons_succ]
          refine relE_quiet rfl rfl rfl rfl ?_; intro K hK; go_big_quiet_op; (first | refine ⟨_, fun _ _ => rfl, hK _ ?_⟩ | refine hK _ ?_); clear hK K
          refine relE_quiet rfl rfl rfl rfl ?_; intro K hK; go_big_quiet_op; (first | refine ⟨_, fun _ _ => rfl, hK _ ?_⟩ | refine hK _ ?_); clear hK K
          refine relE_fact [] rfl rfl rfl (by kernel_rfl) (fun z hz hf => ?_) (fun v4 z4 hC4 hG4 h4 => ?_)
          · go_simp
            exact ⟨hz.ext' ((Ext.refl z).alloc _), ME_ext ((Ext.refl z).alloc _), _, rfl, hz.size, BoxAt.made z _ _⟩
          obtain ⟨b4, rfl, hb4, _⟩ := h4
          clear hC4 hG4
          simp only [Act.put, List.setIfInBounds_toArray, List.set_cons_zero, List.set_cons_succ]
          refine relE_fact [6] rfl rfl rfl (by kernel_rfl) (fun z hz hf => ?_) (fun v5 z5 hC5 hG5 h5 => ?_)
          · obtain ⟨b, e, _, hbox⟩ := (hf 6 (by simp)).2 rfl
            cases e
            refine yields_append info_Row und_Rows rfl (by decide) (.tmp 56) (.tmp 61) rfl (wC).heap.size hz.gr.size _ out.length (roCells out) hz.own (by rfl) b4 1 1 (ro8 (rmRow j 2) (.slice none 0 0)).toList (by rfl) (by rfl) (fun j u hj => by rw [hbox.cell j]; simpa using hj) (by simp [ro8, Value.oneCell']) (by unfold maxLen; omega) (by omega) ?_
            intro v' y hown' hg hkeep
            refine ⟨⟨grown_far hz.gr hg (fun q hq => (hz.own.lt q hq).1), hkeep, hz.box.grown hg (fun e => by have := (hz.own.lt _ e.symm).1; omega), Nat.le_trans hz.size hg.size⟩, by unfold ME; rw [if_pos rfl]; exact hg, ?_⟩
            rw [roCells_append]
            exact hown'
          obtain ⟨a5, c5, rfl⟩ := own_shape h5
          clear hC5 hG5 h5
          simp only [Act.put, List.setIfInBounds_toArray, List.set_cons_zero, List.set_cons_succ]
          refine relE_quiet rfl rfl rfl rfl ?_; intro K hK; go_big_quiet_op; (first | refine ⟨_, fun _ _ => rfl, hK _ ?_⟩ | refine hK _ ?_); clear hK K
          refine relE_tail rfl rfl fun w9 hC hG => ?_
          have hown9 := (hG 7).2 rfl
          obtain ⟨q0, q1, q2⟩ := hC.box.pa
          have qf := hC.box.free 2
          clear hG
          go_wp2_with fail
          go_roundw
          case rel =>
            refine ⟨j + 1, _, by omega, by omega, rfl, RR.put hC hown9 (by rw [HOUT.out, show j + 1 - (n - s) = (j - (n - s)) + 1 by omega, rg_snoc, rv_snoc, show (n - s) + (j - (n - s)) = j by omega]) ⟩
          case measure => simp [intOf]; omega
        · have hjn2 : j = n - s + m := by omega
          have HY : Hid (out = rv (rg (n - s) m 2)) := by show _ = _; rw [HOUT.out, hjn2, show n - s + m - (n - s) = m by omega]
          have hy : RowsT wr (.slice ao out.length co) out := ⟨TIn.own hrr.own, fun p hp => by rw [HY.out] at hp; obtain ⟨r, hr, rfl⟩ := List.mem_map.1 hp; show ColsT _ _ _; rw [rg_bare r hr]; exact ColsT.nil _⟩
          have hx : RowsT wr xv xo := hxrows.keep hrr.gr hx11 (by decide) (by decide)
          have b10 := hx10.grown hrr.gr (fun e => by have := Option.some.inj e; omega)
          have b11 := hrr.box
          have hE := hEC.grown hrr.gr (fun q hq => by cases hq; omega)
          have c10 := b10.pa
          have c11 := b11.pa
          have hJ : mergeRo (xo.map (·.1)) (out.map (·.1)) = rg 0 (n - s) 1 ++ rg (n - s) m 2 := by
            rw [HX.out, HY.out, rv_fst, rv_fst]
            have := rg_merge s m hs1.2 (n - s) 0 (by omega)
            rw [Nat.zero_add, show n - s + s = n by omega] at this
            exact this
          have hfx : FewCols (xo.map (·.1)) := by rw [HX.out, rv_fst]; intro r hr; rw [rg_bare r hr]; exact Nat.zero_le _
          have hfy : FewCols (out.map (·.1)) := by rw [HY.out, rv_fst]; intro r hr; rw [rg_bare r hr]; exact Nat.zero_le _
          have HJ0 := Lib.hid hJ
          have HFX := Lib.hid hfx
          have HFY := Lib.hid hfy
          clear hJ hfx hfy hrr HOUT hxrows hx10 hx11 hrr2 hb10 hb11
          have hxl' : xo.length ≤ 1000 := by rw [← hxn]; exact hxl
          clear hxn hxl
          go_wp2_with fail
          refine (pjoin_walk ⟨#[]⟩ ⟨#[]⟩ 0 0 xv _ xo out wr hx.rows hy.rows (by omega) HFX.out HFY.out).mono ?_
          rw [HJ0.out, show max (0 : Int) 0 = 0 from rfl]
          obtain ⟨J, hJJ⟩ : ∃ J, J = rg 0 (n - s) 1 ++ rg (n - s) m 2 := ⟨_, rfl⟩
          rw [← hJJ]
          have hJl : J.length = n - s + m := by rw [hJJ, List.length_append, rg_length, rg_length]
          have HJJ := Lib.hid hJJ
          clear hJJ c10 c11
          rintro e w10 ⟨hE10, ⟨hfit, v', rfl, qs, hqs, hqm⟩ | ⟨hbad, rfl⟩⟩
          rotate_left
          · have hb : decide ((n : Int) + (m : Int) - (s : Int) ≤ 100) = false := by simp; omega
            clear hJl hbad
            go_wp2_with (((guard_target =~ wpList _ _ _ (Oper.mk none (Op.store _ (Operand.tmp 14) (Operand.tmp 68)) _ _ _ _ :: _) _ _); go_must (refine storeBox rfl 35 (.tmp 14) (.tmp 68) rfl (w10.heap.size) _ _ _ (by rfl) (by rfl) ((BoxAt.made w10 (pa3 ⟨#[]⟩ 0 (.slice none 0 0)) 35)) (by kernel_rfl) (by rfl) (by simp [Value.oneCell']) ?_); intro w11 c11 g11); have d11 := c11.pa (k := ⟨#[]⟩) (g := 0) (u := .slice none 0 0); have hX11 : Ext w10 w11 := ((Ext.refl w10).alloc _).grown g11 (fun q hq => by cases hq; omega))
            refine (awake8_any w11).mono ?_
            rintro e w12 ⟨rfl, hE12⟩
            go_wp2_with fail
            go_ret
            exact ⟨rfl, ((hE.trans hE10).trans hX11).trans hE12⟩
          · have hb : decide ((n : Int) + (m : Int) - (s : Int) ≤ 100) = true := by simp; omega
            have hql : qs.length = n - s + m := by rw [← hJl, ← hqm]; simp
            obtain ⟨av, cv, rfl⟩ := hqs.shape
            rw [hql] at hqs ⊢
            have HQ : ∀ k, k < n - s + m → (qs.map (·.1))[k]? = some (rmRow k (if k < n - s then 1 else 2)) := fun k hk => by
              rw [hqm, HJJ.out]
              by_cases h : k < n - s
              · rw [List.getElem?_append_left (by rw [rg_length]; exact h), rg_get _ _ _ _ h, if_pos h, Nat.zero_add]
              · rw [List.getElem?_append_right (by rw [rg_length]; omega), rg_length, rg_get _ _ _ _ (by omega), if_neg h, show n - s + (k - (n - s)) = k by omega]
            have HHQ := Lib.hid HQ
            clear HQ hqm hJl hfit
            go_wp2_with (((guard_target =~ wpList _ _ _ (Oper.mk none (Op.store _ (Operand.tmp 14) (Operand.tmp 68)) _ _ _ _ :: _) _ _); go_must (refine storeBox rfl 35 (.tmp 14) (.tmp 68) rfl (w10.heap.size) _ _ _ (by rfl) (by rfl) ((BoxAt.made w10 (pa3 ⟨#[]⟩ 0 (.slice none 0 0)) 35)) (by kernel_rfl) (by rfl) (by simp [Value.oneCell']) ?_); intro w11 c11 g11))
            have hX11 : Ext w10 w11 := ((Ext.refl w10).alloc _).grown g11 (fun q hq => by cases hq; omega)
            obtain ⟨N, hN⟩ : ∃ N, N = n - s + m := ⟨_, rfl⟩
            rw [← hN] at hqs hql c11 HHQ
            rw [← hN]
            have hNb : N ≤ 200 := by omega
            have b14 : BoxAt w11 w10.heap.size (pa3 ⟨#[]⟩ 0 (.slice av N cv)) 35 := c11
            have hq11 := (hqs.ext ((Ext.refl w10).alloc (.cells (pa3 ⟨#[]⟩ 0 (.slice none 0 0)) 35))).keep g11 (BoxAt.made w10 (pa3 ⟨#[]⟩ 0 (.slice none 0 0)) 35) (by decide) (by decide)
            have hE11 := (hE.trans hE10).trans hX11
            have hgood : ∀ p ∈ qs, headB p.1 = true ∧ p.1.cols = [] := fun p hp => by
              obtain ⟨j, hj, rfl⟩ := List.mem_iff_getElem.1 hp
              have h1 := HHQ.out j (by omega)
              rw [List.getElem?_map, List.getElem?_eq_getElem hj] at h1
              have h2 : qs[j].1 = rmRow j (if j < n - s then 1 else 2) := Option.some.inj h1
              rw [h2]
              exact ⟨rm_head _ _ (by split <;> simp), rfl⟩
            have hrise : ∀ j (h : j + 1 < qs.length), Op.bytesLess (qs[j].1.key.toList) (qs[j + 1].1.key.toList) = true := fun j hj => by
              have h1 := HHQ.out j (by omega)
              have h2 := HHQ.out (j + 1) (by omega)
              rw [List.getElem?_map, List.getElem?_eq_getElem (by omega : j < qs.length)] at h1
              rw [List.getElem?_map, List.getElem?_eq_getElem hj] at h2
              have e1 : qs[j].1 = rmRow j (if j < n - s then 1 else 2) := Option.some.inj h1
              have e2 : qs[j + 1].1 = rmRow (j + 1) (if j + 1 < n - s then 1 else 2) := Option.some.inj h2
              rw [e1, e2]
              show Op.bytesLess (key3 j).toList (key3 (j + 1)).toList = true
              rw [ByteArray.toList_eq, ByteArray.toList_eq]
              exact key3_lt (by omega) (by omega)
            have HGOOD := Lib.hid hgood
            have HRISE := Lib.hid hrise
            clear hgood hrise
            clear c11 g11 hX11 hqs hx hy b10 b11
            go_loopw [17] (fun i wr => ∃ k : Nat, k ≤ N ∧ i = .int .i64 k ∧ BoxAt wr w10.heap.size (pa3 ⟨#[]⟩ 0 (.slice av N cv)) 35 ∧ RowsT wr (.slice av N cv) qs ∧ Ext w wr) (fun i _ => N - (intOf i).toNat)
            case atStart => exact ⟨0, Nat.zero_le _, rfl, b14, hq11, hE11⟩
            case round =>
              obtain ⟨k, hk, rfl, b14, hq, hE⟩ := hrel
              clear hE11 hq11
              have c14 := b14.pa
              by_cases hlt : k < N
              · have t1 : decide ((k : Int) < (N : Int)) = true := by simp; omega
                obtain ⟨a', c', e', _, _, hg⟩ := hq.rows.get
                injection e' with e1 e2 e3
                subst e1
                clear e2 e3
                obtain ⟨b, o, rfl, hat⟩ := hg k (by omega)
                have hqk : qs[k].1 = rmRow k (if k < n - s then 1 else 2) := by
                  have h1 := HHQ.out k hlt
                  rw [List.getElem?_map, List.getElem?_eq_getElem (by omega : k < qs.length)] at h1
                  exact Option.some.inj h1
                rw [hqk] at hat
                obtain ⟨wt, hwt⟩ : ∃ wt : Int, wt = if k < n - s then 1 else 2 := ⟨_, rfl⟩
                rw [← hwt] at hat
                have x0 : wr.cell? ⟨b, o + k * 8, none⟩ = some (.string (key3 k)) := hat.c0
                have x3 : wr.cell? ⟨b, o + k * 8 + 3, none⟩ = some (.int .i64 wt) := hat.c3
                have hk1000 : k < 1000 := by omega
                clear hat hg hqk
                by_cases hks : k < n - s
                · have t2 : decide ((n : Int) - (s : Int) ≤ (k : Int)) = false := by simp; omega
                  rw [if_pos hks] at hwt
                  subst hwt
                  go_wp2_with fail
                  refine wp_region_in 20 [(7, fun v _ => v = .string (key3 k))] (fun y => y.cell? ⟨w10.heap.size, 2, none⟩ = some (.slice (some ⟨b, o, none⟩) N cv) ∧ y.cell? ⟨b, o + k * 8, none⟩ = some (.string (key3 k)) ∧ y.cell? ⟨b, o + k * 8 + 3, none⟩ = some (.int .i64 1) ∧ BoxAt y w10.heap.size (pa3 ⟨#[]⟩ 0 (.slice (some ⟨b, o, none⟩) N cv)) 35 ∧ RowsT y (.slice (some ⟨b, o, none⟩) N cv) qs ∧ Ext w y) (by kernel_rfl) (by kernel_rfl) (by kernel_rfl) ⟨stays_eq _, trivial⟩ ⟨c14.2.2, x0, x3, b14, hq, hE⟩ ?_
                  clear x0 x3 b14 hq hE c14
                  rintro w5 ⟨y2, x0, x3, b14, hq, hE⟩
                  have FIN : Hid (∀ wx, Ext w5 wx → BoxAt wx w10.heap.size (pa3 ⟨#[]⟩ 0 (.slice (some ⟨b, o, none⟩) N cv)) 35 ∧ RowsT wx (.slice (some ⟨b, o, none⟩) N cv) qs ∧ Ext w wx) := fun wx h => ⟨b14.ext h, hq.ext h, hE.trans h⟩
                  clear b14 hq hE
                  replace y2 := held y2
                  replace x0 := held x0
                  replace x3 := held x3
                  refine rg_quiet rfl rfl rfl rfl ?_; intro K hK; go_big_quiet_op; go_big_quiet_on
                  refine rg_quiet rfl rfl rfl rfl ?_; intro K hK; go_big_quiet_op; go_big_quiet_on
                  refine rg_quiet rfl rfl rfl rfl ?_; intro K hK; go_big_quiet_op; go_big_quiet_on
                  refine rg_quiet rfl rfl rfl rfl ?_; intro K hK; go_big_quiet_op; go_big_quiet_on
                  refine rg_quiet rfl rfl rfl rfl ?_; intro K hK; go_big_quiet_op; go_big_quiet_on
                  refine rg_quiet rfl rfl rfl rfl ?_; intro K hK; go_big_quiet_op; go_big_quiet_on
                  refine rg_quiet rfl rfl rfl rfl ?_; intro K hK; go_big_quiet_op; go_big_quiet_on
                  refine rg_val [] rfl rfl rfl (by kernel_rfl) (fun w1 hE hf => ?_) ?_
                  · go_simp
                    exact (key8_any k hk1000 w1).mono fun e w' ⟨he, hw⟩ => ⟨_, he, rg_done hE hw (rfl)⟩
                  simp only [Act.put, List.setIfInBounds_toArray, List.set_cons_zero, List.set_cons_succ]
                  refine rg_quiet rfl rfl rfl rfl ?_; intro K hK; go_big_quiet_op; go_big_quiet_on
                  refine rg_quiet rfl rfl rfl rfl ?_; intro K hK; go_big_quiet_op; go_big_quiet_on
                  refine rg_quiet rfl rfl rfl rfl ?_; intro K hK; go_big_quiet_op; go_big_quiet_on
                  refine rg_quiet rfl rfl rfl rfl ?_; intro K hK; go_big_quiet_op; go_big_quiet_on
                  refine rg_quiet rfl rfl rfl rfl ?_; intro K hK; go_big_quiet_op; go_big_quiet_on
                  refine rg_quiet rfl rfl rfl rfl ?_; intro K hK; go_big_quiet_op; go_big_quiet_on
                  refine rg_quiet rfl rfl rfl rfl ?_; intro K hK; go_big_quiet_op; go_big_quiet_on
                  refine rg_quiet rfl rfl rfl rfl ?_; intro K hK; go_big_quiet_op; go_big_quiet_on
                  refine rg_quiet rfl rfl rfl rfl ?_; intro K hK; go_big_quiet_op; go_big_quiet_on
                  refine rg_quiet rfl rfl rfl rfl ?_; intro K hK; go_big_quiet_op; go_big_quiet_on
                  refine rg_quiet rfl rfl rfl rfl ?_; intro K hK; go_big_quiet_op; go_big_quiet_on
                  refine rg_quiet rfl rfl rfl rfl ?_; intro K hK; go_big_quiet_op; go_big_quiet_on
                  refine rel_nil fun w6 hE6 _ => ?_
                  obtain ⟨b14, hq, hE⟩ := FIN.out w6 hE6
                  clear x0 x3 y2 FIN hE6
                  go_wp2_with fail
                  go_roundw
                  case rel => exact ⟨k + 1, by omega, by go_num, b14, hq, hE⟩
                  case measure => simp [intOf] <;> omega
                · have t2 : decide ((n : Int) - (s : Int) ≤ (k : Int)) = true := by simp; omega
                  rw [if_neg hks] at hwt
                  subst hwt
                  go_wp2_with fail
                  refine wp_region_in 20 [(7, fun v _ => v = .string (key3 k))] (fun y => y.cell? ⟨w10.heap.size, 2, none⟩ = some (.slice (some ⟨b, o, none⟩) N cv) ∧ y.cell? ⟨b, o + k * 8, none⟩ = some (.string (key3 k)) ∧ y.cell? ⟨b, o + k * 8 + 3, none⟩ = some (.int .i64 2) ∧ BoxAt y w10.heap.size (pa3 ⟨#[]⟩ 0 (.slice (some ⟨b, o, none⟩) N cv)) 35 ∧ RowsT y (.slice (some ⟨b, o, none⟩) N cv) qs ∧ Ext w y) (by kernel_rfl) (by kernel_rfl) (by kernel_rfl) ⟨stays_eq _, trivial⟩ ⟨c14.2.2, x0, x3, b14, hq, hE⟩ ?_
                  clear x0 x3 b14 hq hE c14
                  rintro w5 ⟨y2, x0, x3, b14, hq, hE⟩
                  have FIN : Hid (∀ wx, Ext w5 wx → BoxAt wx w10.heap.size (pa3 ⟨#[]⟩ 0 (.slice (some ⟨b, o, none⟩) N cv)) 35 ∧ RowsT wx (.slice (some ⟨b, o, none⟩) N cv) qs ∧ Ext w wx) := fun wx h => ⟨b14.ext h, hq.ext h, hE.trans h⟩
                  clear b14 hq hE
                  replace y2 := held y2
                  replace x0 := held x0
                  replace x3 := held x3
                  refine rg_quiet rfl rfl rfl rfl ?_; intro K hK; go_big_quiet_op; go_big_quiet_on
                  refine rg_quiet rfl rfl rfl rfl ?_; intro K hK; go_big_quiet_op; go_big_quiet_on
                  refine rg_quiet rfl rfl rfl rfl ?_; intro K hK; go_big_quiet_op; go_big_quiet_on
                  refine rg_quiet rfl rfl rfl rfl ?_; intro K hK; go_big_quiet_op; go_big_quiet_on
                  refine rg_quiet rfl rfl rfl rfl ?_; intro K hK; go_big_quiet_op; go_big_quiet_on
                  refine rg_quiet rfl rfl rfl rfl ?_; intro K hK; go_big_quiet_op; go_big_quiet_on
                  refine rg_quiet rfl rfl rfl rfl ?_; intro K hK; go_big_quiet_op; go_big_quiet_on
                  refine rg_val [] rfl rfl rfl (by kernel_rfl) (fun w1 hE hf => ?_) ?_
                  · go_simp
                    exact (key8_any k hk1000 w1).mono fun e w' ⟨he, hw⟩ => ⟨_, he, rg_done hE hw (rfl)⟩
                  simp only [Act.put, List.setIfInBounds_toArray, List.set_cons_zero, List.set_cons_succ]
                  refine rg_quiet rfl rfl rfl rfl ?_; intro K hK; go_big_quiet_op; go_big_quiet_on
                  refine rg_quiet rfl rfl rfl rfl ?_; intro K hK; go_big_quiet_op; go_big_quiet_on
                  refine rg_quiet rfl rfl rfl rfl ?_; intro K hK; go_big_quiet_op; go_big_quiet_on
                  refine rg_quiet rfl rfl rfl rfl ?_; intro K hK; go_big_quiet_op; go_big_quiet_on
                  refine rg_quiet rfl rfl rfl rfl ?_; intro K hK; go_big_quiet_op; go_big_quiet_on
                  refine rg_quiet rfl rfl rfl rfl ?_; intro K hK; go_big_quiet_op; go_big_quiet_on
                  refine rg_quiet rfl rfl rfl rfl ?_; intro K hK; go_big_quiet_op; go_big_quiet_on
                  refine rg_quiet rfl rfl rfl rfl ?_; intro K hK; go_big_quiet_op; go_big_quiet_on
                  refine rg_quiet rfl rfl rfl rfl ?_; intro K hK; go_big_quiet_op; go_big_quiet_on
                  refine rg_quiet rfl rfl rfl rfl ?_; intro K hK; go_big_quiet_op; go_big_quiet_on
                  refine rg_quiet rfl rfl rfl rfl ?_; intro K hK; go_big_quiet_op; go_big_quiet_on
                  refine rg_quiet rfl rfl rfl rfl ?_; intro K hK; go_big_quiet_op; go_big_quiet_on
                  refine rel_nil fun w6 hE6 _ => ?_
                  obtain ⟨b14, hq, hE⟩ := FIN.out w6 hE6
                  clear x0 x3 y2 FIN hE6
                  go_wp2_with fail
                  go_roundw
                  case rel => exact ⟨k + 1, by omega, by go_num, b14, hq, hE⟩
                  case measure => simp [intOf] <;> omega
              · have hkN : k = N := by omega
                have t3 : ((N : Int) == (n : Int) + (m : Int) - (s : Int)) = true := by simp; omega
                have hqN : qs.length ≤ 1000000 := by omega
                have hfit2 : qs.length ≤ 100 := by simp at hb; omega
                clear hkN hN hk hb
                go_wp2_with fail
                refine (pcheck_bare ⟨#[]⟩ 0 _ qs wr hq.rows (Nat.zero_le _) (Int.le_refl _) (by omega) (by omega) HGOOD.out HRISE.out).mono ?_
                rintro e w20 ⟨rfl, hE20⟩
                go_wp2_with fail
                refine (awake8_any w20).mono ?_
                rintro e w21 ⟨rfl, hE21⟩
                go_wp2_with fail
                go_ret
                exact ⟨rfl, (hE.trans hE20).trans hE21⟩
theorem walk_partRooms (a b share : Int) (_ : (Lit.int .i64 a).wf = true) (_ : (Lit.int .i64 b).wf = true) (_ : (Lit.int .i64 share).wf = true) (W : World) :
    Calls Tryd.prog 4 #[.int .i64 a, .int .i64 b, .int .i64 share] W fun e w' => e = .returned (.bool true) ∧ Ext W w' := law_partRooms a b share W
end Go.Proofs.YtbjpfhkdlljgdaaDoor
