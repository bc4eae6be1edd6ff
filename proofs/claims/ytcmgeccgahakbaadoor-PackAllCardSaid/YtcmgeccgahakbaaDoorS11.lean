/- A slice of integers that comes in, read. -/
import Derived.Test.YtcmgeccgahakbaaDoorS1
import Derived.ProofKit
import Derived.ChangeSlices
import Derived.WideShapes
import Derived.Test.YtcmgeccgahakbaaDoorS10
import Derived.Test.YtcmgeccgahakbaaDoorS8
import Derived.Test.YtcmgeccgahakbaaDoorS5
set_option linter.unusedSimpArgs false
set_option linter.unusedVariables false
namespace Go.Proofs.YtcmgeccgahakbaaDoor
open Go Go.RowKit Go.ChangeShapes Go.WideShapes Go.ChangeAt

/-- The cells of a list of integers. -/
def kcells (k : IntKind) (l : List Int) : List Value := l.map (Value.int k)
@[simp] theorem kcells_length (k : IntKind) (l : List Int) : (kcells k l).length = l.length := by simp [kcells]
theorem kcells_get (k : IntKind) (l : List Int) (i : Nat) : (kcells k l)[i]? = l[i]?.map (Value.int k) := by simp [kcells]
/-- v is a slice of integers that reads as l. -/
def IntsIn (w : World) (v : Value) (k : IntKind) (l : List Int) : Prop := SliceIn w v l.length (kcells k l)
theorem IntsIn.ext {w w' : World} (hE : Ext w w') {v : Value} {k : IntKind} {l : List Int} (h : IntsIn w v k l) : IntsIn w' v k l := SliceIn.ext hE h

theorem read_ints {P : Program} {H : Type} {enc : TypeId × Value → H} {W : World} {base : Nat} {t e : TypeId} {k : IntKind} {v : Value} {d : DataW H} {p : List MemPlace} (ht : P.underlying t = some (.slice e)) (he : P.underlying e = some (.int k)) (hc : P.cellsOf e = 1)
    (hv : Value.okWide P W .any base t v) (h : DataW.Trod enc P W 0 (fun _ => true) true t v d p) : ∃ l : List Int, IntsIn W v k l ∧ ∀ n ∈ l, (Lit.int k n).wf = true := by
  obtain ⟨a, len, cap, rfl⟩ := okWide_slice ht hv
  obtain ⟨fuel, hf⟩ := h
  rcases open_ints ht he hc hf with ⟨hcs, _⟩ | ⟨x, l, c, zs, hcs, _, hl, hm, hz, _, hcell, hwz⟩
  · simp [Value.cells] at hcs
    obtain ⟨rfl, rfl, rfl⟩ := hcs
    exact ⟨[], SliceIn.nil W, by simp⟩
  · simp [Value.cells] at hcs
    obtain ⟨rfl, rfl, rfl⟩ := hcs
    have hz' : zs.length = cap := by simpa using hz
    refine ⟨zs.take len, ?_, fun n hn => hwz n (List.mem_of_mem_take hn)⟩
    have hlen : (zs.take len).length = len := by simp; omega
    unfold IntsIn
    rw [hlen]
    refine ⟨some x, cap, rfl, hl, hm, nofun, fun j u hj => ?_⟩
    rw [kcells_get, List.getElem?_take] at hj
    split at hj
    · rename_i hlt
      have hjz : j < zs.length := by omega
      have hc := hcell j hjz
      have h0 := hcell 0 (by omega)
      obtain ⟨b, o, s⟩ := x
      have hs : s = none := by
        cases s with
        | none => rfl
        | some s =>
          simp only [Addr.add, if_pos] at h0
          unfold World.cell? at h0
          split at h0 <;> simp at h0
      subst hs
      refine ⟨b, o, rfl, ?_⟩
      rw [Addr.add_lit] at hc
      rw [hc, List.getD_eq_getElem?_getD]
      rw [List.getElem?_eq_getElem hjz] at hj ⊢
      simp at hj ⊢
      exact hj
    · cases hj
end Go.Proofs.YtcmgeccgahakbaaDoor

/- pack.CheckBatch of batches whose partitions have no rows. -/
namespace Go.Proofs.YtcmgeccgahakbaaDoor
open Go Go.RowKit
attribute [local go_sem] yields yUpon

/-- A mutation: its table, its partition's key and gone; a note. -/
structure Mu where
  table : ByteArray
  key : ByteArray
  gone : Int
structure Nt where
  id : Int
  body : ByteArray
def Mu.cells (x : Mu) : List Value := [.string x.table, .string x.key, .int .i64 x.gone, .slice none 0 0]
def Nt.cells (x : Nt) : List Value := [.int .i64 x.id, .string x.body]
def MusIn (w : World) (v : Value) (l : List Mu) : Prop := SliceIn w v l.length (l.flatMap Mu.cells)
def NtsIn (w : World) (v : Value) (l : List Nt) : Prop := SliceIn w v l.length (l.flatMap Nt.cells)
theorem MusIn.ext {w w' : World} (hE : Ext w w') {v : Value} {l : List Mu} (h : MusIn w v l) : MusIn w' v l := SliceIn.ext hE h
theorem NtsIn.ext {w w' : World} (hE : Ext w w') {v : Value} {l : List Nt} (h : NtsIn w v l) : NtsIn w' v l := SliceIn.ext hE h
theorem mus_at : ∀ {l : List Mu} {k : Nat} (hk : k < l.length) {j : Nat} (_ : j < 4), (l.flatMap Mu.cells)[k * 4 + j]? = (l[k]).cells[j]?
  | [], k, hk, _, _ => by simp at hk
  | o :: l, 0, _, j, hj => by rw [List.flatMap_cons, Nat.zero_mul, Nat.zero_add, List.getElem?_append_left (by show j < 4; exact hj)]; rfl
  | o :: l, k + 1, hk, j, hj => by
    have ih := mus_at (l := l) (k := k) (by simpa using hk) hj
    have e : o.cells.length = 4 := rfl
    rw [List.flatMap_cons, List.getElem?_append_right (by rw [e]; omega), e, show (k + 1) * 4 + j - 4 = k * 4 + j by omega, ih]
    rfl
theorem nts_at : ∀ {l : List Nt} {k : Nat} (hk : k < l.length) {j : Nat} (_ : j < 2), (l.flatMap Nt.cells)[k * 2 + j]? = (l[k]).cells[j]?
  | [], k, hk, _, _ => by simp at hk
  | o :: l, 0, _, j, hj => by rw [List.flatMap_cons, Nat.zero_mul, Nat.zero_add, List.getElem?_append_left (by show j < 2; exact hj)]; rfl
  | o :: l, k + 1, hk, j, hj => by
    have ih := nts_at (l := l) (k := k) (by simpa using hk) hj
    have e : o.cells.length = 2 := rfl
    rw [List.flatMap_cons, List.getElem?_append_right (by rw [e]; omega), e, show (k + 1) * 2 + j - 2 = k * 2 + j by omega, ih]
    rfl
theorem MusIn.get {w : World} {v : Value} {l : List Mu} (h : MusIn w v l) : ∃ a c, v = .slice a l.length c ∧ l.length ≤ c ∧ c ≤ 9223372036854775807 ∧ ∀ k (hk : k < l.length), ∃ b o, a = some ⟨b, o, none⟩ ∧ w.cell? ⟨b, o + k * 4, none⟩ = some (.string (l[k]).table) ∧ w.cell? ⟨b, o + k * 4 + 1, none⟩ = some (.string (l[k]).key) ∧ w.cell? ⟨b, o + k * 4 + 2, none⟩ = some (.int .i64 (l[k]).gone) ∧ w.cell? ⟨b, o + k * 4 + 3, none⟩ = some (.slice none 0 0) := by
  obtain ⟨a, c, rfl, hc, hcm, ha, hcell⟩ := h
  unfold maxLen at hcm
  refine ⟨a, c, rfl, hc, by omega, fun k hk => ?_⟩
  obtain ⟨b, o, rfl, h0⟩ := hcell (k * 4 + 0) _ (mus_at hk (by decide))
  obtain ⟨b1, o1, e1, h1⟩ := hcell (k * 4 + 1) _ (mus_at hk (by decide))
  cases e1
  obtain ⟨b1, o1, e1, h2⟩ := hcell (k * 4 + 2) _ (mus_at hk (by decide))
  cases e1
  obtain ⟨b1, o1, e1, h3⟩ := hcell (k * 4 + 3) _ (mus_at hk (by decide))
  cases e1
  exact ⟨b, o, rfl, h0, by rw [Nat.add_assoc]; exact h1, by rw [Nat.add_assoc]; exact h2, by rw [Nat.add_assoc]; exact h3⟩
theorem NtsIn.get {w : World} {v : Value} {l : List Nt} (h : NtsIn w v l) : ∃ a c, v = .slice a l.length c ∧ l.length ≤ c ∧ c ≤ 9223372036854775807 ∧ ∀ k (hk : k < l.length), ∃ b o, a = some ⟨b, o, none⟩ ∧ w.cell? ⟨b, o + k * 2, none⟩ = some (.int .i64 (l[k]).id) ∧ w.cell? ⟨b, o + k * 2 + 1, none⟩ = some (.string (l[k]).body) := by
  obtain ⟨a, c, rfl, hc, hcm, ha, hcell⟩ := h
  unfold maxLen at hcm
  refine ⟨a, c, rfl, hc, by omega, fun k hk => ?_⟩
  obtain ⟨b, o, rfl, h0⟩ := hcell (k * 2 + 0) _ (nts_at hk (by decide))
  obtain ⟨b1, o1, e1, h1⟩ := hcell (k * 2 + 1) _ (nts_at hk (by decide))
  cases e1
  exact ⟨b, o, rfl, h0, by rw [Nat.add_assoc]; exact h1⟩

def idB (n : Int) : Bool := decide (1 ≤ n) && decide (n ≤ 1099511627776)
def okMu (x : Mu) : Bool := nameB x.table && decide (0 ≤ x.gone)
def okNt (x : Nt) : Bool := idB x.id && decide (x.body.size ≤ 4096)
def cbB (M : List Mu) (A : List Nt) (D : List Int) : Bool := decide (M.length ≤ 64) && decide (A.length ≤ 300) && decide (D.length ≤ 300) && M.all okMu && A.all okNt && D.all idB

set_option maxHeartbeats 400000 in
theorem id_any (n : Int) (w : World) : Calls Tryd.prog 85 #[.int .i64 n] w fun e w' => e = .returned (.bool (idB n)) ∧ w = w' := by
  by_cases h1 : 1 ≤ n
  · have t1 : decide (1 ≤ n) = true := by simpa using h1
    have e : idB n = decide (n ≤ 1099511627776) := by unfold idB; rw [t1]; rfl
    rw [e]
    go_enter Tryd.func85, Tryd.ntmps85
    go_wp2
    go_ret
    exact ⟨rfl, rfl⟩
  · have t1 : decide (1 ≤ n) = false := by simpa using h1
    have e : idB n = false := by unfold idB; rw [t1]; rfl
    rw [e]
    go_enter Tryd.func85, Tryd.ntmps85
    go_wp2
    go_ret
    exact ⟨rfl, rfl⟩
theorem check0_any (k : ByteArray) (g : Int) (hk : k.size ≤ 100) (h1 : g ≤ 1099511627776) (w : World) :
    Calls Tryd.prog 54 #[.agg #[.string k, .int .i64 g, .slice none 0 0]] w fun e w' => e = .returned (.bool (decide (0 ≤ g))) ∧ Ext w w' := by
  by_cases h0 : 0 ≤ g
  · rw [decide_eq_true h0]; exact check0_ok k g hk h0 h1 w
  · rw [decide_eq_false h0]; exact check0_no k g hk (by omega) w

theorem all_no {α : Type} {p : α → Bool} {l : List α} {k : Nat} (hk : k < l.length) (h : p l[k] = false) : l.all p = false := by
  rw [List.all_eq_false]
  exact ⟨_, List.getElem_mem hk, by rw [h]; decide⟩
theorem all_take {α : Type} {p : α → Bool} {l : List α} {k : Nat} (hk : k < l.length) (h : (l.take k).all p = true) (h1 : p l[k] = true) : (l.take (k + 1)).all p = true := by
  rw [List.take_succ_eq_append_getElem hk, List.all_append, h]; simpa using h1

set_option maxRecDepth 100000 in
set_option maxHeartbeats 8000000 in
theorem cb_any (vm va vd : Value) (M : List Mu) (A : List Nt) (D : List Int) (w : World) (hT : TabU w) (hM : MusIn w vm M) (hA : NtsIn w va A) (hD : IntsIn w vd .i64 D) (hMb : ∀ x ∈ M, x.table.size ≤ 100 ∧ x.key.size ≤ 100 ∧ x.gone ≤ 1099511627776) (hAb : ∀ x ∈ A, x.body.size ≤ 1000000) :
    Calls Tryd.prog 24 #[.agg #[vm, va, vd]] w fun e w' => e = .returned (.bool (cbB M A D)) ∧ Ext w w' := by
  obtain ⟨am, cm, rfl, hcm, hcmm, hgm⟩ := hM.get
  obtain ⟨aa, ca, rfl, hca, hcma, hga⟩ := hA.get
  obtain ⟨ad, cd, rfl, hcd, hcmd, _, hgd⟩ := hD
  unfold maxLen at hcmd
  have HGM := Lib.hid hgm
  have HGA := Lib.hid hga
  have HGD := Lib.hid hgd
  have HMB := Lib.hid hMb
  have HAB := Lib.hid hAb
  clear hgm hga hgd hMb hAb hM hA
  obtain ⟨mn, hmn⟩ : ∃ n, n = M.length := ⟨_, rfl⟩
  obtain ⟨an, han⟩ : ∃ n, n = A.length := ⟨_, rfl⟩
  obtain ⟨dn, hdn⟩ : ∃ n, n = D.length := ⟨_, rfl⟩
  rw [← hmn] at hcm ⊢
  rw [← han] at hca ⊢
  rw [← hdn] at hcd ⊢
  have HMN := Lib.hid hmn
  have HAN := Lib.hid han
  have HDN := Lib.hid hdn
  clear hmn han hdn
  have hE0 := (Ext.refl w).alloc (.cells #[.slice am mn cm, .slice aa an ca, .slice ad dn cd] 29)
  have hbx := BoxAt.made w #[.slice am mn cm, .slice aa an ca, .slice ad dn cd] 29
  obtain ⟨R, hR⟩ : ∃ R, R = cbB M A D := ⟨_, rfl⟩
  have HR : Hid (R = (decide (mn ≤ 64) && decide (an ≤ 300) && decide (dn ≤ 300) && M.all okMu && A.all okNt && D.all idB)) := Lib.hid (by rw [hR, HMN.out, HAN.out, HDN.out]; rfl)
  rw [← hR]
  clear hR
  by_cases hsz : mn ≤ 64 ∧ an ≤ 300 ∧ dn ≤ 300
  · obtain ⟨z1, z2, z3⟩ := hsz
    have y1 : ¬ (64 : Int) < (mn : Int) := by omega
    have y2 : ¬ (300 : Int) < (an : Int) := by omega
    have y3 : ¬ (300 : Int) < (dn : Int) := by omega
    have HR2 : Hid (R = (M.all okMu && A.all okNt && D.all idB)) := Lib.hid (by rw [HR.out, decide_eq_true z1, decide_eq_true z2, decide_eq_true z3]; rfl)
    clear HR
    go_enter Tryd.func24, Tryd.ntmps24
    go_wp2
    obtain ⟨W0, hW0⟩ : ∃ W0, W0 = w.alloc (.cells #[.slice am mn cm, .slice aa an ca, .slice ad dn cd] 29) := ⟨_, rfl⟩
    rw [← hW0] at hE0 hbx ⊢
    clear hW0
    go_loopw [28] (fun i wr => ∃ k : Nat, k ≤ mn ∧ i = .int .i64 (k : Int) ∧ Hid ((M.take k).all okMu = true) ∧ Ext W0 wr) (fun i _ => mn - (intOf i).toNat)
    case atStart => exact ⟨0, Nat.zero_le _, rfl, Lib.hid rfl, Ext.refl W0⟩
    case round =>
      obtain ⟨k, hk, rfl, HP, hE⟩ := hrel
      by_cases hlt : k < mn
      · have hkF : k < M.length := by rw [← HMN.out]; exact hlt
        obtain ⟨b, o, rfl, g0, g1, g2, g3⟩ := HGM.out k hkF
        replace g0 := (hE0.trans hE).cell g0
        replace g1 := (hE0.trans hE).cell g1
        replace g2 := (hE0.trans hE).cell g2
        replace g3 := (hE0.trans hE).cell g3
        obtain ⟨q1, q2, q3⟩ := HMB.out _ (List.getElem_mem hkF)
        have HP1 : Hid (okMu M[k] = true → (M.take (k + 1)).all okMu = true) := Lib.hid fun h => all_take hkF HP.out h
        have HP0 : Hid (okMu M[k] = false → R = false) := Lib.hid fun h => by rw [HR2.out, all_no hkF h]; rfl
        have HOK : Hid (okMu M[k] = (nameB (M[k]).table && decide (0 ≤ (M[k]).gone))) := Lib.hid rfl
        obtain ⟨ok, hok⟩ : ∃ ok, ok = okMu M[k] := ⟨_, rfl⟩
        obtain ⟨t, ht⟩ : ∃ t, t = (M[k]).table := ⟨_, rfl⟩
        obtain ⟨ky, hky⟩ : ∃ t, t = (M[k]).key := ⟨_, rfl⟩
        obtain ⟨gn, hgn⟩ : ∃ t, t = (M[k]).gone := ⟨_, rfl⟩
        rw [← hok] at HP1 HP0 HOK
        rw [← ht] at g0 q1 HOK
        rw [← hky] at g1 q2
        rw [← hgn] at g2 q3 HOK
        clear hok ht hky hgn
        have hEb := (Ext.refl wr).alloc (.cells #[.string t, .string ky, .int .i64 gn, .slice none 0 0] 64)
        have hbm := BoxAt.made wr #[.string t, .string ky, .int .i64 gn, .slice none 0 0] 64
        have hTb := hT.ext ((hE0.trans hE).trans hEb)
        have t1 : decide ((k : Int) < (mn : Int)) = true := by simp; omega
        cases hn : nameB t
        · have HN := Lib.hid hn
          clear hn
          go_wp2_with (go_at_call 84; go_must (refine (name_gen t (by omega) _ hTb).mono ?_); rintro e w5 ⟨rfl, hE5⟩; rw [HN.out])
          go_ret
          exact ⟨by rw [HP0.out (by rw [HOK.out, HN.out]; rfl)]; rfl, ((hE0.trans hE).trans hEb).trans hE5⟩
        · have HN := Lib.hid hn
          clear hn
          cases hg : decide (0 ≤ gn)
          all_goals
            have HG := Lib.hid hg
            clear hg
            go_wp2_with (first
              | (go_at_call 84; go_must (refine (name_gen t (by omega) _ hTb).mono ?_); rintro e w5 ⟨rfl, hE5⟩; rw [HN.out]; have hb5 := hbm.ext hE5; have y1 : w5.cell? ⟨wr.heap.size, 1, none⟩ = some (.string ky) := hb5.cell 1; have y2 : w5.cell? ⟨wr.heap.size, 2, none⟩ = some (.int .i64 gn) := hb5.cell 2; have y3 : w5.cell? ⟨wr.heap.size, 3, none⟩ = some (.slice none 0 0) := hb5.cell 3)
              | (go_at_call 54; go_must (refine (check0_any ky gn q2 q3 _).mono ?_); rintro e w6 ⟨rfl, hE6⟩; rw [HG.out]))
          · go_ret
            exact ⟨by rw [HP0.out (by rw [HOK.out, HN.out, HG.out]; rfl)]; rfl, (((hE0.trans hE).trans hEb).trans hE5).trans hE6⟩
          · go_roundw
            case rel => exact ⟨k + 1, by omega, by go_num, Lib.hid (HP1.out (by rw [HOK.out, HN.out, HG.out]; rfl)), ((hE.trans hEb).trans hE5).trans hE6⟩
            case measure => simp [intOf]; omega
      · obtain rfl : k = mn := by omega
        have HR3 : Hid (R = (A.all okNt && D.all idB)) := Lib.hid (by
          have h1 := HP.out
          rw [HMN.out, List.take_length] at h1
          rw [HR2.out, h1]; rfl)
        clear HR2 HP
        have hbx1 := hbx.ext hE
        have c1 : wr.cell? ⟨w.heap.size, 1, none⟩ = some (.slice aa an ca) := hbx1.cell 1
        have c2 : wr.cell? ⟨w.heap.size, 2, none⟩ = some (.slice ad dn cd) := hbx1.cell 2
        go_wp2_with fail
        obtain ⟨w1, rfl⟩ : ∃ w', w' = wr := ⟨_, rfl⟩
        go_loopw [46] (fun i wr => ∃ k : Nat, k ≤ an ∧ i = .int .i64 (k : Int) ∧ Hid ((A.take k).all okNt = true) ∧ Ext w1 wr) (fun i _ => an - (intOf i).toNat)
        case atStart => exact ⟨0, Nat.zero_le _, rfl, Lib.hid rfl, Ext.refl w1⟩
        case round =>
          obtain ⟨j, hj, rfl, HP, hE2⟩ := hrel
          have hEw := (hE0.trans hE).trans hE2
          by_cases hlt2 : j < an
          · have hkF : j < A.length := by rw [← HAN.out]; exact hlt2
            obtain ⟨b, o, rfl, g0, g1⟩ := HGA.out j hkF
            replace g0 := hEw.cell g0
            replace g1 := hEw.cell g1
            have q1 := HAB.out _ (List.getElem_mem hkF)
            have HP1 : Hid (okNt A[j] = true → (A.take (j + 1)).all okNt = true) := Lib.hid fun h => all_take hkF HP.out h
            have HP0 : Hid (okNt A[j] = false → R = false) := Lib.hid fun h => by rw [HR3.out, all_no hkF h]; rfl
            have HOK : Hid (okNt A[j] = (idB (A[j]).id && decide ((A[j]).body.size ≤ 4096))) := Lib.hid rfl
            obtain ⟨ok, hok⟩ : ∃ ok, ok = okNt A[j] := ⟨_, rfl⟩
            obtain ⟨x, hx⟩ : ∃ t, t = (A[j]).id := ⟨_, rfl⟩
            obtain ⟨bd, hbd⟩ : ∃ t, t = (A[j]).body := ⟨_, rfl⟩
            rw [← hok] at HP1 HP0 HOK
            rw [← hx] at g0 HOK
            rw [← hbd] at g1 q1 HOK
            clear hok hx hbd
            have hEb := (Ext.refl wr).alloc (.cells #[.int .i64 x, .string bd] 94)
            have t1 : decide ((j : Int) < (an : Int)) = true := by simp; omega
            cases hn : idB x
            · have HN := Lib.hid hn
              clear hn
              go_wp2_with (go_at_call 85; go_must (refine (id_any x _).mono ?_); rintro e w5 ⟨rfl, rfl⟩; rw [HN.out])
              go_ret
              exact ⟨by rw [HP0.out (by rw [HOK.out, HN.out]; rfl)]; rfl, hEw.trans hEb⟩
            · have HN := Lib.hid hn
              clear hn
              by_cases hs : bd.size ≤ 4096
              · have t2 : decide ((4096 : Int) < (bd.size : Int)) = false := by simp; omega
                go_wp2_with (go_at_call 85; go_must (refine (id_any x _).mono ?_); rintro e w5 ⟨rfl, rfl⟩; rw [HN.out])
                go_roundw
                case rel => exact ⟨j + 1, by omega, by go_num, Lib.hid (HP1.out (by rw [HOK.out, HN.out, decide_eq_true hs]; rfl)), hE2.trans hEb⟩
                case measure => simp [intOf]; omega
              · have t2 : decide ((4096 : Int) < (bd.size : Int)) = true := by simp; omega
                go_wp2_with (go_at_call 85; go_must (refine (id_any x _).mono ?_); rintro e w5 ⟨rfl, rfl⟩; rw [HN.out])
                go_ret
                exact ⟨by rw [HP0.out (by rw [HOK.out, HN.out, decide_eq_false hs]; rfl)]; rfl, hEw.trans hEb⟩
          · obtain rfl : j = an := by omega
            have HR4 : Hid (R = D.all idB) := Lib.hid (by
              have h1 := HP.out
              rw [HAN.out, List.take_length] at h1
              rw [HR3.out, h1]; rfl)
            clear HR3 HP
            have hbx2 := hbx1.ext hE2
            have c3 : wr.cell? ⟨w.heap.size, 2, none⟩ = some (.slice ad dn cd) := hbx2.cell 2
            clear c1 c2
            go_wp2_with fail
            obtain ⟨w2, rfl⟩ : ∃ w', w' = wr := ⟨_, rfl⟩
            go_loopw [64] (fun i wr => ∃ k : Nat, k ≤ dn ∧ i = .int .i64 (k : Int) ∧ Hid ((D.take k).all idB = true) ∧ wr = w2) (fun i _ => dn - (intOf i).toNat)
            case atStart => exact ⟨0, Nat.zero_le _, rfl, Lib.hid rfl, rfl⟩
            case round =>
              obtain ⟨d, hd, rfl, HP, rfl⟩ := hrel
              by_cases hlt3 : d < dn
              · have hkF : d < D.length := by rw [← HDN.out]; exact hlt3
                obtain ⟨b, o, rfl, g0⟩ := HGD.out d (.int .i64 D[d]) (by rw [kcells_get, List.getElem?_eq_getElem hkF]; rfl)
                replace g0 := hEw.cell g0
                have HP1 : Hid (idB D[d] = true → (D.take (d + 1)).all idB = true) := Lib.hid fun h => all_take hkF HP.out h
                have HP0 : Hid (idB D[d] = false → R = false) := Lib.hid fun h => by rw [HR4.out, all_no hkF h]
                obtain ⟨x, hx⟩ : ∃ t, t = D[d] := ⟨_, rfl⟩
                rw [← hx] at g0 HP1 HP0
                clear hx
                have t1 : decide ((d : Int) < (dn : Int)) = true := by simp; omega
                cases hn : idB x
                · have HN := Lib.hid hn
                  clear hn
                  go_wp2_with (go_at_call 85; go_must (refine (id_any x _).mono ?_); rintro e w5 ⟨rfl, rfl⟩; rw [HN.out])
                  go_ret
                  exact ⟨by rw [HP0.out HN.out]; rfl, hEw⟩
                · have HN := Lib.hid hn
                  clear hn
                  go_wp2_with (go_at_call 85; go_must (refine (id_any x _).mono ?_); rintro e w5 ⟨rfl, rfl⟩; rw [HN.out])
                  go_roundw
                  case rel => exact ⟨d + 1, by omega, by go_num, Lib.hid (HP1.out HN.out), (by first | rfl | trivial)⟩
                  case measure => simp [intOf]; omega
              · obtain rfl : d = dn := by omega
                have HR5 : Hid (R = true) := Lib.hid (by
                  have h1 := HP.out
                  rw [HDN.out, List.take_length] at h1
                  rw [HR4.out, h1])
                go_wp2_with fail
                go_ret
                exact ⟨by rw [HR5.out]; rfl, hEw⟩
  · have HR2 : Hid (R = false) := Lib.hid (by
      rw [HR.out]
      by_cases z1 : mn ≤ 64
      · by_cases z2 : an ≤ 300
        · rw [decide_eq_false (p := dn ≤ 300) (by omega)]; simp
        · rw [decide_eq_false z2]; simp
      · rw [decide_eq_false z1]; simp)
    have hex : (64 : Int) < (mn : Int) ∨ (¬ (64 : Int) < (mn : Int) ∧ (300 : Int) < (an : Int)) ∨ (¬ (64 : Int) < (mn : Int) ∧ ¬ (300 : Int) < (an : Int) ∧ (300 : Int) < (dn : Int)) := by omega
    clear HR hsz
    rcases hex with y1 | ⟨y1, y2⟩ | ⟨y1, y2, y3⟩
    all_goals
      go_enter Tryd.func24, Tryd.ntmps24
      go_wp2
      go_ret
      exact ⟨by rw [HR2.out]; rfl, hE0⟩
end Go.Proofs.YtcmgeccgahakbaaDoor

/- As XRegion, where an operation may also turn memory that other operations do not look at: each operation has its own relation between the worlds ahead of it and behind it; what is known of a value stays under the relations of the other operations. -/
namespace Go.Proofs.YtcmgeccgahakbaaDoor
open Go

def Fresh (G : Facts) (j : Nat) : Prop := ∀ w, G j w
/-- The values that an operation looks at. -/
def look (o : Oper) (a : Act) : List Value := o.op.operands.toList.map a.eval
theorem look_put {ops : Array Oper} (o : Oper) (a : Act) (dst : Option Tmp) (v : Value) (h : ∀ d, dst = some d → d ∉ o.looksAt ops) : look o (a.put dst v) = look o a := by
  unfold look
  refine List.map_congr_left fun x hx => Act.eval_put fun d hd hxd => h d hd ?_
  subst hxd
  exact List.mem_append_left _ (List.mem_filterMap.2 ⟨.tmp d, hx, rfl⟩)
section
variable (P : Program) (ops : Array Oper) (C : World → Prop) (E : Nat → World → World → Prop) (T : Nat → Option (List Value → Value → World → Prop)) (n : Nat) (Q : Exit → Act → World → Prop)
/-- What is owed of operation i; V: the values that it may yield, φ: what is known of them. -/
def OwesE (i : Nat) (o : Oper) (a : Act) (G : Facts) (V : Value → Prop) (φ : Value → World → Prop) : Prop :=
  (Region.wanted o (yielded ops a.tmps) = false ∧ V = (· = undef) ∧ φ = fun _ _ => True) ∨
  (Region.wanted o (yielded ops a.tmps) = true ∧ ∃ need : List Nat, need.all (ancB ops 4 i) = true ∧
    ((T i = none ∧ ∃ u, (∀ w, C w → (∀ j ∈ need, G j w) → o.quietAt P a (fun _ => False) w u) ∧ V = (· = u) ∧ φ = fun _ _ => True) ∨
     (∃ Φ, T i = some Φ ∧ (∀ w, C w → (∀ j ∈ need, G j w) → yields P o a w fun u w' => C w' ∧ E i w w' ∧ Φ (look o a) u w') ∧ V = (fun _ => True) ∧ φ = Φ (look o a))))

def rStepE (i : Nat) (o : Oper) (K : Act → Facts → Prop) (a : Act) (G : Facts) : Prop :=
  ∃ V φ, OwesE P ops C E T i o a G V φ ∧ ∀ v, V v → Live C (G.upd i (φ v)) → K (a.put o.dst v) (G.upd i (φ v))

def rOpE (i : Nat) (K : Act → Facts → Prop) (a : Act) (G : Facts) : Prop :=
  match ops[i]? with
  | none => K a G
  | some o => rStepE P ops C E T i o K a G

def wpAnyRE : Nat → Array Bool → Act → Facts → Prop
  | 0, listed, a, G => Region.ready .any ops listed = [] ∧ fin C Q a G
  | fuel + 1, listed, a, G =>
    (Region.ready .any ops listed = [] → fin C Q a G) ∧
    ∀ i ∈ Region.ready .any ops listed, if i = n then tailAny P ops C Q fuel listed i a G else rOpE P ops C E T i (wpAnyRE fuel (listed.setIfInBounds i true)) a G

/-- The walk in the order of the text. -/
def wpRelE : List Oper → Nat → Act → Facts → Prop
  | [], _, a, G => fin C Q a G
  | o :: rest, k, a, G => if k = n then tailL P ops C Q (o :: rest) a G else rStepE P ops C E T k o (wpRelE rest (k + 1)) a G
end

section
variable {P : Program} {ops : Array Oper} {C : World → Prop} {E : Nat → World → World → Prop} {T : Nat → Option (List Value → Value → World → Prop)} {n : Nat} {Q : Exit → Act → World → Prop}

theorem wpOp_of_rOpE (hT : ∀ i Φ, T i = some Φ → ∀ A k v w w', k ≠ i → E k w w' → Φ A v w → Φ A v w') {i : Nat} {K : Act → Facts → Prop} {K' : Act → World → Prop} {Q' : Exit → Act → World → Prop} {a : Act} {G : Facts} {w : World}
    (hG : ∀ j k w w', j ≠ k → E k w w' → G j w → G j w') (hC : C w) (hw : ∀ j, G j w) (hfi : Fresh G i)
    (h : ∀ a' G' w', (∀ j k w w', j ≠ k → E k w w' → G' j w → G' j w') → (∀ j, j ≠ i → Fresh G j → Fresh G' j) → C w' → (∀ j, G' j w') → K a' G' → K' a' w') (hr : rOpE P ops C E T i K a G) : wpOp P ops Q' i K' a w := by
  unfold rOpE at hr
  unfold wpOp
  have stay : ∀ (φ : World → Prop), (∀ k w w', k ≠ i → E k w w' → φ w → φ w') → ∀ j k w w', j ≠ k → E k w w' → (G.upd i φ) j w → (G.upd i φ) j w' :=
    fun φ hφ j k w w' hne hE hh => ⟨hG j k _ _ hne hE hh.1, fun hji => hφ k _ _ (fun e => hne (hji.trans e.symm)) hE (hh.2 hji)⟩
  have fresh : ∀ (φ : World → Prop), ∀ j, j ≠ i → Fresh G j → Fresh (G.upd i φ) j := fun φ j hne hf w => ⟨hf w, fun e => absurd e hne⟩
  split
  · rename_i ho; simp only [ho] at hr; exact h _ _ _ hG (fun _ _ hf => hf) hC hw hr
  · rename_i o ho
    simp only [ho] at hr
    obtain ⟨V, φ, hO, hn⟩ := hr
    rcases hO with ⟨hwt, rfl, rfl⟩ | ⟨hwt, need, _, hO⟩
    · rw [if_neg (by rw [hwt]; simp)]
      have hf : ∀ j, (G.upd i (fun _ => True)) j w := fun j => ⟨hw j, fun _ => trivial⟩
      exact h _ _ _ (stay _ (fun _ _ _ _ _ h => h)) (fresh _) hC hf (hn undef rfl ⟨w, hC, hf⟩)
    · rw [if_pos hwt]
      left
      rcases hO with ⟨_, u, hy, rfl, rfl⟩ | ⟨Φ, hTi, hy, rfl, rfl⟩
      · have hf : ∀ j, (G.upd i (fun _ => True)) j w := fun j => ⟨hw j, fun _ => trivial⟩
        exact quietAt_wp (hy w hC fun j _ => hw j) (h _ _ _ (stay _ (fun _ _ _ _ _ h => h)) (fresh _) hC hf (hn u rfl ⟨w, hC, hf⟩))
      · refine yields_wp (hy w hC fun j _ => hw j) fun u w' ⟨hC', hE, hΦ⟩ => ?_
        have hf : ∀ j, (G.upd i (Φ (look o a) u)) j w' := fun j => ⟨if e : j = i then e ▸ hfi w' else hG j i _ _ e hE (hw j), fun _ => hΦ⟩
        exact h _ _ _ (stay _ (fun k w1 w2 hne h1 h2 => hT i Φ hTi _ k u w1 w2 hne h1 h2)) (fresh _) hC' hf (hn u trivial ⟨w', hC', hf⟩)

theorem unl_set {listed : Array Bool} {i j : Nat} (h : (listed.setIfInBounds i true).getD j true = false) : j ≠ i ∧ listed.getD j true = false := by
  by_cases e : i = j
  · subst e
    exfalso
    rcases Nat.lt_or_ge i listed.size with h' | h'
    · simp [h'] at h
    · simp at h; try omega
  · rw [getD_set_ne true e] at h
    exact ⟨fun h => e h.symm, h⟩
theorem wpAny_of_RE (hT : ∀ i Φ, T i = some Φ → ∀ A k v w w', k ≠ i → E k w w' → Φ A v w → Φ A v w') (hn : tailB ops n = true) :
    ∀ (fuel : Nat) (listed : Array Bool) (a : Act) (G : Facts) (w : World), Down ops listed → listed.size = ops.size → (∀ j k w w', j ≠ k → E k w w' → G j w → G j w') → (∀ j, listed.getD j true = false → Fresh G j) → C w → (∀ j, G j w) → wpAnyRE P ops C E T n Q fuel listed a G → wpAny P .any ops Q fuel listed a w
  | 0, _, _, _, w, _, _, _, _, hC, hw, h => ⟨h.1, h.2 w hC hw⟩
  | fuel + 1, listed, a, _, w, hd, hsz, hG, hF, hC, hw, h => by
    refine ⟨fun h0 => h.1 h0 w hC hw, fun i hi => ?_⟩
    have h2 := h.2 i hi
    by_cases hin : i = n
    · rw [if_pos hin] at h2
      subst hin
      exact h2 w hC hw
    · rw [if_neg hin] at h2
      exact wpOp_of_rOpE hT hG hC hw (hF i (mem_ready.1 hi).1) (fun a' G' w' hG' hF' hC' hw' hk => wpAny_of_RE hT hn fuel _ a' G' w' (hd.set hi) (by simpa using hsz) hG' (fun j hj => hF' j (unl_set hj).1 (hF j (unl_set hj).2)) hC' hw' hk) h2

theorem rOp_monoE {i : Nat} {a : Act} {G : Facts} {K K' : Act → Facts → Prop} (hL : Live C G) (h : ∀ a' G', Live C G' → K a' G' → K' a' G') (hr : rOpE P ops C E T i K a G) : rOpE P ops C E T i K' a G := by
  unfold rOpE at *
  split
  · rename_i ho; simp only [ho] at hr; exact h _ _ hL hr
  · rename_i o ho
    simp only [ho] at hr
    obtain ⟨V, φ, hO, hn⟩ := hr
    exact ⟨V, φ, hO, fun v hv hl => h _ _ hl (hn v hv hl)⟩

theorem OwesE.fwd {i j : Nat} {o : Oper} (hs : ∀ cs b, o.op ≠ .select cs b) {a : Act} {G : Facts} {V : Value → Prop} {φ : Value → World → Prop} {dst : Option Tmp} (hd : ∀ d, dst = some d → d ∉ o.looksAt ops)
    (h : OwesE P ops C E T i o a G V φ) (u : Value) (ψ : World → Prop) : OwesE P ops C E T i o (a.put dst u) (G.upd j ψ) V φ := by
  have hw := wanted_put (ops := ops) o a dst u hd
  rcases h with ⟨h1, h2, h3⟩ | ⟨h1, need, hn, h⟩
  · exact .inl ⟨hw.trans h1, h2, h3⟩
  · refine .inr ⟨hw.trans h1, need, hn, ?_⟩
    rcases h with ⟨hT, x, hy, h2, h3⟩ | ⟨Φ, hT, hy, h2, h3⟩
    · exact .inl ⟨hT, x, fun w hC hf => (quietAt_put (ops := ops) hs a dst u hd).2 (hy w hC fun k hk => (hf k hk).1), h2, h3⟩
    · have hl := look_put (ops := ops) o a dst u hd
      exact .inr ⟨Φ, hT, fun w hC hf => (yields_put (ops := ops) hs a dst u hd).2 (by rw [hl]; exact hy w hC fun k hk => (hf k hk).1), h2, by rw [hl]; exact h3⟩

theorem OwesE.bwd {i j : Nat} {o : Oper} (hs : ∀ cs b, o.op ≠ .select cs b) {a : Act} {G : Facts} {V : Value → Prop} {φ : Value → World → Prop} {dst : Option Tmp} (hd : ∀ d, dst = some d → d ∉ o.looksAt ops)
    (hnot : ∀ need : List Nat, need.all (ancB ops 4 j) = true → i ∉ need) {u : Value} {ψ : World → Prop} (h : OwesE P ops C E T j o (a.put dst u) (G.upd i ψ) V φ) : OwesE P ops C E T j o a G V φ := by
  have hw := wanted_put (ops := ops) o a dst u hd
  have up : ∀ {need : List Nat} {w : World}, need.all (ancB ops 4 j) = true → (∀ k ∈ need, G k w) → ∀ k ∈ need, (G.upd i ψ) k w :=
    fun hn hf k hk => ⟨hf k hk, fun hki => absurd (hki ▸ hk) (hnot _ hn)⟩
  rcases h with ⟨h1, h2, h3⟩ | ⟨h1, need, hn, h⟩
  · exact .inl ⟨hw.symm.trans h1, h2, h3⟩
  · refine .inr ⟨hw.symm.trans h1, need, hn, ?_⟩
    rcases h with ⟨hT, x, hy, h2, h3⟩ | ⟨Φ, hT, hy, h2, h3⟩
    · exact .inl ⟨hT, x, fun w hC hf => (quietAt_put (ops := ops) hs a dst u hd).1 (hy w hC (up hn hf)), h2, h3⟩
    · have hl := look_put (ops := ops) o a dst u hd
      exact .inr ⟨Φ, hT, fun w hC hf => (yields_put (ops := ops) hs a dst u hd).1 (by rw [← hl]; exact hy w hC (up hn hf)), h2, by rw [← hl]; exact h3⟩

theorem OwesE.live {i : Nat} {o : Oper} {a : Act} {G : Facts} {V : Value → Prop} {φ : Value → World → Prop} (hG : ∀ j k w w', j ≠ k → E k w w' → G j w → G j w') (hfi : Fresh G i) (hL : Live C G) (h : OwesE P ops C E T i o a G V φ) : ∃ v, V v ∧ Live C (G.upd i (φ v)) := by
  obtain ⟨w, hC, hf⟩ := hL
  rcases h with ⟨_, rfl, rfl⟩ | ⟨_, need, _, h⟩
  · exact ⟨undef, rfl, w, hC, fun j => ⟨hf j, fun _ => trivial⟩⟩
  · rcases h with ⟨_, x, _, rfl, rfl⟩ | ⟨Φ, _, hy, rfl, rfl⟩
    · exact ⟨x, rfl, w, hC, fun j => ⟨hf j, fun _ => trivial⟩⟩
    · obtain ⟨v, w', hC', hE, hΦ⟩ := yields_some (hy w hC fun k _ => hf k)
      exact ⟨v, trivial, w', hC', fun j => ⟨if e : j = i then e ▸ hfi w' else hG j i _ _ e hE (hf j), fun _ => hΦ⟩⟩

theorem OwesE.unique {i : Nat} {o : Oper} {a : Act} {G : Facts} {V V' : Value → Prop} {φ φ' : Value → World → Prop} (hL : Live C G) (h : OwesE P ops C E T i o a G V φ) (h' : OwesE P ops C E T i o a G V' φ') : V = V' ∧ φ = φ' := by
  obtain ⟨w, hC, hf⟩ := hL
  rcases h with ⟨hw, rfl, rfl⟩ | ⟨hw, need, _, h⟩ <;> rcases h' with ⟨hw', rfl, rfl⟩ | ⟨hw', need', _, h'⟩
  · exact ⟨rfl, rfl⟩
  · rw [hw] at hw'; cases hw'
  · rw [hw] at hw'; cases hw'
  · rcases h with ⟨hT, x, hy, rfl, rfl⟩ | ⟨Φ, hT, hy, rfl, rfl⟩ <;> rcases h' with ⟨hT', x', hy', rfl, rfl⟩ | ⟨Φ', hT', hy', rfl, rfl⟩
    · have := quietAt_unique (hy w hC fun k _ => hf k) (hy' w hC fun k _ => hf k)
      subst this
      exact ⟨rfl, rfl⟩
    · rw [hT] at hT'; cases hT'
    · rw [hT] at hT'; cases hT'
    · rw [hT] at hT'; cases hT'; exact ⟨rfl, rfl⟩

/-- Two operations that may both come up now and are apart change places. -/
theorem rOp_swapE {i j : Nat} {oi oj : Oper} {listed : Array Bool} (hd : Down ops listed) (hri : i ∈ Region.ready .any ops listed) (hrj : j ∈ Region.ready .any ops listed)
    (hi : ops[i]? = some oi) (hj : ops[j]? = some oj) (hap : oi.apart ops oj = true)
    (hsi : ∀ cs b, oi.op ≠ .select cs b) (hsj : ∀ cs b, oj.op ≠ .select cs b) {K : Act → Facts → Prop} {a : Act} {G : Facts} (hG : ∀ j k w w', j ≠ k → E k w w' → G j w → G j w') (hfi : Fresh G i) (hL : Live C G)
    (h : rOpE P ops C E T i (fun a' G' => rOpE P ops C E T j K a' G') a G) : rOpE P ops C E T j (fun a' G' => rOpE P ops C E T i K a' G') a G := by
  obtain ⟨h1, h2, h3⟩ := Oper.apart_spec hap
  obtain ⟨hiun, oi', hoi', _⟩ := mem_ready.1 hri
  obtain ⟨_, oj', hoj', hallj⟩ := mem_ready.1 hrj
  rw [hi] at hoi'; cases hoi'
  rw [hj] at hoj'; cases hoj'
  have notIn : ∀ need : List Nat, need.all (ancB ops 4 j) = true → i ∉ need := by
    intro need hn hmem
    have := anc_listed hd 4 j i oj hj hallj (List.all_eq_true.1 hn i hmem)
    rcases Nat.lt_or_ge i listed.size with h' | h'
    · simp [h'] at hiun this; rw [hiun] at this; cases this
    · simp [Array.getElem?_eq_none h'] at this
  unfold rOpE at h ⊢
  simp only [hi, hj] at h ⊢
  obtain ⟨Vi, φi, hOi, hi'⟩ := h
  obtain ⟨v0, hv0, hl0⟩ := hOi.live hG hfi hL
  obtain ⟨Vj, φj, hOj, _⟩ := hi' v0 hv0 hl0
  have hOj := OwesE.bwd hsj h1 notIn hOj
  refine ⟨Vj, φj, hOj, fun u hu _ => ⟨Vi, φi, OwesE.fwd hsi h3 hOi u _, fun v hv hlv => ?_⟩⟩
  rw [upd_comm] at hlv ⊢
  have hlv' : Live C (G.upd i (φi v)) := let ⟨w, hC, hf⟩ := hlv; ⟨w, hC, fun k => (hf k).1⟩
  obtain ⟨Vj', φj', hOj', hk⟩ := hi' v hv hlv'
  obtain ⟨rfl, rfl⟩ := hOj.unique hL (OwesE.bwd hsj h1 notIn hOj')
  rw [← Act.put_comm a v u h2]
  exact hk u hu hlv

theorem rOp_stayE {i : Nat} {a : Act} {G : Facts} {K : Act → Facts → Prop} (hT : ∀ i Φ, T i = some Φ → ∀ A k v w w', k ≠ i → E k w w' → Φ A v w → Φ A v w') (hG : ∀ j k w w', j ≠ k → E k w w' → G j w → G j w')
    (hr : rOpE P ops C E T i K a G) : rOpE P ops C E T i (fun a' G' => ((∀ j k w w', j ≠ k → E k w w' → G' j w → G' j w') ∧ ∀ j, j ≠ i → Fresh G j → Fresh G' j) ∧ K a' G') a G := by
  unfold rOpE at *
  split
  · rename_i ho; simp only [ho] at hr; exact ⟨⟨hG, fun _ _ h => h⟩, hr⟩
  · rename_i o ho
    simp only [ho] at hr
    obtain ⟨V, φ, hO, hn⟩ := hr
    refine ⟨V, φ, hO, fun v hv hl => ⟨⟨?_, fun j hne hf w => ⟨hf w, fun e => absurd e hne⟩⟩, hn v hv hl⟩⟩
    have stay : ∀ (ψ : World → Prop), (∀ k w w', k ≠ i → E k w w' → ψ w → ψ w') → ∀ j k w w', j ≠ k → E k w w' → (G.upd i ψ) j w → (G.upd i ψ) j w' :=
      fun ψ hψ j k w w' hne hE hh => ⟨hG j k _ _ hne hE hh.1, fun hji => hψ k _ _ (fun e => hne (hji.trans e.symm)) hE (hh.2 hji)⟩
    rcases hO with ⟨_, rfl, rfl⟩ | ⟨_, need, _, hO⟩
    · exact stay _ (fun _ _ _ _ _ h => h)
    · rcases hO with ⟨_, x, _, rfl, rfl⟩ | ⟨Φ, hTi, _, rfl, rfl⟩
      · exact stay _ (fun _ _ _ _ _ h => h)
      · exact stay _ (fun k w w' hne h1 h2 => hT i _ hTi _ k v w w' hne h1 h2)

theorem wpAnyR_firstE (hT : ∀ i Φ, T i = some Φ → ∀ A k v w w', k ≠ i → E k w w' → Φ A v w → Φ A v w') (hn : tailB ops n = true) {i : Nat} {oi : Oper} (hi : ops[i]? = some oi) (hsel : ∀ (j : Nat) (o : Oper) cs b, ops[j]? = some o → o.op ≠ .select cs b) :
    ∀ (fuel : Nat) (listed : Array Bool) (a : Act) (G : Facts), Down ops listed → (∀ j k w w', j ≠ k → E k w w' → G j w → G j w') → (∀ j, listed.getD j true = false → Fresh G j) → Live C G →
      (∀ j oj, ops[j]? = some oj → j ≠ i → listed.getD j true = false → (∀ e ∈ oj.after, Region.binds .any e = true → e.on ≠ i) → oi.apart ops oj = true) →
      i ∈ Region.ready .any ops listed →
      (if i = n then tailAny P ops C Q fuel listed i a G else rOpE P ops C E T i (wpAnyRE P ops C E T n Q fuel (listed.setIfInBounds i true)) a G) → wpAnyRE P ops C E T n Q (fuel + 1) listed a G := by
  intro fuel
  induction fuel with
  | zero =>
    intro listed a G hd hG hF hL _ hr H
    refine ⟨fun h => (by rw [h] at hr; cases hr), fun j hj => ?_⟩
    by_cases hji : j = i
    · subst hji; exact H
    · exfalso
      have hin : i ≠ n := fun h => by subst h; exact hji (tail_alone hd hn hr hj)
      rw [if_neg hin] at H
      have hrj := ready_mono hj hji
      unfold rOpE at H
      simp only [hi] at H
      obtain ⟨V, φ, hO, hn⟩ := H
      obtain ⟨v, hv, hl⟩ := hO.live hG (hF i (mem_ready.1 hr).1) hL
      have := (hn v hv hl).1
      rw [this] at hrj
      cases hrj
  | succ fuel ih =>
    intro listed a G hd hG hF hL hfree hr H
    refine ⟨fun h => (by rw [h] at hr; cases hr), fun j hj => ?_⟩
    by_cases hji : j = i
    · subst hji; exact H
    · have hin : i ≠ n := fun h => by subst h; exact hji (tail_alone hd hn hr hj)
      have hjn : j ≠ n := fun h => by subst h; exact hji (tail_alone hd hn hj hr).symm
      rw [if_neg hin] at H
      rw [if_neg hjn]
      obtain ⟨hjun, oj, hoj, hall⟩ := mem_ready.1 hj
      have hnot : ∀ e ∈ oj.after, Region.binds .any e = true → e.on ≠ i := fun e he hb heq => by
        have h1 := hall e he hb
        have h0 := (mem_ready.1 hr).1
        rw [heq] at h1
        rcases Nat.lt_or_ge i listed.size with h' | h'
        · simp [h'] at h0 h1; rw [h0] at h1; cases h1
        · simp [Array.getElem?_eq_none h'] at h1
      have hfree' : ∀ k ok, ops[k]? = some ok → k ≠ i → (listed.setIfInBounds j true).getD k true = false →
          (∀ e ∈ ok.after, Region.binds .any e = true → e.on ≠ i) → oi.apart ops ok = true := fun k ok hk hki hun hno => by
        refine hfree k ok hk hki ?_ hno
        by_cases hjk : j = k
        · subst hjk; exact hjun
        · rw [getD_set_ne true hjk] at hun; exact hun
      have H2 : rOpE P ops C E T i (fun a' G' => rOpE P ops C E T j (wpAnyRE P ops C E T n Q fuel ((listed.setIfInBounds i true).setIfInBounds j true)) a' G') a G :=
        rOp_monoE hL (fun a' G' _ hk => by have := hk.2 j (ready_mono hj hji); rwa [if_neg hjn] at this) H
      have H3 := rOp_swapE hd hr hj hi hoj (hfree j oj hoj hji hjun hnot) (fun cs b => hsel i oi cs b hi) (fun cs b => hsel j oj cs b hoj) hG (hF i (mem_ready.1 hr).1) hL H2
      refine rOp_monoE hL (fun a' G' hL' h3 => ih (listed.setIfInBounds j true) a' G' (hd.set hj) h3.1.1 (fun k hk => h3.1.2 k (unl_set hk).1 (hF k (unl_set hk).2)) hL' hfree' (ready_mono hr (Ne.symm hji)) ?_) (rOp_stayE hT hG H3)
      rw [if_neg hin]
      rw [Array.setIfInBounds_comm _ _ (Ne.symm hji)] at *
      exact h3.2

theorem wpAnyR_lexE (hT : ∀ i Φ, T i = some Φ → ∀ A k v w w', k ≠ i → E k w w' → Φ A v w → Φ A v w') (hn : tailB ops n = true) (hs : Region.noSelect ops = true) : ∀ (l : List Oper) (k : Nat) (listed : Array Bool) (a : Act) (G : Facts), Down ops listed → (∀ j k w w', j ≠ k → E k w w' → G j w → G j w') → (∀ j, listed.getD j true = false → Fresh G j) → Live C G →
    (∀ j, l[j]? = ops[k + j]?) → Region.lexFrom .any ops l.length k listed = true → wpRelE P ops C E T n Q l k a G → wpAnyRE P ops C E T n Q l.length listed a G
  | [], _, _, _, _, _, _, _, _, _, hB, h => ⟨by simpa [Region.lexFrom] using hB, h⟩
  | o :: l, k, listed, a, G, hd, hG, hF, hL, hl, hB, h => by
    have h0 : ops[k]? = some o := by simpa using (hl 0).symm
    simp only [List.length_cons, Region.lexFrom, Bool.and_eq_true] at hB
    obtain ⟨⟨hr, hf⟩, hB'⟩ := hB
    have hr' : k ∈ Region.ready .any ops listed := by simpa using hr
    refine wpAnyR_firstE hT hn h0 (Region.noSelect_spec hs) l.length listed a G hd hG hF hL (Region.free_spec h0 hf) hr' ?_
    simp only [wpRelE] at h
    by_cases hkn : k = n
    · rw [if_pos hkn] at h ⊢
      intro w hC hw
      have hch := tail_chain (P := P) (Q := Q) hn (o :: l) k listed a w (by omega) hd hl (by simp only [List.length_cons, Region.lexFrom, Bool.and_eq_true]; exact ⟨⟨hr, hf⟩, hB'⟩) (h w hC hw)
      exact hch.2 k hr'
    · rw [if_neg hkn] at h ⊢
      have hst : rOpE P ops C E T k (wpRelE P ops C E T n Q l (k + 1)) a G := by unfold rOpE; simp only [h0]; exact h
      exact rOp_monoE hL (fun a' G' hL' h' => wpAnyR_lexE hT hn hs l (k + 1) _ a' G' (hd.set hr') h'.1.1 (fun j hj => h'.1.2 j (unl_set hj).1 (hF j (unl_set hj).2)) hL' (fun j => by have := hl (j + 1); simpa [Nat.add_assoc, Nat.add_comm 1 j] using this) hB' h'.2) (rOp_stayE hT hG hst)

/-- **A region that draws its order, walked once.** n: the number of its last operation, if that one is taken by a law of its own; else any number from the region's size on. -/
theorem wp_region_relE (C : World → Prop) (E : Nat → World → World → Prop) (T : Nat → Option (List Value → Value → World → Prop)) (hT : ∀ i Φ, T i = some Φ → ∀ A k v w w', k ≠ i → E k w w' → Φ A v w → Φ A v w')
    {id : Nat} {Q : Exit → Act → World → Prop} {a : Act} {w : World} {l : List Oper} (n : Nat) (hn : tailB l.toArray n = true) (hm : P.follows .mixedOrders = true) (hB : Region.lexB .any l.toArray = true) (hC : C w.drew)
    (h : wpRelE P l.toArray C E T n Q l 0 a Facts.top) : (Code.region id l.toArray true).wp P Q a w := by
  simp only [Region.lexB, Bool.and_eq_true] at hB
  have hG : ∀ (j k : Nat) (w w' : World), j ≠ k → E k w w' → Facts.top j w → Facts.top j w' := fun _ _ _ _ _ _ h => h
  have hF : ∀ j, Fresh Facts.top j := fun _ _ => trivial
  have hd : Down l.toArray (Array.replicate l.toArray.size false) := by
    intro k o _ hk
    simp only [Array.getD, Array.size_replicate] at hk
    split at hk
    · simp at hk
    · cases hk
  refine wp_region_any hm (wpAny_of_RE hT hn _ _ _ Facts.top _ hd (by simp) hG (fun j _ => hF j) hC (fun _ => trivial) ?_)
  have := wpAnyR_lexE (C := C) hT hn hB.1 l 0 (Array.replicate l.toArray.size false) a Facts.top hd hG (fun j _ => hF j) ⟨_, hC, fun _ => trivial⟩ (by simp) (by simpa using hB.2) h
  simpa using this
end

/-! ### The steps -/
section
variable {P : Program} {ops : Array Oper} {C : World → Prop} {E : Nat → World → World → Prop} {T : Nat → Option (List Value → Value → World → Prop)} {n : Nat} {Q : Exit → Act → World → Prop} {o : Oper} {rest : List Oper} {k : Nat} {a : Act} {G : Facts}

def StaysE (E : Nat → World → World → Prop) (i : Nat) (Φ : Value → World → Prop) : Prop := ∀ k, k ≠ i → ∀ v w w', E k w w' → Φ v w → Φ v w'
def TabOKE (E : Nat → World → World → Prop) : Tab → Prop
  | [] => True
  | (i, φ) :: L => StaysE E i φ ∧ TabOKE E L
def Tab.atE (L : Tab) (i : Nat) : Option (List Value → Value → World → Prop) := (L.at i).map fun Φ _ => Φ
theorem Tab.staysE {L : Tab} (h : TabOKE E L) : ∀ i Φ, L.atE i = some Φ → ∀ A k v w w', k ≠ i → E k w w' → Φ A v w → Φ A v w' := by
  induction L with
  | nil => intro i Φ hi; cases hi
  | cons p L ih =>
    obtain ⟨j, φ⟩ := p
    intro i Φ hi A k v w w' hne
    simp only [Tab.atE, Tab.at] at hi
    split at hi
    · rename_i e; cases hi; subst e; exact h.1 k hne v w w'
    · exact ih h.2 i Φ hi A k v w w' hne
/-- Tables whose facts may name the values that the operation looks at. -/
def TabP := List (Nat × (List Value → Value → World → Prop))
def TabP.at : TabP → Nat → Option (List Value → Value → World → Prop)
  | [], _ => none
  | (i, φ) :: L, k => if k = i then some φ else TabP.at L k
def TabOKP (E : Nat → World → World → Prop) : TabP → Prop
  | [] => True
  | (i, φ) :: L => (∀ A k, k ≠ i → ∀ v w w', E k w w' → φ A v w → φ A v w') ∧ TabOKP E L
theorem TabP.staysE {L : TabP} (h : TabOKP E L) : ∀ i Φ, TabP.at L i = some Φ → ∀ A k v w w', k ≠ i → E k w w' → Φ A v w → Φ A v w' := by
  induction L with
  | nil => intro i Φ hi; cases hi
  | cons p L ih =>
    obtain ⟨j, φ⟩ := p
    intro i Φ hi A k v w w' hne
    simp only [TabP.at] at hi
    split at hi
    · rename_i e; cases hi; subst e; exact h.1 A k hne v w w'
    · exact ih h.2 i Φ hi A k v w w' hne

theorem relE_nil (h : ∀ w, C w → (∀ j, G j w) → Q .normal a w) : wpRelE P ops C E T n Q [] k a G := h
theorem relE_step (hkn : (k == n) = false) (h : rStepE P ops C E T k o (wpRelE P ops C E T n Q rest (k + 1)) a G) : wpRelE P ops C E T n Q (o :: rest) k a G := by
  have : k ≠ n := by simpa using hkn
  unfold wpRelE
  rw [if_neg this]
  exact h
theorem relE_tail (hkn : (k == n) = true) (ho : ops[k]? = some o) (h : ∀ w, C w → (∀ j, G j w) → wpList P ops Q (o :: rest) a w) : wpRelE P ops C E T n Q (o :: rest) k a G := by
  have : k = n := by simpa using hkn
  unfold wpRelE
  rw [if_pos this]
  exact h
theorem relE_quiet (hkn : (k == n) = false) (hw : Region.wanted o (yielded ops a.tmps) = true) (hT : T k = none) (hne : noEnter o.op = true)
    (h : ∀ K : Act → Prop, (∀ a, wpRelE P ops C E T n Q rest (k + 1) a G → K a) → o.quiet P a (fun w => C w ∧ ∀ j ∈ ([] : List Nat), G j w) K) : wpRelE P ops C E T n Q (o :: rest) k a G := by
  obtain ⟨v, hq, hr⟩ := h _ (fun _ h => h)
  refine relE_step hkn ⟨(· = v), fun _ _ => True, .inr ⟨hw, [], rfl, .inl ⟨hT, v, fun w hC hf => ?_, rfl, rfl⟩⟩, fun u hu _ => by subst hu; rw [Facts.upd_true]; exact hr⟩
  have := hq w ⟨hC, hf⟩
  unfold Oper.quietAt at *
  have hno := noEnter_run (P := P) (a := a) (w := w) hne
  generalize (execOp a.eval o).run P w = r at *
  cases r with
  | ok n w' => cases n <;> simp only [Oper.quietUpon] at this ⊢ <;> first | exact this | exact absurd rfl (hno _ _ _)
  | halt x w' => exact this
/-- What is asked behind an operation: behind a name that simp does not open. -/
def RgPostE (C : World → Prop) (E : World → World → Prop) (w : World) (Φ : Value → World → Prop) (v : Value) (w' : World) : Prop := C w' ∧ E w w' ∧ Φ v w'
theorem relE_fact (need : List Nat) {Φ : Value → World → Prop} (hkn : (k == n) = false) (hw : Region.wanted o (yielded ops a.tmps) = true) (hT : T k = some (fun _ => Φ)) (hn : need.all (ancB ops 4 k) = true)
    (h : ∀ w, C w → (∀ j ∈ need, G j w) → yields P o a w (RgPostE C (E k) w Φ))
    (hk : ∀ v w, C w → (∀ j, G j w) → Φ v w → wpRelE P ops C E T n Q rest (k + 1) (a.put o.dst v) (G.upd k (Φ v))) : wpRelE P ops C E T n Q (o :: rest) k a G :=
  relE_step hkn ⟨fun _ => True, Φ, .inr ⟨hw, need, hn, .inr ⟨fun _ => Φ, hT, h, rfl, rfl⟩⟩, fun v _ ⟨w, hC, hf⟩ => hk v w hC (fun j => (hf j).1) ((hf k).2 rfl)⟩
theorem relE_factP (need : List Nat) {Φ : List Value → Value → World → Prop} (hkn : (k == n) = false) (hw : Region.wanted o (yielded ops a.tmps) = true) (hT : T k = some Φ) (hn : need.all (ancB ops 4 k) = true)
    (h : ∀ w, C w → (∀ j ∈ need, G j w) → yields P o a w (RgPostE C (E k) w (Φ (look o a))))
    (hk : ∀ v w, C w → (∀ j, G j w) → Φ (look o a) v w → wpRelE P ops C E T n Q rest (k + 1) (a.put o.dst v) (G.upd k (Φ (look o a) v))) : wpRelE P ops C E T n Q (o :: rest) k a G :=
  relE_step hkn ⟨fun _ => True, Φ (look o a), .inr ⟨hw, need, hn, .inr ⟨Φ, hT, h, rfl, rfl⟩⟩, fun v _ ⟨w, hC, hf⟩ => hk v w hC (fun j => (hf j).1) ((hf k).2 rfl)⟩
theorem relE_val (need : List Nat) {u : Value} (hkn : (k == n) = false) (hw : Region.wanted o (yielded ops a.tmps) = true) (hT : T k = some (fun _ v _ => v = u)) (hn : need.all (ancB ops 4 k) = true)
    (h : ∀ w, C w → (∀ j ∈ need, G j w) → yields P o a w (RgPostE C (E k) w (fun x _ => x = u)))
    (hk : wpRelE P ops C E T n Q rest (k + 1) (a.put o.dst u) G) : wpRelE P ops C E T n Q (o :: rest) k a G :=
  relE_fact need hkn hw hT hn h (fun v w _ _ hv => by
    have hv : v = u := hv
    subst hv
    have : G.upd k (fun _ => v = v) = G := by funext k w; simp [Facts.upd]
    show wpRelE P ops C E T n Q rest (k + 1) (a.put o.dst v) (G.upd k (fun _ => v = v))
    rw [this]; exact hk)
/-- A store of a whole variable, as the region's walk meets it. -/
theorem yields_storeBox {w : World} {R : Value → World → Prop} (ty : TypeId) (x y : Operand) (ho : o.op = .store ty x y)
    (g : Nat) (cells old : Array Value) (t : TypeId) (hx : a.eval x = .pointer (some ⟨g, 0, none⟩)) (hy : a.eval y = .agg cells)
    (hg : w.heap[g]? = some (.cells old t (0, 0))) (hi : (P.info? ty).map (·.size) = some cells.size) (hold : old.size = cells.size) (h1 : cells.all (·.oneCell') = true)
    (hR : ∀ w', w'.heap[g]? = some (.cells cells t (0, 0)) → w.grownBy w' (some g) → R undef w') : yields P o a w R := by
  unfold yields execOp
  simp only [ho, hx, hy, Instr.storeAt, Instr.sureAddr, Sem.run_bind, Sem.run_pure, Result.andThen_ok, run_storeVar_row w g t ty old cells hg hi hold h1]
  exact hR _ (setRow_heap w g old cells t (0, 0) hg) ⟨rfl, rfl, rfl, by simp [World.setRow], fun k _ hne => setRow_other w g k cells (fun e => hne (by rw [e]))⟩
/-- As the kit's 'run_append_own': and the slice that was appended to is a row of one's own still. -/
theorem run_append_keep {P : Program} (w : World) (base : Nat) (t ty e : TypeId) (i : TypeInfo) (z : Value) (size bytes : Nat) (ht : P.underlying t = some (.slice e)) (hi : P.info? e = some i) (hz : i.zero = some z)
    (hsize : i.size = size) (hby : i.bytes = bytes) (hzs : z.cells.size = size) (hsz : 0 < size)
    (v : Value) (n : Nat) (xs : List Value) (hown : w.ownsRow base e size v n xs)
    (a : Addr) (m c : Nat) (news : List Value) (hl : news.length = m * size) (hnews : ∀ j u, news[j]? = some u → w.cell? (a.add j) = some u) (h1 : ∀ u ∈ news, u.oneCell' = true)
    (h63 : n + m ≤ maxLen) (hbytes : (n + m) * bytes ≤ 140737488355328) (hbase : base ≤ w.heap.size) :
    ∃ v' w', (Builtin.append_ #[t, t] ty #[v, .slice (some a) m c]).run P w = .ok v' w' ∧ w'.ownsRow base e size v' (n + m) (xs ++ news) ∧ w.grownBy w' v.ownBlock ∧ w'.ownsRow base e size v n xs := by
  obtain ⟨v', w', hr, h2, h3, _⟩ := run_append_own (P := P) w base t ty e i z size bytes ht hi hz hsize hby hzs hsz v n xs hown a m c news hl hnews h1 h63 hbytes hbase
  refine ⟨v', w', hr, h2, h3, ?_⟩
  subst hsize
  subst hby
  have hsmall : n + m ≤ 9223372036854775807 := by simp only [maxLen] at h63; omega
  rcases hown.2 with ⟨rfl, rfl⟩ | ⟨g, cap, cur, rfl, hbg, hg, hnc, hcm, hcs, htake⟩
  · have hx : xs = [] := List.eq_nil_of_length_eq_zero (by simpa using hown.1)
    subst hx
    exact World.ownsRow_nil _ _ _ _
  · by_cases hroom : n + m ≤ cap
    · have hfit : n * i.size + news.length ≤ cur.size := by rw [hl, hcs, ← Nat.add_mul]; exact Nat.mul_le_mul_right _ hroom
      have hr2 := run_append_room (P := P) w t ty e i ht hi g n cap cur hg a m c news hl hnews h1 hroom hfit
      rw [hr] at hr2
      cases hr2
      obtain ⟨hl2, h2'⟩ := h2
      rcases h2' with ⟨e, _⟩ | ⟨g2, cap2, cur2, e, hb2, hg2, hn2, hm2, hs2, ht2⟩
      · cases e
      · cases e
        refine ⟨hown.1, .inr ⟨g, cap, cur2, rfl, hbg, hg2, hnc, hcm, hs2, ?_⟩⟩
        have h5 := congrArg (List.take (n * i.size)) ht2
        rw [List.take_take, Nat.min_eq_left (Nat.mul_le_mul_right _ (Nat.le_add_right n m)), List.take_left' hown.1] at h5
        exact h5
    · have holds : ∀ j u, xs[j]? = some u → w.cell? ((⟨g, 0, none⟩ : Addr).add j) = some u := hown.cells (g := g) rfl
      have hr2 := run_append_grow (P := P) w t ty e i z ht hi hz ⟨g, 0, none⟩ n cap xs hown.1 holds a m c news hl hnews (by omega) (by omega) (growslice_fits (by omega) hbytes)
      rw [hr] at hr2
      cases hr2
      exact (show w.drew.ownsRow base e i.size (.slice (some ⟨g, 0, none⟩) n cap) n xs from hown).alloc _
/-- 'append' to a row of one's own, as the region's walk meets it. -/
theorem yields_append {Tt e : TypeId} {z : Value} {size bytes : Nat} (info : (P.info? e).map (fun i => (i.zero, i.size, i.bytes)) = some (some z, size, bytes)) (und : P.underlying Tt = some (.slice e)) (hzs : z.cells.size = size) (hsz : 0 < size) (s x : Operand)
    (hop : o.op = Op.call { callee := Callee.builtin Builtin.append, args := #[s, x], argTypes := #[Tt, Tt] }) {w : World}
    (B : Nat) (hB : B ≤ w.heap.size) (v : Value) (m : Nat) (xs : List Value) (hown : w.ownsRow B e size v m xs) (hs : a.eval s = v) (g c : Nat) (c' : Nat) (news : List Value) (hx : a.eval x = .slice (some ⟨g, 0, none⟩) c c')
    (hl : news.length = c * size) (hnews : ∀ j u, news[j]? = some u → w.cell? ⟨g, j, none⟩ = some u) (h1 : ∀ u ∈ news, u.oneCell' = true) (h63 : m + c ≤ maxLen) (hb : (m + c) * bytes ≤ 140737488355328) {R : Value → World → Prop}
    (hR : ∀ v' w', w'.ownsRow B e size v' (m + c) (xs ++ news) → w.grownBy w' v.ownBlock → w'.ownsRow B e size v m xs → R v' w') : yields P o a w R := by
  obtain ⟨i0, hi, hz0, hz1, hz2⟩ := info_parts info
  obtain ⟨v', w', hr, h2, h3, h4⟩ := run_append_keep (P := P) w B Tt o.type e i0 z size bytes und hi hz0 hz1 hz2 hzs hsz v m xs hown ⟨g, 0, none⟩ c c' news hl (fun j u hj => by rw [Addr.add_lit, Nat.zero_add]; exact hnews j u hj) h1 h63 hb hB
  unfold yields execOp
  simp only [hop, resolve, invoke, builtin, Sem.run_bind, Sem.run_pure, Result.andThen_ok, List.map_toArray, List.map_cons, List.map_nil, hs, hx, hr]
  exact hR v' w' h2 h3 h4
end
end Go.Proofs.YtcmgeccgahakbaaDoor

/- Lists of partitions in memory, in blocks of their own type. -/
namespace Go.Proofs.YtcmgeccgahakbaaDoor
open Go Go.RowKit

/-- A partition with the value of its rows. -/
structure Pa where
  key : ByteArray
  gone : Int
  rv : Value
  ps : List (Ro × Value)
/-- What it is, whatever its memory. -/
def Pa.data (p : Pa) : ByteArray × Int × List Ro := (p.key, p.gone, p.ps.map (·.1))
theorem info_Part : (Tryd.prog.info? 24).map (fun i => (i.zero, i.size, i.bytes)) = some (some (.agg #[.string ⟨#[]⟩, .int .i64 0, .slice none 0 0]), 3, 48) := by kernel_rfl
def paCells : List Pa → List Value
  | [] => []
  | p :: l => .string p.key :: .int .i64 p.gone :: p.rv :: paCells l
theorem paCells_length (l : List Pa) : (paCells l).length = l.length * 3 := by
  induction l with
  | nil => rfl
  | cons c l ih => simp [paCells, ih]; omega
theorem paCells_append (l m : List Pa) : paCells (l ++ m) = paCells l ++ paCells m := by
  induction l with
  | nil => rfl
  | cons c l ih => simp [paCells, ih]
theorem paCells_get : ∀ (l : List Pa) (k : Nat) (h : k < l.length), (paCells l)[k * 3]? = some (.string l[k].key) ∧ (paCells l)[k * 3 + 1]? = some (.int .i64 l[k].gone) ∧ (paCells l)[k * 3 + 2]? = some l[k].rv
  | c :: l, 0, _ => by simp [paCells]
  | c :: l, k + 1, h => by
    have ih := paCells_get l k (by simpa using h)
    have e : (k + 1) * 3 = k * 3 + 3 := by omega
    simp only [e, paCells, List.getElem_cons_succ]
    simpa using ih
structure PartsT (x : World) (v : Value) (L : List Pa) : Prop where
  tin : TIn x 24 v L.length (paCells L)
  rows : ∀ p ∈ L, RowsT x p.rv p.ps
theorem PartsT.ext {x y : World} (hE : Ext x y) {v : Value} {L : List Pa} (h : PartsT x v L) : PartsT y v L := ⟨h.tin.ext hE, fun p hp => (h.rows p hp).ext hE⟩
/-- A partition at a place in memory. -/
structure PaAt (w : World) (b o : Nat) (p : Pa) : Prop where
  c0 : w.cell? ⟨b, o, none⟩ = some (.string p.key)
  c1 : w.cell? ⟨b, o + 1, none⟩ = some (.int .i64 p.gone)
  c2 : w.cell? ⟨b, o + 2, none⟩ = some p.rv
theorem PaAt.ext {w w' : World} (hE : Ext w w') {b o : Nat} {p : Pa} (h : PaAt w b o p) : PaAt w' b o p := ⟨hE.cell h.c0, hE.cell h.c1, hE.cell h.c2⟩
theorem PartsT.get {w : World} {v : Value} {L : List Pa} (h : PartsT w v L) : ∃ a c, v = .slice a L.length c ∧ L.length ≤ c ∧ c ≤ 9223372036854775807 ∧ ∀ k (hk : k < L.length), ∃ b, a = some ⟨b, 0, none⟩ ∧ PaAt w b (k * 3) L[k] := by
  rcases h.tin with ⟨rfl, hn, _⟩ | ⟨b, c, Z, rfl, hb, hn, hc, hx⟩
  · exact ⟨none, 0, by rw [hn], by omega, by omega, fun k hk => by omega⟩
  · unfold maxLen at hc
    refine ⟨_, c, rfl, hn, by omega, fun k hk => ⟨b, rfl, ?_⟩⟩
    obtain ⟨g0, g1, g2⟩ := paCells_get L k hk
    exact ⟨(hb.cell _).trans (hx _ _ g0), (hb.cell _).trans (hx _ _ g1), (hb.cell _).trans (hx _ _ g2)⟩

/-- Operation n appends to a list of partitions of one's own; the others let memory grow. -/
def PE (vl : Value) (B n j : Nat) (x y : World) : Prop := if j = n then (∃ m xs, x.ownsRow B 24 3 vl m xs) ∧ x.grownBy y vl.ownBlock else Ext x y
theorem PE_ext {vl : Value} {B n j : Nat} {x y : World} (hj : j ≠ n) (h : Ext x y) : PE vl B n j x y := by unfold PE; rw [if_neg hj]; exact h
theorem PE_off {vl : Value} {B n j : Nat} {x y : World} (hj : j ≠ n) (h : PE vl B n j x y) : Ext x y := by unfold PE at h; rwa [if_neg hj] at h
theorem PE_tin {vl : Value} {B n j : Nat} {x y : World} (h : PE vl B n j x y) {e : TypeId} (he : e ≠ 24) {v : Value} {m : Nat} {xs : List Value} (ht : TIn x e v m xs) : TIn y e v m xs := by
  unfold PE at h
  split at h
  · obtain ⟨⟨m, xs, hown⟩, hg⟩ := h
    exact ht.keepOwn hown hg he
  · exact ht.ext h
theorem PE_rows {vl : Value} {B n j : Nat} {x y : World} (h : PE vl B n j x y) {v : Value} {qs : List (Ro × Value)} (hr : RowsT x v qs) : RowsT y v qs :=
  ⟨PE_tin h (by decide) hr.tin, fun p hp => PE_tin h (by decide) (hr.typed p hp)⟩
theorem PE_box {vl : Value} {B n j : Nat} {x y : World} (h : PE vl B n j x y) {b : Nat} {cs : Array Value} {T : TypeId} (hT : T ≠ 24) (hb : BoxAt x b cs T) : BoxAt y b cs T := by
  unfold PE at h
  split at h
  · obtain ⟨⟨m, xs, hown⟩, hg⟩ := h
    refine hb.grown hg (fun e => ?_)
    rcases own_ne_box hown hb (fun e => hT e.symm) with h | h
    · rw [h] at e; cases e
    · exact h e.symm
  · exact hb.ext h
theorem PE_far {wr : World} {vl : Value} {B n j m : Nat} {xs : List Value} (hown : wr.ownsRow B 24 3 vl m xs) {x y : World} (h : PE vl B n j x y) {b : Nat} (hb : wr.heap.size ≤ b) {cs : Array Value} {e : TypeId} (hx : BoxAt x b cs e) : BoxAt y b cs e := by
  unfold PE at h
  split at h
  · exact hx.grown h.2 (fun e => by have := (hown.lt _ e.symm).2; omega)
  · exact hx.ext h
end Go.Proofs.YtcmgeccgahakbaaDoor
