/- Notes that may be; what Fits tells, in plain words. -/
import Derived.Test.YtmjhdfifbjdgpaaQ2
import Derived.Test.YtmjhdfifbjdgpaaQ1
import Derived.ProofKit
import Derived.ChangeSlices
import Derived.WideShapes
import Derived.Shelf.SlIterI.Nil
import Derived.Shelf.SortM.Plain
import Derived.Shelf.SortM.SortNone
import Derived.Ground.GgzProg
import Derived.Ground.SlgmProg
import Derived.Test.YtmjhdfifbjdgpaaProg
set_option linter.unusedSimpArgs false
set_option linter.unusedVariables false
namespace Go.Proofs.Ytmjhdfifbjdgpaa
open Go Go.RowKit

structure Good (F : Fl) : Prop where
  rises : Rises F
  len : F.length ≤ 300
  keys : ∀ q ∈ F, 1 ≤ q.1 ∧ q.1 ≤ 1099511627776
theorem Good.nil : Good [] := ⟨List.Pairwise.nil, by simp, by simp⟩
theorem Good.del {F : Fl} (h : Good F) (n : Int) : Good (fdel n F) :=
  ⟨fdel_rises h.rises, Nat.le_trans (List.length_filter_le ..) h.len, fun q hq => h.keys q (List.mem_filter.1 hq).1⟩
theorem Good.put {F : Fl} (h : Good F) {n : Int} {m : Nat} {b : List UInt8} (ha : addB n m F = true) : Good (fput n b F) := by
  rcases addB_cases n m F with ⟨_, a1, a2, a3, a4⟩ | ⟨h', _⟩
  · refine ⟨fput_rises h.rises, ?_, fun q hq => ?_⟩
    · rw [fput_length h.rises]
      have := h.len
      rcases a4 with a4 | ⟨a4, a5⟩
      · rw [if_pos a4]; omega
      · rw [if_neg (by rw [a4]; decide)]; omega
    · rcases fput_mem hq with rfl | hq
      · simp; omega
      · exact h.keys q hq
  · rw [ha] at h'; cases h'
def fadds : Fl → Fl → Bool
  | _, [] => true
  | F, a :: A => addB a.1 a.2.length F && fadds (fput a.1 a.2 F) A
def fdels (F : Fl) (D : List Int) : Fl := D.foldl (fun F d => fdel d F) F
theorem Good.dels {F : Fl} (h : Good F) : ∀ D, Good (fdels F D)
  | [] => h
  | d :: D => by unfold fdels; rw [List.foldl_cons]; exact Good.dels (h.del d) D
/-- Would all of A be kept, when those of D are gone? -/
def fitsB (F A : Fl) (D : List Int) : Bool := fadds (fdels F D) A
theorem fdels_snoc (F : Fl) (D : List Int) (d : Int) : fdels F (D ++ [d]) = fdel d (fdels F D) := by simp [fdels]
end Go.Proofs.Ytmjhdfifbjdgpaa

/- A slice of integers that comes in, read. -/
namespace Go.Proofs.Ytmjhdfifbjdgpaa
open Go Go.RowKit Go.ChangeShapes Go.WideShapes Go.ChangeAt

/-- The cells of a list of integers. -/
def kcells (k : IntKind) (l : List Int) : List Value := l.map (Value.int k)
@[simp] theorem kcells_length (k : IntKind) (l : List Int) : (kcells k l).length = l.length := by simp [kcells]
theorem kcells_get (k : IntKind) (l : List Int) (i : Nat) : (kcells k l)[i]? = l[i]?.map (Value.int k) := by simp [kcells]
/-- v is a slice of integers that reads as l. -/
def IntsIn (w : World) (v : Value) (k : IntKind) (l : List Int) : Prop := SliceIn w v l.length (kcells k l)
theorem IntsIn.ext {w w' : World} (hE : Ext w w') {v : Value} {k : IntKind} {l : List Int} (h : IntsIn w v k l) : IntsIn w' v k l := SliceIn.ext hE h

theorem read_ints {P : Program} {H : Type} {enc : TypeId × Value → H} {W : World} {base : Nat} {t e : TypeId} {k : IntKind} {v : Value} {d : DataW H} {p : List MemPlace} (ht : P.underlying t = some (.slice e)) (he : P.underlying e = some (.int k)) (hc : P.cellsOf e = 1)
    (hv : Value.okWide P W .any base t v) (h : DataW.Trod enc P W 0 (fun _ => true) true t v d p) : ∃ l : List Int, IntsIn W v k l ∧ ∀ n ∈ l, (Lit.int k n).wf = true := by
  obtain ⟨a, len, cap, rfl⟩ := okWide_slice ht hv
  obtain ⟨fuel, hf⟩ := h
  rcases open_ints ht he hc hf with ⟨hcs, _⟩ | ⟨x, l, c, zs, hcs, _, hl, hm, hz, _, hcell, hwz⟩
  · simp [Value.cells] at hcs
    obtain ⟨rfl, rfl, rfl⟩ := hcs
    exact ⟨[], SliceIn.nil W, by simp⟩
  · simp [Value.cells] at hcs
    obtain ⟨rfl, rfl, rfl⟩ := hcs
    have hz' : zs.length = cap := by simpa using hz
    refine ⟨zs.take len, ?_, fun n hn => hwz n (List.mem_of_mem_take hn)⟩
    have hlen : (zs.take len).length = len := by simp; omega
    unfold IntsIn
    rw [hlen]
    refine ⟨some x, cap, rfl, hl, hm, nofun, fun j u hj => ?_⟩
    rw [kcells_get, List.getElem?_take] at hj
    split at hj
    · rename_i hlt
      have hjz : j < zs.length := by omega
      have hc := hcell j hjz
      have h0 := hcell 0 (by omega)
      obtain ⟨b, o, s⟩ := x
      have hs : s = none := by
        cases s with
        | none => rfl
        | some s =>
          simp only [Addr.add, if_pos] at h0
          unfold World.cell? at h0
          split at h0 <;> simp at h0
      subst hs
      refine ⟨b, o, rfl, ?_⟩
      rw [Addr.add_lit] at hc
      rw [hc, List.getD_eq_getElem?_getD]
      rw [List.getElem?_eq_getElem hjz] at hj ⊢
      simp at hj ⊢
      exact hj
    · cases hj
end Go.Proofs.Ytmjhdfifbjdgpaa

/- Package note: Fits. -/
namespace Go.Proofs.Ytmjhdfifbjdgpaa
open Go Go.RowKit
attribute [local go_sem] yields yUpon

theorem ba_len' (b : ByteArray) : b.data.toList.length = b.size := by rw [Array.length_toList]; rfl
theorem str_data' (l : List UInt8) : (str l).data.toList = l := by simp [str]

section
variable {x p m : Nat} {F : Fl}
set_option maxRecDepth 100000 in
set_option maxHeartbeats 1000000 in
theorem fits1_any (id : Int) (h0 : -9223372036854775808 ≤ id) (h1 : id ≤ 9223372036854775807) (b : ByteArray) (hb : b.size ≤ maxLen) (hF : F.length ≤ 1000000) (w : World) (h : NoteAt w p m F) (hx : BoxAt w x #[.pointer (some ⟨p, 0, none⟩)] 23) :
    Calls Try.prog 51 #[.agg #[.int .i64 id, .string b], .pointer (some ⟨x, 0, none⟩)] w fun e w' => (e = .returned (.bool (!addB id b.size F)) ∧ Touch w w' [m]) ∧ NoteAt w' p m (if addB id b.size F then fput id b.data.toList F else F) := by
  have hE0 := (Ext.refl w).alloc (.cells #[.int .i64 id, .string b] 30)
  have hbx := BoxAt.made w #[.int .i64 id, .string b] 30
  have h2 := h.ext hE0
  have hx2 := hx.ext hE0
  have b0 := hbx.cell 0
  have b1 := hbx.cell 1
  simp at b0 b1
  have x0 := hx2.cell 0
  simp at x0
  obtain ⟨A, hA⟩ : ∃ A, A = addB id b.size F := ⟨_, rfl⟩
  have HA := Lib.hid hA
  rw [← hA]
  clear hA
  cases A
  all_goals
    go_enter Try.func51, Try.ntmps51
    go_wp2_with (go_at_call 11; go_must (refine (nt_add id h0 h1 b hb hF _ h2).mono ?_); rintro e w3 ⟨⟨rfl, ht3⟩, hn3⟩; rw [← HA.out] at hn3 ⊢)
    go_ret
    exact ⟨⟨rfl, ((Touch.of_ext hE0 [m]).trans ht3).mono (by simp)⟩, hn3⟩

set_option maxRecDepth 100000 in
set_option maxHeartbeats 4000000 in
theorem indexN_any (va : Value) (A : Fl) (w0 w : World) (hE : Ext w0 w) (hm : w0.heap.size ≤ m) (hA : NotesIn w0 va A) (hAb : ∀ q ∈ A, (-9223372036854775808 ≤ q.1 ∧ q.1 ≤ 9223372036854775807) ∧ q.2.length ≤ maxLen) (hG : Good F) (h : NoteAt w p m F) (hx : BoxAt w x #[.pointer (some ⟨p, 0, none⟩)] 23) (hxm : x ≠ m) :
    Calls Try.prog 92 #[va, .func (.func 51) #[] #[.pointer (some ⟨x, 0, none⟩)]] w fun e w' => ∃ i : Int, e = .returned (.int .i64 i) ∧ Ext w0 w' ∧ decide (0 ≤ i) = !fadds F A := by
  obtain ⟨aa, ca, rfl, hca, hcma, hga⟩ := hA.get
  have HA := Lib.hid hga
  clear hga hA
  obtain ⟨an, han⟩ : ∃ an, an = A.length := ⟨_, rfl⟩
  rw [← han] at hca ⊢
  have HAN := Lib.hid han
  have HAB := Lib.hid hAb
  clear han hAb
  go_enter Try.func92, Try.ntmps92
  go_wp2
  go_loopw [8] (fun i wr => ∃ (j : Nat) (Fj : Fl), j ≤ an ∧ i = .int .i64 (j : Int) ∧ NoteAt wr p m Fj ∧ BoxAt wr x #[.pointer (some ⟨p, 0, none⟩)] 23 ∧ Good Fj ∧ Hid (fadds F A = fadds Fj (A.drop j)) ∧ Ext w0 wr) (fun i _ => an - (intOf i).toNat)
  case atStart => exact ⟨0, F, Nat.zero_le _, rfl, h, hx, hG, rfl, hE⟩
  case round =>
    obtain ⟨j, Fj, hj, rfl, hNj, hXj, hGj, HFj, hEj⟩ := hrel
    by_cases hlj : j < an
    · have hja : j < A.length := by rw [← HAN.out]; exact hlj
      obtain ⟨b, o, rfl, hx0, hx1⟩ := HA.out j hja
      replace hx0 := hEj.cell hx0
      replace hx1 := hEj.cell hx1
      obtain ⟨⟨hk0, hk1⟩, hbl⟩ := HAB.out _ (List.getElem_mem hja)
      have HT : Hid (fadds Fj (A.drop j) = (addB (A[j]).1 (A[j]).2.length Fj && fadds (fput (A[j]).1 (A[j]).2 Fj) (A.drop (j + 1)))) := Lib.hid (by rw [List.drop_eq_getElem_cons hja]; rfl)
      obtain ⟨id, hid⟩ : ∃ id, id = (A[j]).1 := ⟨_, rfl⟩
      obtain ⟨bd, hbd⟩ : ∃ bd, bd = str (A[j]).2 := ⟨_, rfl⟩
      have ebd : (A[j]).2 = bd.data.toList := by rw [hbd, str_data']
      rw [← hid] at hx0 HT hk0 hk1
      rw [← hbd] at hx1
      rw [ebd] at HT hbl
      have hsz : bd.data.toList.length = bd.size := ba_len' bd
      have hbl' : bd.size ≤ maxLen := by rw [← hsz]; exact hbl
      rw [hsz] at HT
      have hK : Hid ((-9223372036854775808 ≤ id ∧ id ≤ 9223372036854775807) ∧ bd.size ≤ maxLen) := Lib.hid ⟨⟨hk0, hk1⟩, hbl'⟩
      clear hid hbd ebd hbl hsz hk0 hk1 hbl'
      have hlen := hGj.len
      cases hab : addB id bd.size Fj
      · have HAB2 := Lib.hid hab
        clear hab
        go_wp2_with (go_at_call 51; go_must (refine (fits1_any id hK.out.1.1 hK.out.1.2 bd hK.out.2 (by omega) _ hNj hXj).mono ?_); rintro e w3 ⟨⟨rfl, ht3⟩, hn3⟩; rw [HAB2.out])
        go_ret
        exact ⟨_, rfl, ht3.ext hEj (by simpa using hm), by rw [HFj.out, HT.out, HAB2.out]; exact decide_eq_true (by omega)⟩
      · have HAB2 := Lib.hid hab
        have hGn := hGj.put (b := bd.data.toList) hab
        clear hab
        go_wp2_with (go_at_call 51; go_must (refine (fits1_any id hK.out.1.1 hK.out.1.2 bd hK.out.2 (by omega) _ hNj hXj).mono ?_); rintro e w3 ⟨⟨rfl, ht3⟩, hn3⟩; rw [HAB2.out] at hn3 ⊢; simp only [if_true] at hn3)
        go_roundw
        case rel => exact ⟨j + 1, _, by omega, by go_num, hn3, ht3.box hXj (by simpa using hxm), hGn, Lib.hid (by rw [HFj.out, HT.out, HAB2.out]; rfl), ht3.ext hEj (by simpa using hm)⟩
        case measure => simp [intOf]; omega
    · obtain rfl : j = an := by omega
      go_wp2_with fail
      go_ret
      exact ⟨_, rfl, hEj, by rw [HFj.out, HAN.out, List.drop_length]; rfl⟩

set_option maxHeartbeats 1000000 in
theorem containsN_any (va : Value) (A : Fl) (w0 w : World) (hE : Ext w0 w) (hm : w0.heap.size ≤ m) (hA : NotesIn w0 va A) (hAb : ∀ q ∈ A, (-9223372036854775808 ≤ q.1 ∧ q.1 ≤ 9223372036854775807) ∧ q.2.length ≤ maxLen) (hG : Good F) (h : NoteAt w p m F) (hx : BoxAt w x #[.pointer (some ⟨p, 0, none⟩)] 23) (hxm : x ≠ m) :
    Calls Try.prog 50 #[va, .func (.func 51) #[] #[.pointer (some ⟨x, 0, none⟩)]] w fun e w' => e = .returned (.bool (!fadds F A)) ∧ Ext w0 w' := by
  obtain ⟨aa, ca, rfl, hca, hcma, hga⟩ := hA.get
  clear hga
  go_enter Try.func50, Try.ntmps50
  go_wp2_with fail
  refine (indexN_any _ A w0 w hE hm hA hAb hG h hx hxm).mono ?_
  rintro e w1 ⟨i, rfl, hE1, hi⟩
  cases hb : fadds F A
  all_goals
    rw [hb] at hi
    have HB := Lib.hid hb
    clear hb
    go_wp2
    go_ret
    exact ⟨by rw [HB.out]; rfl, hE1⟩

set_option maxRecDepth 100000 in
set_option maxHeartbeats 4000000 in
theorem nt_fits (va : Value) (A : Fl) (vd : Value) (D : List Int) (w : World) (h : NoteAt w p m F) (hG : Good F) (hA : NotesIn w va A) (hAb : ∀ q ∈ A, (-9223372036854775808 ≤ q.1 ∧ q.1 ≤ 9223372036854775807) ∧ q.2.length ≤ maxLen) (hD : IntsIn w vd .i64 D) (hDb : ∀ n ∈ D, -9223372036854775808 ≤ n ∧ n ≤ 9223372036854775807) :
    Calls Try.prog 16 #[.pointer (some ⟨p, 0, none⟩), va, vd] w fun e w' => e = .returned (.bool (fitsB F A D)) ∧ Ext w w' := by
  have c0 := h.c0
  obtain ⟨aa, ca, rfl, hca, hcma, hga⟩ := hA.get
  obtain ⟨ad, cd, rfl, hcd, hcmd, _, hgd⟩ := hD
  unfold maxLen at hcmd
  have HD := Lib.hid hgd
  clear hga hgd
  obtain ⟨dn, hdn⟩ : ∃ dn, dn = D.length := ⟨_, rfl⟩
  rw [← hdn] at hcd ⊢
  have HDN := Lib.hid hdn
  have HDB := Lib.hid hDb
  have HAB := Lib.hid hAb
  have HG := Lib.hid hG
  clear hdn hDb hAb hG
  go_enter Try.func16, Try.ntmps16
  go_wp2_with (go_at_call 49; go_must (refine (nk_clone w h.files).mono ?_); rintro e w1 ⟨⟨rfl, hE1⟩, hf1, hs1⟩)
  obtain ⟨hb1, hb2, hE2⟩ := boxes2 w1 #[.map (some w.heap.size)] #[.pointer (some ⟨w.heap.size + 1, 0, none⟩)] 101 23
  rw [hs1] at hb1 hb2
  have hN0 : NoteAt ((w1.alloc (.cells #[.map (some w.heap.size)] 101)).alloc (.cells #[.pointer (some ⟨w.heap.size + 1, 0, none⟩)] 23)) (w.heap.size + 1) w.heap.size F := ⟨hb1, hf1.ext hE2, by omega⟩
  have hEn := hE1.trans hE2
  change Code.wp _ _ _ _ ((w1.alloc (.cells #[.map (some w.heap.size)] 101)).alloc (.cells #[.pointer (some ⟨w.heap.size + 1, 0, none⟩)] 23))
  generalize ((w1.alloc (.cells #[.map (some w.heap.size)] 101)).alloc (.cells #[.pointer (some ⟨w.heap.size + 1, 0, none⟩)] 23)) = w2 at hN0 hb2 hEn ⊢
  clear hb1 hE1 hE2 hf1 hs1 c0 h
  obtain ⟨m2, hm2⟩ : ∃ m2, m2 = w.heap.size := ⟨_, rfl⟩
  rw [← hm2] at hN0 hb2 ⊢
  have hmw : w.heap.size ≤ m2 := by omega
  clear hm2
  go_loopw [19] (fun i wr => ∃ k : Nat, k ≤ dn ∧ i = .int .i64 (k : Int) ∧ NoteAt wr (m2 + 1) m2 (fdels F (D.take k)) ∧ BoxAt wr (m2 + 1 + 1) #[.pointer (some ⟨m2 + 1, 0, none⟩)] 23 ∧ Ext w wr) (fun i _ => dn - (intOf i).toNat)
  case atStart => exact ⟨0, Nat.zero_le _, rfl, hN0, hb2, hEn⟩
  case round =>
    obtain ⟨k, hk, rfl, hN, hX, hE⟩ := hrel
    have x0 := hX.cell 0
    simp at x0
    by_cases hlt : k < dn
    · obtain ⟨d, hd⟩ : ∃ d, D[k]? = some d := ⟨_, List.getElem?_eq_getElem (by rw [← HDN.out]; exact hlt)⟩
      obtain ⟨b, o, rfl, hco⟩ := HD.out k (.int .i64 d) (by rw [kcells_get, hd]; rfl)
      replace hco := hE.cell hco
      have HT : Hid (fdels F (D.take (k + 1)) = fdel d (fdels F (D.take k))) := Lib.hid (by rw [← fdels_snoc, List.take_add_one, hd]; rfl)
      have HB := Lib.hid (HDB.out d (List.mem_of_getElem? hd))
      clear hd
      go_wp2_with (go_at_call 10; go_must (refine (nt_drop d HB.out.1 HB.out.2 _ hN).mono ?_); rintro e w3 ⟨⟨rfl, ht3⟩, hn3⟩)
      go_roundw
      case rel => exact ⟨k + 1, by omega, by go_num, by rw [HT.out]; exact hn3, ht3.box hX (by simp; omega), ht3.ext hE (by simpa using hmw)⟩
      case measure => simp [intOf]; omega
    · obtain rfl : k = dn := by omega
      have hGk := HG.out.dels D
      rw [HDN.out, List.take_length] at hN
      go_wp2_with (go_at_call 50; go_must (refine (containsN_any _ A w wr hE hmw hA HAB.out hGk hN hX (by omega)).mono ?_); rintro e w4 ⟨rfl, hE4⟩)
      go_ret
      exact ⟨by unfold fitsB; cases fadds (fdels F D) A <;> rfl, hE4⟩
end
end Go.Proofs.Ytmjhdfifbjdgpaa

/- Contracts of the library, laid at this program: each is one application of a theorem of the shelf (the text is the tool's, its numbers by name). -/
namespace Go.Proofs
open Go.Shelf
def Try.keysA_ren : Go.Shelf.Ren := ⟨fun | 7 => 47 | 10 => 90 | n => n, fun | 23 => 99 | 26 => 3 | 3 => 9 | 28 => 104 | 0 => 0 | 27 => 103 | 33 => 27 | 4 => 4 | n => n, fun | n => n⟩
theorem Try.keysA : Go.Proofs.SlLaysZI.n7 Try.prog Try.keysA_ren := {
  mixed := by kernel_rfl
  f7 := ⟨Try.f47.name, by decide, Try.func47.trans (congrArg some (by kernel_rfl))⟩
  f10 := ⟨Try.f90.name, by decide, Try.func90.trans (congrArg some (by kernel_rfl))⟩
  t0 := Try.underlying0
  a0 := Try.isAgg0
  z0 := Try.sizeOf0
  v0 := Try.zeroValue0
  t4 := Try.underlying4
  a4 := Try.isAgg4
  z4 := Try.sizeOf4
  v4 := Try.zeroValue4
  t23 := Try.underlying99
  a23 := Try.isAgg99
  z23 := Try.sizeOf99
  v23 := Try.zeroValue99
  t26 := Try.underlying3
  a26 := Try.isAgg3
  z26 := Try.sizeOf3
  v26 := Try.zeroValue3
  t27 := Try.underlying103
  a27 := Try.isAgg103
  z27 := Try.sizeOf103
  v27 := Try.zeroValue103
  t28 := Try.underlying104
  a28 := Try.isAgg104
  z28 := Try.sizeOf104
  v28 := Try.zeroValue104
  t33 := Try.underlying27
  a33 := Try.isAgg27
  z33 := Try.sizeOf27
  v33 := Try.zeroValue27 }
def Try.sortedA_ren : Go.Shelf.Ren := ⟨fun | 6 => 46 | 8 => 88 | 9 => 89 | 11 => 104 | 13 => 106 | 12 => 105 | 23 => 124 | 24 => 125 | 14 => 115 | 15 => 116 | 16 => 117 | 17 => 118 | 18 => 119 | 19 => 120 | 20 => 121 | 21 => 122 | 22 => 123 | 25 => 130 | 26 => 131 | 27 => 132 | 28 => 133 | 29 => 134 | 30 => 135 | 31 => 138 | n => n, fun | 26 => 3 | 28 => 104 | 24 => 22 | 0 => 0 | 3 => 3 | 37 => 155 | 48 => 176 | 50 => 178 | 4 => 4 | 40 => 169 | 39 => 168 | 45 => 106 | 5 => 5 | 9 => 9 | 51 => 184 | 55 => 188 | 57 => 192 | 58 => 193 | 33 => 27 | n => n, fun | n => n⟩
theorem Try.sortedA : Go.Proofs.SlLaysZI.n6 Try.prog Try.sortedA_ren := {
  mixed := by kernel_rfl
  f6 := ⟨Try.f46.name, by decide, Try.func46.trans (congrArg some (by kernel_rfl))⟩
  f8 := ⟨Try.f88.name, by decide, Try.func88.trans (congrArg some (by kernel_rfl))⟩
  f11 := ⟨Try.f104.name, by decide, Try.func104.trans (congrArg some (by kernel_rfl))⟩
  t0 := Try.underlying0
  a0 := Try.isAgg0
  z0 := Try.sizeOf0
  v0 := Try.zeroValue0
  t24 := Try.underlying22
  a24 := Try.isAgg22
  z24 := Try.sizeOf22
  v24 := Try.zeroValue22
  t26 := Try.underlying3
  a26 := Try.isAgg3
  z26 := Try.sizeOf3
  v26 := Try.zeroValue3
  t28 := Try.underlying104
  a28 := Try.isAgg104
  z28 := Try.sizeOf104
  v28 := Try.zeroValue104
  i26 := by kernel_rfl }
def Try.sortA_ren : Go.Shelf.Ren := ⟨fun | 5 => 89 | 8 => 106 | 7 => 105 | 19 => 124 | 20 => 125 | 10 => 115 | 11 => 116 | 12 => 117 | 13 => 118 | 14 => 119 | 15 => 120 | 16 => 121 | 17 => 122 | 18 => 123 | 30 => 130 | 31 => 131 | 32 => 132 | 33 => 133 | 34 => 134 | 35 => 135 | 40 => 138 | n => n, fun | 23 => 22 | 25 => 3 | 3 => 3 | 32 => 155 | 22 => 22 | 0 => 0 | 44 => 176 | 46 => 178 | 4 => 4 | 36 => 169 | 35 => 168 | 41 => 106 | 5 => 5 | 9 => 9 | 53 => 184 | 57 => 188 | 63 => 192 | 64 => 193 | n => n, fun | n => n⟩
theorem Try.sortA : Go.Proofs.SlLaysM.n5 Try.prog Try.sortA_ren := {
  mixed := by kernel_rfl
  f5 := ⟨Try.f89.name, by decide, Try.func89.trans (congrArg some (by kernel_rfl))⟩
  f7 := ⟨Try.f105.name, by decide, Try.func105.trans (congrArg some (by kernel_rfl))⟩
  f8 := Try.func106.trans (congrArg some (by kernel_rfl))
  f10 := ⟨Try.f115.name, by decide, Try.func115.trans (congrArg some (by kernel_rfl))⟩
  f11 := ⟨Try.f116.name, by decide, Try.func116.trans (congrArg some (by kernel_rfl))⟩
  f12 := ⟨Try.f117.name, by decide, Try.func117.trans (congrArg some (by kernel_rfl))⟩
  f13 := ⟨Try.f118.name, by decide, Try.func118.trans (congrArg some (by kernel_rfl))⟩
  f14 := ⟨Try.f119.name, by decide, Try.func119.trans (congrArg some (by kernel_rfl))⟩
  f15 := ⟨Try.f120.name, by decide, Try.func120.trans (congrArg some (by kernel_rfl))⟩
  f16 := ⟨Try.f121.name, by decide, Try.func121.trans (congrArg some (by kernel_rfl))⟩
  f17 := ⟨Try.f122.name, by decide, Try.func122.trans (congrArg some (by kernel_rfl))⟩
  f18 := ⟨Try.f123.name, by decide, Try.func123.trans (congrArg some (by kernel_rfl))⟩
  f19 := Try.func124.trans (congrArg some (by kernel_rfl))
  f20 := Try.func125.trans (congrArg some (by kernel_rfl))
  f30 := ⟨Try.f130.name, by decide, Try.func130.trans (congrArg some (by kernel_rfl))⟩
  f31 := Try.func131.trans (congrArg some (by kernel_rfl))
  f32 := Try.func132.trans (congrArg some (by kernel_rfl))
  f33 := ⟨Try.f133.name, by decide, Try.func133.trans (congrArg some (by kernel_rfl))⟩
  f34 := ⟨Try.f134.name, by decide, Try.func134.trans (congrArg some (by kernel_rfl))⟩
  f35 := ⟨Try.f135.name, by decide, Try.func135.trans (congrArg some (by kernel_rfl))⟩
  f40 := ⟨Try.f138.name, by decide, Try.func138.trans (congrArg some (by kernel_rfl))⟩
  t0 := Try.underlying0
  a0 := Try.isAgg0
  z0 := Try.sizeOf0
  v0 := Try.zeroValue0
  t3 := Try.underlying3
  a3 := Try.isAgg3
  z3 := Try.sizeOf3
  v3 := Try.zeroValue3
  t4 := Try.underlying4
  a4 := Try.isAgg4
  z4 := Try.sizeOf4
  v4 := Try.zeroValue4
  t5 := Try.underlying5
  a5 := Try.isAgg5
  z5 := Try.sizeOf5
  v5 := Try.zeroValue5
  t9 := Try.underlying9
  a9 := Try.isAgg9
  z9 := Try.sizeOf9
  v9 := Try.zeroValue9
  t22 := Try.underlying22
  a22 := Try.isAgg22
  z22 := Try.sizeOf22
  v22 := Try.zeroValue22
  t23 := Try.underlying22
  a23 := Try.isAgg22
  z23 := Try.sizeOf22
  v23 := Try.zeroValue22
  t25 := Try.underlying3
  a25 := Try.isAgg3
  z25 := Try.sizeOf3
  v25 := Try.zeroValue3
  t32 := Try.underlying155
  a32 := Try.isAgg155
  z32 := Try.sizeOf155
  v32 := Try.zeroValue155
  t35 := Try.underlying168
  a35 := Try.isAgg168
  z35 := Try.sizeOf168
  v35 := Try.zeroValue168
  t36 := Try.underlying169
  a36 := Try.isAgg169
  z36 := Try.sizeOf169
  v36 := Try.zeroValue169
  t41 := Try.underlying106
  a41 := Try.isAgg106
  z41 := Try.sizeOf106
  v41 := Try.zeroValue106
  t44 := Try.underlying176
  a44 := Try.isAgg176
  z44 := Try.sizeOf176
  v44 := Try.zeroValue176
  t46 := Try.underlying178
  a46 := Try.isAgg178
  z46 := Try.sizeOf178
  v46 := Try.zeroValue178
  t53 := Try.underlying184
  a53 := Try.isAgg184
  z53 := Try.sizeOf184
  v53 := Try.zeroValue184
  t57 := Try.underlying188
  a57 := Try.isAgg188
  z57 := Try.sizeOf188
  v57 := Try.zeroValue188
  t63 := Try.underlying192
  a63 := Try.isAgg192
  z63 := Try.sizeOf192
  v63 := Try.zeroValue192
  t64 := Try.underlying193
  a64 := Try.isAgg193
  z64 := Try.sizeOf193
  v64 := Try.zeroValue193 }
end Go.Proofs
