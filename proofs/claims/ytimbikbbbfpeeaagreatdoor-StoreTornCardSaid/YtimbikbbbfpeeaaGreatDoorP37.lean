/- A region that draws its order, taken gate by gate: stretches whose operations let memory grow, single operations by whatever law. -/
import Derived.Test.YtimbikbbbfpeeaaGreatDoorP17
import Derived.Shelf.SlMaps.Clone
import Derived.Ground.SlmcProg
import Derived.Test.YtimbikbbbfpeeaaGreatDoorP2
import Derived.Test.YtimbikbbbfpeeaaGreatDoorP32
import Derived.Test.YtimbikbbbfpeeaaGreatDoorP9
set_option linter.unusedSimpArgs false
set_option linter.unusedVariables false
namespace Go.Proofs.YtimbikbbbfpeeaaGreatDoor
open Go

def PreL (ops : Array Oper) (n : Nat) (listed : Array Bool) : Prop := Down ops listed ∧ listed.size = ops.size ∧ Region.lexFrom .any ops (ops.size - n) n listed = true
/-- What is to be shown where the first n operations are done. -/
structure GoAny (P : Program) (l : List Oper) (Q : Exit → Act → World → Prop) (n : Nat) (a : Act) (w : World) : Prop where
  go : ∀ listed, PreL l.toArray n listed → wpAny P .any l.toArray Q (l.length - n) listed a w
def GoQ (P : Program) (l : List Oper) (n : Nat) (Q : Exit → Act → World → Prop) : Exit → Act → World → Prop
  | .normal, a, w => GoAny P l Q n a w
  | c, a, w => Q c a w
section
variable {P : Program} {l : List Oper} {Q : Exit → Act → World → Prop} {n : Nat} {a : Act} {w : World}
theorem wp_GoQ {o : Oper} {K K' : Act → World → Prop} (hK : ∀ a w, K a w → K' a w) (h2 : o.wp P a w K (GoQ P l n Q)) : o.wp P a w K' Q := by
  unfold Oper.wp at h2 ⊢
  generalize (execOp a.eval o).run P w = r at *
  cases r with
  | ok n w' =>
    cases n <;> simp only [Oper.upon] at h2 ⊢
    case value v => exact hK _ _ h2
    case skip => exact hK _ _ h2
    case defer d => exact hK _ _ h2
    case enter f args =>
      refine h2.mono fun e w'' h3 => ?_
      cases e with
      | returned v => exact hK _ _ h3
      | panicked c => exact h3
      | outgrown => exact h3
    case row f args => exact h2.mono fun v w'' h3 => hK _ _ h3
    all_goals exact h2
  | halt hh w' =>
    cases hh <;> simp only [Oper.upon] at h2 ⊢ <;> exact h2
theorem goAny_one {o : Oper} (ho : l[n]? = some o) (hg : gateB l.toArray n = true) (hg2 : gateB l.toArray (n + 1) = true) (h : wpList P l.toArray (GoQ P l (n + 1) Q) [o] a w) : GoAny P l Q n a w := by
  refine ⟨fun listed ⟨hd, hsz, hlex⟩ => ?_⟩
  have hlt : n < l.length := (List.getElem?_eq_some_iff.1 ho).1
  have e : l.length - n = (l.length - (n + 1)) + 1 := by omega
  have e2 : l.toArray.size - n = (l.toArray.size - (n + 1)) + 1 := by simp; omega
  have ho' : l.toArray[n]? = some o := by simpa using ho
  rw [e2] at hlex
  simp only [Region.lexFrom, Bool.and_eq_true] at hlex
  obtain ⟨⟨hr, hf⟩, hB'⟩ := hlex
  have hr' : n ∈ Region.ready .any l.toArray listed := by simpa using hr
  rw [e]
  refine ⟨fun h0 => (by rw [h0] at hr'; cases hr'), fun i hi => ?_⟩
  have hin : i = n := by
    rcases Nat.lt_trichotomy i n with h1 | h1 | h1
    · exact absurd hi (listed_not_ready (gate_all hd hg (Nat.le_refl _) hr' i h1))
    · exact h1
    · exact absurd hr' (listed_not_ready (gate_all hd hg2 (by omega) hi n (by omega)))
  subst hin
  have step : ∀ a w, GoAny P l Q (i + 1) a w → wpAny P .any l.toArray Q (l.length - (i + 1)) (listed.setIfInBounds i true) a w := fun a w h => h.go _ ⟨hd.set hi, by simpa using hsz, hB'⟩
  unfold wpOp
  simp only [ho']
  unfold wpList at h
  split at h
  · rename_i hw
    rw [if_pos hw]
    refine h.imp (wp_GoQ fun a w h => ?_) (fun h => h)
    exact step a w h
  · rename_i hw
    rw [if_neg hw]
    exact step _ _ h
theorem goAny_gate (n2 : Nat) (L : Tab) (hn : n ≤ n2) (hn2 : n2 ≤ l.length) (hg : gateB l.toArray n = true) (hg2 : gateB l.toArray n2 = true) (hs : Region.noSelect l.toArray = true) (hT : TabOK L)
    (h : wpRel P l.toArray (Ext w) Ext L.at l.length (fun _ a' w' => GoAny P l Q n2 a' w') ((l.take n2).drop n) n a Facts.top) : GoAny P l Q n a w := by
  refine ⟨fun listed ⟨hd, hsz, hlex⟩ => ?_⟩
  by_cases hnn : n = n2
  · subst hnn
    have e : (l.take n).drop n = [] := by simp
    rw [e] at h
    exact (h w (Ext.refl w) (fun _ => trivial)).go listed ⟨hd, hsz, hlex⟩
  have hG : ∀ (j : Nat) (w w' : World), Ext w w' → Facts.top j w → Facts.top j w' := fun _ _ _ _ h => h
  have hlen : ((l.take n2).drop n).length = n2 - n := by simp; omega
  have hsum : n2 - n + (l.length - n2) = l.length - n := by omega
  have e2 : l.toArray.size = l.length := by simp
  have hup : ∀ j, j < n → listed.getD j false = true := by
    have e3 : l.toArray.size - n = (l.toArray.size - (n + 1)) + 1 := by simp; omega
    have hl2 := hlex
    rw [e3] at hl2
    simp only [Region.lexFrom, Bool.and_eq_true] at hl2
    exact gate_all hd hg (Nat.le_refl _) (by simpa using hl2.1.1)
  have hS := wpAnyG_lex (P := P) (C := Ext w) (Q1 := fun _ a' w' => GoAny P l Q n2 a' w') (N := l.length) (Tab.stays hT) hg2 hs hn2 (by simpa using hn2) (l.length - n2) ((l.take n2).drop n) n listed a Facts.top (by rw [hlen]; omega) hd hup hsz hG ⟨_, Ext.refl w, fun _ => trivial⟩
    (fun j hj => by
      rw [hlen] at hj
      simp only [List.getElem?_drop, List.getElem?_take, List.getElem?_toArray]
      rw [if_pos (by omega)]) (by rw [hlen, hsum]; simpa using hlex) h
  rw [hlen] at hS
  have := wpAny_of_G (P := P) (Q := Q) (Tab.stays hT) (l.length - n2) (fun listed a w hd hsz hB2 hGa => hGa.go listed ⟨hd, hsz, by simpa using hB2⟩) (n2 - n) listed a Facts.top w hd hsz hG (Ext.refl w) (fun _ => trivial) hS
  rw [hsum] at this
  exact this
theorem goAny_end (h : Q .normal a w) (hn : n = l.length) : GoAny P l Q n a w := by
  subst hn
  refine ⟨fun listed ⟨hd, hsz, hlex⟩ => ?_⟩
  have e : l.toArray.size - l.length = 0 := by simp
  rw [e] at hlex
  rw [Nat.sub_self]
  exact ⟨by simpa [Region.lexFrom] using hlex, h⟩
theorem goAny_relE (C : World → Prop) (E : Nat → World → World → Prop) (T : Nat → Option (List Value → Value → World → Prop)) (n2 : Nat) (hT : ∀ i Φ, T i = some Φ → ∀ A k v w w', k ≠ i → E k w w' → Φ A v w → Φ A v w') (hn2 : tailB l.toArray n2 = true) (hs : Region.noSelect l.toArray = true) (hC : C w)
    (h : wpRelE P l.toArray C E T n2 Q (l.drop n) n a Facts.top) : GoAny P l Q n a w := by
  refine ⟨fun listed ⟨hd, hsz, hlex⟩ => ?_⟩
  have hF : ∀ j, Fresh Facts.top j := fun _ _ => trivial
  have hl2 : (l.drop n).length = l.length - n := by simp
  have hx := wpAnyR_lexE (C := C) hT hn2 hs (l.drop n) n listed a Facts.top hd (fun _ _ _ _ _ _ h => h) (fun j _ => hF j) ⟨w, hC, fun _ => trivial⟩ (fun j => by simp) (by rw [hl2]; simpa using hlex) h
  rw [hl2] at hx
  exact wpAny_of_RE hT hn2 _ listed a Facts.top w hd hsz (fun _ _ _ _ _ _ h => h) (fun j _ => hF j) hC (fun _ => trivial) hx
theorem wp_region_go {id : Nat} (hm : P.follows .mixedOrders = true) (hB : Region.lexB .any l.toArray = true) (h : GoAny P l Q 0 a w.drew) : (Code.region id l.toArray true).wp P Q a w := by
  simp only [Region.lexB, Bool.and_eq_true] at hB
  have hd : Down l.toArray (Array.replicate l.toArray.size false) := by
    intro k o _ hk
    simp only [Array.getD, Array.size_replicate] at hk
    split at hk
    · simp at hk
    · cases hk
  refine wp_region_any hm ?_
  have := h.go (Array.replicate l.toArray.size false) ⟨hd, by simp, by simpa using hB.2⟩
  simpa using this
end
end Go.Proofs.YtimbikbbbfpeeaaGreatDoor

/- maps.Clone at bodies by numbers: the library's contract laid at this program. -/
namespace Go.Proofs
open Go.Shelf
def Tryz.cloneA_ren : Go.Shelf.Ren := ⟨fun | 5 => 131 | 7 => 178 | n => n, fun | 0 => 0 | 3 => 9 | 4 => 4 | 20 => 20 | 23 => 70 | 25 => 3 | n => n, fun | n => n⟩
theorem Tryz.cloneA : Go.Proofs.SlLaysW.n5 Tryz.prog Tryz.cloneA_ren := {
  mixed := by kernel_rfl
  f5 := ⟨Tryz.f131.name, by decide, Tryz.func131.trans (congrArg some (by kernel_rfl))⟩
  f7 := Tryz.func178.trans (congrArg some (by kernel_rfl))
  t4 := Tryz.underlying4
  a4 := Tryz.isAgg4
  z4 := Tryz.sizeOf4
  v4 := Tryz.zeroValue4
  t20 := Tryz.underlying20
  a20 := Tryz.isAgg20
  z20 := Tryz.sizeOf20
  v20 := Tryz.zeroValue20
  t23 := Tryz.underlying70
  a23 := Tryz.isAgg70
  z23 := Tryz.sizeOf70
  v23 := Tryz.zeroValue70 }
end Go.Proofs
namespace Go.Proofs.YtimbikbbbfpeeaaGreatDoor
open Go Go.RowKit Go.Maps Go.Shelf

theorem nk_clone {F : Fl} {m : Nat} (w : World) (h : FilesAt w m F) :
    Calls Tryz.prog 131 #[.map (some m)] w fun e w' => (e = .returned (.map (some w.heap.size)) ∧ Ext w w') ∧ FilesAt w' w.heap.size F ∧ w'.heap.size = w.heap.size + 1 := by
  obtain ⟨⟨es, clock, hb, Ft, hs, hD⟩, hr⟩ := h
  refine (AnyW.maps_Clone (ρ := Tryz.cloneA_ren) Tryz.cloneA m es clock w hb).mono ?_
  rintro e w' ⟨rfl, rfl⟩
  exact ⟨⟨rfl, (Ext.refl w).alloc _⟩, ⟨⟨es, clock, heap_alloc_new w _, Ft, hs, hD⟩, hr⟩, by simp⟩
end Go.Proofs.YtimbikbbbfpeeaaGreatDoor

/- Package note: Fits. -/
namespace Go.Proofs.YtimbikbbbfpeeaaGreatDoor
open Go Go.RowKit
attribute [local go_sem] yields yUpon

theorem ba_len' (b : ByteArray) : b.data.toList.length = b.size := by rw [Array.length_toList]; rfl
theorem str_data' (l : List UInt8) : (str l).data.toList = l := by simp [str]

section
variable {x p m : Nat} {F : Fl}
set_option maxRecDepth 100000 in
set_option maxHeartbeats 1000000 in
theorem fits1_any (id : Int) (h0 : -9223372036854775808 ≤ id) (h1 : id ≤ 9223372036854775807) (b : ByteArray) (hb : b.size ≤ maxLen) (hF : F.length ≤ 1000000) (w : World) (h : NoteAt w p m F) (hx : BoxAt w x #[.pointer (some ⟨p, 0, none⟩)] 74) :
    Calls Tryz.prog 133 #[.agg #[.int .i64 id, .string b], .pointer (some ⟨x, 0, none⟩)] w fun e w' => (e = .returned (.bool (!addB id b.size F)) ∧ Touch w w' [m]) ∧ NoteAt w' p m (if addB id b.size F then fput id b.data.toList F else F) := by
  have hE0 := (Ext.refl w).alloc (.cells #[.int .i64 id, .string b] 32)
  have hbx := BoxAt.made w #[.int .i64 id, .string b] 32
  have h2 := h.ext hE0
  have hx2 := hx.ext hE0
  have b0 := hbx.cell 0
  have b1 := hbx.cell 1
  simp at b0 b1
  have x0 := hx2.cell 0
  simp at x0
  obtain ⟨A, hA⟩ : ∃ A, A = addB id b.size F := ⟨_, rfl⟩
  have HA := Lib.hid hA
  rw [← hA]
  clear hA
  cases A
  all_goals
    go_enter Tryz.func133, Tryz.ntmps133
    go_wp2_with (go_at_call 61; go_must (refine (nt_add id h0 h1 b hb hF _ h2).mono ?_); rintro e w3 ⟨⟨rfl, ht3⟩, hn3⟩; rw [← HA.out] at hn3 ⊢)
    go_ret
    exact ⟨⟨rfl, ((Touch.of_ext hE0 [m]).trans ht3).mono (by simp)⟩, hn3⟩

set_option maxRecDepth 100000 in
set_option maxHeartbeats 4000000 in
theorem indexN_any (va : Value) (A : Fl) (w0 w : World) (hE : Ext w0 w) (hm : w0.heap.size ≤ m) (hA : NotesIn w0 va A) (hAb : ∀ q ∈ A, (-9223372036854775808 ≤ q.1 ∧ q.1 ≤ 9223372036854775807) ∧ q.2.length ≤ maxLen) (hG : Good F) (h : NoteAt w p m F) (hx : BoxAt w x #[.pointer (some ⟨p, 0, none⟩)] 74) (hxm : x ≠ m) :
    Calls Tryz.prog 180 #[va, .func (.func 133) #[] #[.pointer (some ⟨x, 0, none⟩)]] w fun e w' => ∃ i : Int, e = .returned (.int .i64 i) ∧ Ext w0 w' ∧ decide (0 ≤ i) = !fadds F A := by
  obtain ⟨aa, ca, rfl, hca, hcma, hga⟩ := hA.get
  have HA := Lib.hid hga
  clear hga hA
  obtain ⟨an, han⟩ : ∃ an, an = A.length := ⟨_, rfl⟩
  rw [← han] at hca ⊢
  have HAN := Lib.hid han
  have HAB := Lib.hid hAb
  clear han hAb
  go_enter Tryz.func180, Tryz.ntmps180
  go_wp2
  go_loopw [8] (fun i wr => ∃ (j : Nat) (Fj : Fl), j ≤ an ∧ i = .int .i64 (j : Int) ∧ NoteAt wr p m Fj ∧ BoxAt wr x #[.pointer (some ⟨p, 0, none⟩)] 74 ∧ Good Fj ∧ Hid (fadds F A = fadds Fj (A.drop j)) ∧ Ext w0 wr) (fun i _ => an - (intOf i).toNat)
  case atStart => exact ⟨0, F, Nat.zero_le _, rfl, h, hx, hG, rfl, hE⟩
  case round =>
    obtain ⟨j, Fj, hj, rfl, hNj, hXj, hGj, HFj, hEj⟩ := hrel
    by_cases hlj : j < an
    · have hja : j < A.length := by rw [← HAN.out]; exact hlj
      obtain ⟨b, o, rfl, hx0, hx1⟩ := HA.out j hja
      replace hx0 := hEj.cell hx0
      replace hx1 := hEj.cell hx1
      obtain ⟨⟨hk0, hk1⟩, hbl⟩ := HAB.out _ (List.getElem_mem hja)
      have HT : Hid (fadds Fj (A.drop j) = (addB (A[j]).1 (A[j]).2.length Fj && fadds (fput (A[j]).1 (A[j]).2 Fj) (A.drop (j + 1)))) := Lib.hid (by rw [List.drop_eq_getElem_cons hja]; rfl)
      obtain ⟨id, hid⟩ : ∃ id, id = (A[j]).1 := ⟨_, rfl⟩
      obtain ⟨bd, hbd⟩ : ∃ bd, bd = str (A[j]).2 := ⟨_, rfl⟩
      have ebd : (A[j]).2 = bd.data.toList := by rw [hbd, str_data']
      rw [← hid] at hx0 HT hk0 hk1
      rw [← hbd] at hx1
      rw [ebd] at HT hbl
      have hsz : bd.data.toList.length = bd.size := ba_len' bd
      have hbl' : bd.size ≤ maxLen := by rw [← hsz]; exact hbl
      rw [hsz] at HT
      have hK : Hid ((-9223372036854775808 ≤ id ∧ id ≤ 9223372036854775807) ∧ bd.size ≤ maxLen) := Lib.hid ⟨⟨hk0, hk1⟩, hbl'⟩
      clear hid hbd ebd hbl hsz hk0 hk1 hbl'
      have hlen := hGj.len
      cases hab : addB id bd.size Fj
      · have HAB2 := Lib.hid hab
        clear hab
        go_wp2_with (go_at_call 133; go_must (refine (fits1_any id hK.out.1.1 hK.out.1.2 bd hK.out.2 (by omega) _ hNj hXj).mono ?_); rintro e w3 ⟨⟨rfl, ht3⟩, hn3⟩; rw [HAB2.out])
        go_ret
        exact ⟨_, rfl, ht3.ext hEj (by simpa using hm), by rw [HFj.out, HT.out, HAB2.out]; exact decide_eq_true (by omega)⟩
      · have HAB2 := Lib.hid hab
        have hGn := hGj.put (b := bd.data.toList) hab
        clear hab
        go_wp2_with (go_at_call 133; go_must (refine (fits1_any id hK.out.1.1 hK.out.1.2 bd hK.out.2 (by omega) _ hNj hXj).mono ?_); rintro e w3 ⟨⟨rfl, ht3⟩, hn3⟩; rw [HAB2.out] at hn3 ⊢; simp only [if_true] at hn3)
        go_roundw
        case rel => exact ⟨j + 1, _, by omega, by go_num, hn3, ht3.box hXj (by simpa using hxm), hGn, Lib.hid (by rw [HFj.out, HT.out, HAB2.out]; rfl), ht3.ext hEj (by simpa using hm)⟩
        case measure => simp [intOf]; omega
    · obtain rfl : j = an := by omega
      go_wp2_with fail
      go_ret
      exact ⟨_, rfl, hEj, by rw [HFj.out, HAN.out, List.drop_length]; rfl⟩

set_option maxHeartbeats 1000000 in
theorem containsN_any (va : Value) (A : Fl) (w0 w : World) (hE : Ext w0 w) (hm : w0.heap.size ≤ m) (hA : NotesIn w0 va A) (hAb : ∀ q ∈ A, (-9223372036854775808 ≤ q.1 ∧ q.1 ≤ 9223372036854775807) ∧ q.2.length ≤ maxLen) (hG : Good F) (h : NoteAt w p m F) (hx : BoxAt w x #[.pointer (some ⟨p, 0, none⟩)] 74) (hxm : x ≠ m) :
    Calls Tryz.prog 132 #[va, .func (.func 133) #[] #[.pointer (some ⟨x, 0, none⟩)]] w fun e w' => e = .returned (.bool (!fadds F A)) ∧ Ext w0 w' := by
  obtain ⟨aa, ca, rfl, hca, hcma, hga⟩ := hA.get
  clear hga
  go_enter Tryz.func132, Tryz.ntmps132
  go_wp2_with fail
  refine (indexN_any _ A w0 w hE hm hA hAb hG h hx hxm).mono ?_
  rintro e w1 ⟨i, rfl, hE1, hi⟩
  cases hb : fadds F A
  all_goals
    rw [hb] at hi
    have HB := Lib.hid hb
    clear hb
    go_wp2
    go_ret
    exact ⟨by rw [HB.out]; rfl, hE1⟩

set_option maxRecDepth 100000 in
set_option maxHeartbeats 4000000 in
theorem nt_fits (va : Value) (A : Fl) (vd : Value) (D : List Int) (w : World) (h : NoteAt w p m F) (hG : Good F) (hA : NotesIn w va A) (hAb : ∀ q ∈ A, (-9223372036854775808 ≤ q.1 ∧ q.1 ≤ 9223372036854775807) ∧ q.2.length ≤ maxLen) (hD : IntsIn w vd .i64 D) (hDb : ∀ n ∈ D, -9223372036854775808 ≤ n ∧ n ≤ 9223372036854775807) :
    Calls Tryz.prog 79 #[.pointer (some ⟨p, 0, none⟩), va, vd] w fun e w' => e = .returned (.bool (fitsB F A D)) ∧ Ext w w' := by
  have c0 := h.c0
  obtain ⟨aa, ca, rfl, hca, hcma, hga⟩ := hA.get
  obtain ⟨ad, cd, rfl, hcd, hcmd, _, hgd⟩ := hD
  unfold maxLen at hcmd
  have HD := Lib.hid hgd
  clear hga hgd
  obtain ⟨dn, hdn⟩ : ∃ dn, dn = D.length := ⟨_, rfl⟩
  rw [← hdn] at hcd ⊢
  have HDN := Lib.hid hdn
  have HDB := Lib.hid hDb
  have HAB := Lib.hid hAb
  have HG := Lib.hid hG
  clear hdn hDb hAb hG
  go_enter Tryz.func79, Tryz.ntmps79
  go_wp2_with (go_at_call 131; go_must (refine (nk_clone w h.files).mono ?_); rintro e w1 ⟨⟨rfl, hE1⟩, hf1, hs1⟩)
  obtain ⟨hb1, hb2, hE2⟩ := boxes2 w1 #[.map (some w.heap.size)] #[.pointer (some ⟨w.heap.size + 1, 0, none⟩)] 116 74
  rw [hs1] at hb1 hb2
  have hN0 : NoteAt ((w1.alloc (.cells #[.map (some w.heap.size)] 116)).alloc (.cells #[.pointer (some ⟨w.heap.size + 1, 0, none⟩)] 74)) (w.heap.size + 1) w.heap.size F := ⟨hb1, hf1.ext hE2, by omega⟩
  have hEn := hE1.trans hE2
  change Code.wp _ _ _ _ ((w1.alloc (.cells #[.map (some w.heap.size)] 116)).alloc (.cells #[.pointer (some ⟨w.heap.size + 1, 0, none⟩)] 74))
  generalize ((w1.alloc (.cells #[.map (some w.heap.size)] 116)).alloc (.cells #[.pointer (some ⟨w.heap.size + 1, 0, none⟩)] 74)) = w2 at hN0 hb2 hEn ⊢
  clear hb1 hE1 hE2 hf1 hs1 c0 h
  obtain ⟨m2, hm2⟩ : ∃ m2, m2 = w.heap.size := ⟨_, rfl⟩
  rw [← hm2] at hN0 hb2 ⊢
  have hmw : w.heap.size ≤ m2 := by omega
  clear hm2
  go_loopw [19] (fun i wr => ∃ k : Nat, k ≤ dn ∧ i = .int .i64 (k : Int) ∧ NoteAt wr (m2 + 1) m2 (fdels F (D.take k)) ∧ BoxAt wr (m2 + 1 + 1) #[.pointer (some ⟨m2 + 1, 0, none⟩)] 74 ∧ Ext w wr) (fun i _ => dn - (intOf i).toNat)
  case atStart => exact ⟨0, Nat.zero_le _, rfl, hN0, hb2, hEn⟩
  case round =>
    obtain ⟨k, hk, rfl, hN, hX, hE⟩ := hrel
    have x0 := hX.cell 0
    simp at x0
    by_cases hlt : k < dn
    · obtain ⟨d, hd⟩ : ∃ d, D[k]? = some d := ⟨_, List.getElem?_eq_getElem (by rw [← HDN.out]; exact hlt)⟩
      obtain ⟨b, o, rfl, hco⟩ := HD.out k (.int .i64 d) (by rw [kcells_get, hd]; rfl)
      replace hco := hE.cell hco
      have HT : Hid (fdels F (D.take (k + 1)) = fdel d (fdels F (D.take k))) := Lib.hid (by rw [← fdels_snoc, List.take_add_one, hd]; rfl)
      have HB := Lib.hid (HDB.out d (List.mem_of_getElem? hd))
      clear hd
      go_wp2_with (go_at_call 80; go_must (refine (nt_drop d HB.out.1 HB.out.2 _ hN).mono ?_); rintro e w3 ⟨⟨rfl, ht3⟩, hn3⟩)
      go_roundw
      case rel => exact ⟨k + 1, by omega, by go_num, by rw [HT.out]; exact hn3, ht3.box hX (by simp; omega), ht3.ext hE (by simpa using hmw)⟩
      case measure => simp [intOf]; omega
    · obtain rfl : k = dn := by omega
      have hGk := HG.out.dels D
      rw [HDN.out, List.take_length] at hN
      go_wp2_with (go_at_call 132; go_must (refine (containsN_any _ A w wr hE hmw hA HAB.out hGk hN hX (by omega)).mono ?_); rintro e w4 ⟨rfl, hE4⟩)
      go_ret
      exact ⟨by unfold fitsB; cases fadds (fdels F D) A <;> rfl, hE4⟩
end
end Go.Proofs.YtimbikbbbfpeeaaGreatDoor
