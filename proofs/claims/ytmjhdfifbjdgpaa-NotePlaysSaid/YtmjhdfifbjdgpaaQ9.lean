/- clerestoryref11: Add, whole; Fits. -/
import Derived.Test.YtmjhdfifbjdgpaaQ8
import Derived.Test.YtmjhdfifbjdgpaaQ3
import Derived.Test.YtmjhdfifbjdgpaaProg
import Derived.Test.YtmjhdfifbjdgpaaQ2
set_option linter.unusedSimpArgs false
set_option linter.unusedVariables false
namespace Go.Proofs.Ytmjhdfifbjdgpaa
open Go Go.RowKit
attribute [local go_sem] yields yUpon

theorem ba_len (b : ByteArray) : b.data.toList.length = b.size := by rw [Array.length_toList]; rfl
theorem str_data (l : List UInt8) : (str l).data.toList = l := by simp [str]
section
variable {g q : Nat} {F : Fl}
theorem r11_add (id : Int) (b : ByteArray) (w : World) (h : RefAt w g q F) (hr : Rises F) (hb : b.size ≤ maxLen) :
    Calls Try.prog 18 #[.pointer (some ⟨q, 0, none⟩), .agg #[.int .i64 id, .string b]] w fun e w' => (e = .returned (.bool (addB id b.size F)) ∧ BK g w w') ∧ RefAt w' g q (if addB id b.size F then fput id b.data.toList F else F) := by
  have hgw : g ≤ w.heap.size := by obtain ⟨v, hb, _⟩ := h.box; have := hb.lt; have := h.le; omega
  cases hA : addB id b.size F
  · refine (r11_add_no id b w h hr hb hA).mono ?_
    rintro e w' ⟨rfl, hE⟩
    exact ⟨⟨rfl, BK.of_ext hE hgw⟩, h.ext hE⟩
  · cases hh : fhas id F
    · exact r11_add_new id b w h hr hb hA hh
    · exact r11_add_has id b w h hr hb hA hh
theorem RefAt.gw {w : World} (h : RefAt w g q F) : g ≤ w.heap.size := by obtain ⟨v, hb, _⟩ := h.box; have := hb.lt; have := h.le; omega

set_option maxRecDepth 100000 in
set_option maxHeartbeats 8000000 in
theorem r11_fits (va : Value) (A : Fl) (vd : Value) (D : List Int) (w : World) (h : RefAt w g q F) (hG : Good F) (hA : NotesIn w va A) (hAb : ∀ p ∈ A, p.2.length ≤ maxLen) (hD : IntsIn w vd .i64 D) :
    Calls Try.prog 17 #[.pointer (some ⟨q, 0, none⟩), va, vd] w fun e w' => e = .returned (.bool (fitsB F A D)) ∧ Ext w w' := by
  have hlen := hG.len
  obtain ⟨v, c0, hin⟩ := h.notes
  obtain ⟨aa, ca, rfl, hca, hcma, hga⟩ := hA.get
  obtain ⟨ad, cd, rfl, hcd, hcmd, _, hgd⟩ := hD
  unfold maxLen at hcmd
  have HA := Lib.hid hga
  have HD := Lib.hid hgd
  clear hga hgd hA
  have hone := ncells_one F
  have hfl := ncells_length F
  go_enter Try.func17, Try.ntmps17
  go_wp2_with (
    ((guard_target =~ wpList _ _ _ (Oper.mk (some 14) _ _ _ _ _ :: _) _ _); go_must (refine wpList_cloneS rfl info_note und_notes rfl (by decide) (.const (.slice none 0 0)) (.tmp 13) rfl (by rfl) hin (by rfl) hfl hone (by unfold maxLen; omega) (by omega) ?_); intro v7 w7 ho7 hE7; obtain ⟨a7, c7, rfl⟩ := own_shape ho7))
  have hR0 : RefAt (w7.alloc (.cells #[.slice a7 F.length c7] 41)) w.heap.size w7.heap.size F :=
    ⟨⟨_, BoxAt.made w7 _ _, ho7.alloc _⟩, hE7.le⟩
  have hE0 : Ext w (w7.alloc (.cells #[.slice a7 F.length c7] 41)) := hE7.alloc _
  obtain ⟨p, hp⟩ : ∃ p, p = w7.heap.size := ⟨_, rfl⟩
  rw [← hp] at hR0 ⊢
  generalize (w7.alloc (.cells #[.slice a7 F.length c7] 41)) = w1 at hR0 hE0 ⊢
  clear hp ho7 hE7 c0 hone hfl hin
  have HG := Lib.hid hG
  clear hG hlen
  obtain ⟨dn, hdn⟩ : ∃ dn, dn = D.length := ⟨_, rfl⟩
  obtain ⟨an, han⟩ : ∃ an, an = A.length := ⟨_, rfl⟩
  rw [← hdn] at hcd ⊢
  rw [← han] at hca ⊢
  have HDN := Lib.hid hdn
  have HAN := Lib.hid han
  have HAB := Lib.hid hAb
  clear hdn han hAb
  go_loopw [8] (fun i wr => ∃ k : Nat, k ≤ dn ∧ i = .int .i64 (k : Int) ∧ RefAt wr w.heap.size p (fdels F (D.take k)) ∧ Ext w wr) (fun i _ => dn - (intOf i).toNat)
  case atStart => exact ⟨0, Nat.zero_le _, rfl, hR0, hE0⟩
  case round =>
    obtain ⟨k, hk, rfl, hR, hE⟩ := hrel
    by_cases hlt : k < dn
    · obtain ⟨x, hx⟩ : ∃ x, D[k]? = some x := ⟨_, List.getElem?_eq_getElem (by rw [← HDN.out]; exact hlt)⟩
      obtain ⟨b, o, rfl, hco⟩ := HD.out k (.int .i64 x) (by rw [kcells_get, hx]; rfl)
      replace hco := hE.cell hco
      have HT : Hid (fdels F (D.take (k + 1)) = fdel x (fdels F (D.take k))) := Lib.hid (by rw [← fdels_snoc, List.take_add_one, hx]; rfl)
      clear hx
      have hGk := HG.out.dels (D.take k)
      go_wp2_with (go_at_call 15; go_must (refine (r11_drop x (by have := hGk.len; omega) _ hR hGk.rises).mono ?_); rintro e w3 ⟨⟨rfl, hB3⟩, hR3⟩)
      go_roundw
      case rel => exact ⟨k + 1, by omega, by go_num, by rw [HT.out]; exact hR3, Below.trans hE hB3.below⟩
      case measure => simp [intOf]; omega
    · obtain rfl : k = dn := by omega
      have hGk := HG.out.dels D
      rw [HDN.out, List.take_length] at hR
      have hF0 : Hid (fitsB F A D = fadds (fdels F D) A) := Lib.hid rfl
      generalize fdels F D = F0 at hR hGk hF0
      clear HG HD HDN hlt
      go_wp2_with fail
      obtain ⟨wo, rfl⟩ : ∃ w', w' = wr := ⟨_, rfl⟩
      go_loopw [9] (fun i wr => ∃ (j : Nat) (Fj : Fl), j ≤ an ∧ i = .int .i64 (j : Int) ∧ RefAt wr w.heap.size p Fj ∧ Good Fj ∧ Hid (fitsB F A D = fadds Fj (A.drop j)) ∧ Ext w wr) (fun i _ => an - (intOf i).toNat)
      case atStart => exact ⟨0, F0, Nat.zero_le _, rfl, hR, hGk, hF0, hE⟩
      case round =>
        obtain ⟨j, Fj, hj, rfl, hRj, hGj, HFj, hEj⟩ := hrel
        by_cases hlj : j < an
        · have hja : j < A.length := by rw [← HAN.out]; exact hlj
          obtain ⟨b, o, rfl, hx0, hx1⟩ := HA.out j hja
          replace hx0 := hEj.cell hx0
          replace hx1 := hEj.cell hx1
          have hbl := HAB.out _ (List.getElem_mem hja)
          have HT : Hid (fadds Fj (A.drop j) = (addB (A[j]).1 (A[j]).2.length Fj && fadds (fput (A[j]).1 (A[j]).2 Fj) (A.drop (j + 1)))) := Lib.hid (by rw [List.drop_eq_getElem_cons hja]; rfl)
          obtain ⟨id, hid⟩ : ∃ id, id = (A[j]).1 := ⟨_, rfl⟩
          obtain ⟨bd, hbd⟩ : ∃ bd, bd = str (A[j]).2 := ⟨_, rfl⟩
          have ebd : (A[j]).2 = bd.data.toList := by rw [hbd, str_data]
          rw [← hid] at hx0 HT
          rw [← hbd] at hx1
          rw [ebd] at HT hbl
          have hsz : bd.data.toList.length = bd.size := ba_len bd
          have hbl' : bd.size ≤ maxLen := by rw [← hsz]; exact hbl
          rw [hsz] at HT
          clear hid hbd ebd hbl hsz
          cases hab : addB id bd.size Fj
          · have HAB2 := Lib.hid hab
            clear hab
            go_wp2_with (go_at_call 18; go_must (refine (r11_add id bd _ hRj hGj.rises hbl').mono ?_); rintro e w3 ⟨⟨rfl, hB3⟩, hR3⟩; rw [HAB2.out])
            go_ret
            exact ⟨by rw [HFj.out, HT.out, HAB2.out]; rfl, Below.trans hEj hB3.below⟩
          · have HAB2 := Lib.hid hab
            have hGn := hGj.put (b := bd.data.toList) hab
            clear hab
            go_wp2_with (go_at_call 18; go_must (refine (r11_add id bd _ hRj hGj.rises hbl').mono ?_); rintro e w3 ⟨⟨rfl, hB3⟩, hR3⟩; rw [HAB2.out] at hR3 ⊢; simp only [if_true] at hR3)
            go_roundw
            case rel => exact ⟨j + 1, _, by omega, by go_num, hR3, hGn, Lib.hid (by rw [HFj.out, HT.out, HAB2.out]; rfl), Below.trans hEj hB3.below⟩
            case measure => simp [intOf]; omega
        · obtain rfl : j = an := by omega
          go_wp2_with fail
          go_ret
          exact ⟨by rw [HFj.out, HAN.out, List.drop_length]; rfl, hEj⟩
end
end Go.Proofs.Ytmjhdfifbjdgpaa

/- Slices and structs that come in, read. -/
namespace Go.Proofs.Ytmjhdfifbjdgpaa
open Go Go.RowKit Go.ChangeShapes Go.WideShapes Go.ChangeAt

theorem flat_get {α β : Type} {f : α → List β} {n : Nat} : ∀ {l : List α} {j : Nat} {u : β}, (∀ a ∈ l, (f a).length = n) → (l.flatMap f)[j]? = some u → ∃ (k : Nat) (h : k < l.length) (r : Nat), r < n ∧ j = k * n + r ∧ (f l[k])[r]? = some u
  | [], j, u, _, h => by simp at h
  | a :: l, j, u, hn, h => by
    have ha := hn a (List.mem_cons_self ..)
    rw [List.flatMap_cons] at h
    by_cases hj : j < n
    · rw [List.getElem?_append_left (by omega)] at h
      exact ⟨0, by simp, j, hj, by omega, h⟩
    · rw [List.getElem?_append_right (by omega), ha] at h
      obtain ⟨k, hk, r, hr, e, hu⟩ := flat_get (fun b hb => hn b (List.mem_cons_of_mem _ hb)) h
      exact ⟨k + 1, by simpa using hk, r, hr, by rw [Nat.succ_mul]; omega, by simpa using hu⟩
theorem list_of {α : Type} {p : Nat → α → Prop} : ∀ n, (∀ i, i < n → ∃ a, p i a) → ∃ l : List α, l.length = n ∧ ∀ i (h : i < l.length), p i l[i]
  | 0, _ => ⟨[], rfl, fun i h => absurd h (Nat.not_lt_zero _)⟩
  | n + 1, h => by
    obtain ⟨l, hl, hp⟩ := list_of n (fun i hi => h i (by omega))
    obtain ⟨a, ha⟩ := h n (by omega)
    refine ⟨l ++ [a], by simp [hl], fun i hi => ?_⟩
    by_cases hlt : i < l.length
    · rw [List.getElem_append_left hlt]; exact hp i hlt
    · have e : i = l.length := by simp at hi; omega
      subst e
      rw [List.getElem_append_right (Nat.le_refl _)]
      simpa [hl] using ha

section
variable {H : Type} {enc : TypeId × Value → H} {P : Program} {W : World} {spare : Nat → Bool} {held : Bool} {n : Nat} {cs : List Value} {x : DataW H × List MemPlace}
theorem read_slice {α : Type} {T e : TypeId} {size fuel : Nat} (ht : P.underlying T = some (.slice e)) (hs : P.cellsOf e = size) (hpos : 0 < size) (f : α → List Value) (Q : α → Prop)
    (h1 : ∀ n cs x, DataW.trod enc P W 0 spare held n e cs = some x → ∃ a, cs = f a ∧ Q a) (h : DataW.trod enc P W 0 spare held fuel T cs = some x) :
    ∃ v, cs = [v] ∧ ∃ l : List α, SliceIn W v l.length (l.flatMap f) ∧ ∀ a ∈ l, Q a := by
  rcases DataW.trod_slice ht h with ⟨rfl, _⟩ | ⟨a, len, cap, elems, rest, n, _, rfl, _, _, hl, hm, hlen, hel, _⟩
  · exact ⟨_, rfl, [], SliceIn.nil W, nofun⟩
  · have each : ∀ i, i < len → ∃ b : α, W.cells? 0 (a.add (i * size)) size = some (f b) ∧ Q b := by
      intro i hi
      have := hel i hi
      rw [List.getElem?_eq_getElem (by omega), hs, Option.bind_eq_some_iff] at this
      obtain ⟨cs', h2, h3⟩ := this
      obtain ⟨b, rfl, hq⟩ := h1 _ _ _ h3
      exact ⟨b, h2, hq⟩
    obtain ⟨l, hll, hp⟩ := list_of len each
    have flen : ∀ b ∈ l, (f b).length = size := by
      intro b hb
      obtain ⟨i, hi, rfl⟩ := List.getElem_of_mem hb
      exact (World.cells?_some (hp i hi).1).2.1
    refine ⟨_, rfl, l, ⟨some a, cap, by rw [hll], by rw [hll]; exact hl, hm, nofun, fun j u hj => ?_⟩, fun b hb => ?_⟩
    · obtain ⟨k, hk, r, hr, rfl, hu⟩ := flat_get flen hj
      have h2 := (World.cells?_some (hp k hk).1).2.2 r hr
      rw [hu] at h2
      obtain ⟨b, o, s⟩ := a
      cases s with
      | none =>
        rw [Addr.add_lit, Addr.add_lit] at h2
        exact ⟨b, o, rfl, by rw [← Nat.add_assoc]; exact h2⟩
      | some s =>
        exfalso
        have h0 := (World.cells?_some (hp 0 (by omega)).1).2.2 0 hpos
        rw [Nat.zero_mul] at h0
        simp only [Addr.add, if_pos] at h0
        unfold World.cell? at h0
        have hf0 : (f l[0])[0]? ≠ none := by
          rw [Ne, List.getElem?_eq_none_iff, flen _ (List.getElem_mem _)]
          omega
        split at h0 <;> simp at h0 <;> exact hf0 (by simp [← h0])
    · obtain ⟨i, hi, rfl⟩ := List.getElem_of_mem hb
      exact (hp i hi).2
theorem fld_string {t : TypeId} {o : Nat} {y : DataW H × List MemPlace} (ht : P.underlying t = some .string) (hc : P.cellsOf t = 1) (h : DataW.trod enc P W 0 spare held n t ((cs.drop o).take (P.cellsOf t)) = some y) : ∃ s : ByteArray, cs[o]? = some (.string s) := by
  obtain ⟨s, e, _⟩ := DataW.trod_string ht h
  rw [hc] at e
  exact ⟨s, cell_of_cut e⟩
theorem fld_int {t : TypeId} {o : Nat} {y : DataW H × List MemPlace} {k : IntKind} (ht : P.underlying t = some (.int k)) (hc : P.cellsOf t = 1) (h : DataW.trod enc P W 0 spare held n t ((cs.drop o).take (P.cellsOf t)) = some y) : ∃ s : Int, cs[o]? = some (.int k s) ∧ (Lit.int k s).wf = true := by
  obtain ⟨s, e, _, hw⟩ := DataW.trod_int ht h
  rw [hc] at e
  exact ⟨s, cell_of_cut e, hw⟩
theorem fld_bool {t : TypeId} {o : Nat} {y : DataW H × List MemPlace} (ht : P.underlying t = some .bool) (hc : P.cellsOf t = 1) (h : DataW.trod enc P W 0 spare held n t ((cs.drop o).take (P.cellsOf t)) = some y) : ∃ s : Bool, cs[o]? = some (.bool s) := by
  obtain ⟨s, e, _⟩ := DataW.trod_bool ht h
  rw [hc] at e
  exact ⟨s, cell_of_cut e⟩
theorem list3 {α : Type} {l : List α} {a b c : α} (h : l.length = 3) (h0 : l[0]? = some a) (h1 : l[1]? = some b) (h2 : l[2]? = some c) : l = [a, b, c] := by
  match l, h with
  | [x, y, z], _ => simp at h0 h1 h2; rw [h0, h1, h2]
theorem list4 {α : Type} {l : List α} {a b c d : α} (h : l.length = 4) (h0 : l[0]? = some a) (h1 : l[1]? = some b) (h2 : l[2]? = some c) (h3 : l[3]? = some d) : l = [a, b, c, d] := by
  match l, h with
  | [x, y, z, u], _ => simp at h0 h1 h2 h3; rw [h0, h1, h2, h3]
theorem list5 {α : Type} {l : List α} {a b c d e : α} (h : l.length = 5) (h0 : l[0]? = some a) (h1 : (l.drop 1).take 4 = [b, c, d, e]) : l = [a, b, c, d, e] := by
  match l, h with
  | [x, y, z, u, v], _ => simp at h0 h1; simp [h0, h1]
theorem list8 {α : Type} {l : List α} {a b c d e f g i : α} (h : l.length = 8) (h0 : l[0]? = some a) (h1 : (l.drop 1).take 4 = [b, c, d, e]) (h5 : l[5]? = some f) (h6 : l[6]? = some g) (h7 : l[7]? = some i) : l = [a, b, c, d, e, f, g, i] := by
  match l, h with
  | [x, y, z, u, v, p, q, r], _ => simp at h0 h1 h5 h6 h7; simp [h0, h1, h5, h6, h7]
end
theorem cells_string : Try.prog.cellsOf 9 = 1 := by kernel_rfl
theorem cells_int : Try.prog.cellsOf 3 = 1 := by kernel_rfl
theorem cells_bool : Try.prog.cellsOf 4 = 1 := by kernel_rfl
end Go.Proofs.Ytmjhdfifbjdgpaa

/- Scripts of note calls that come in, read: []Op of clerestorylaw11. -/
namespace Go.Proofs.Ytmjhdfifbjdgpaa
open Go Go.RowKit Go.ChangeShapes Go.WideShapes Go.ChangeAt

/-- A call of the script, its lists in memory. -/
structure OpN where
  kind : Int
  id : Int
  body : ByteArray
  vAdd : Value
  add : Fl
  vDrop : Value
  drop : List Int
def OpN.cells (o : OpN) : List Value := [.int .i64 o.kind, .int .i64 o.id, .string o.body, o.vAdd, o.vDrop]
structure OpN.Ok (W : World) (o : OpN) : Prop where
  kindB : -9223372036854775808 ≤ o.kind ∧ o.kind ≤ 9223372036854775807
  idB : -9223372036854775808 ≤ o.id ∧ o.id ≤ 9223372036854775807
  bodyB : o.body.size ≤ maxLen
  addIn : NotesIn W o.vAdd o.add
  addB : ∀ q ∈ o.add, (-9223372036854775808 ≤ q.1 ∧ q.1 ≤ 9223372036854775807) ∧ q.2.length ≤ maxLen
  dropIn : IntsIn W o.vDrop .i64 o.drop
  dropB : ∀ n ∈ o.drop, -9223372036854775808 ≤ n ∧ n ≤ 9223372036854775807
structure OpsIn (W : World) (v : Value) (l : List OpN) : Prop where
  ops : SliceIn W v l.length (l.flatMap OpN.cells)
  ok : ∀ o ∈ l, o.Ok W

section
variable {H : Type} {enc : TypeId × Value → H} {W : World} {spare : Nat → Bool} {held : Bool} {n : Nat} {cs : List Value} {x : DataW H × List MemPlace}
theorem cellsA_note : Try.prog.cellsOf 30 = 2 := by kernel_rfl
theorem cellsA_notes : Try.prog.cellsOf 31 = 1 := by kernel_rfl
theorem cellsA_ints : Try.prog.cellsOf 22 = 1 := by kernel_rfl
theorem cellsA_op11 : Try.prog.cellsOf 43 = 5 := by kernel_rfl
theorem bounds_of {s : Int} (h : (Lit.int .i64 s).wf = true) : -9223372036854775808 ≤ s ∧ s ≤ 9223372036854775807 := wf_i64 h
theorem fld_str {t : TypeId} {o : Nat} {y : DataW H × List MemPlace} {P : Program} (ht : P.underlying t = some .string) (hc : P.cellsOf t = 1) (h : DataW.trod enc P W 0 spare held n t ((cs.drop o).take (P.cellsOf t)) = some y) : ∃ s : ByteArray, cs[o]? = some (.string s) ∧ s.size ≤ maxLen := by
  obtain ⟨s, e, _, hs⟩ := DataW.trod_string ht h
  rw [hc] at e
  exact ⟨s, cell_of_cut e, hs⟩
set_option maxRecDepth 100000 in
theorem trod_note (h : DataW.trod enc Try.prog W 0 spare held n 30 cs = some x) : ∃ q : Int × List UInt8, cs = [.int .i64 q.1, .string (str q.2)] ∧ ((-9223372036854775808 ≤ q.1 ∧ q.1 ≤ 9223372036854775807) ∧ q.2.length ≤ maxLen) := by
  obtain ⟨xs, m, _, _, hl, hlen, hf⟩ := DataW.trod_struct Try.underlying30 h
  rw [cellsA_note] at hl
  match xs, hlen with
  | [y0, y1], _ =>
    obtain ⟨i, e0, hw⟩ := fld_int Try.underlying3 cells_int (hf 0 _ rfl)
    obtain ⟨s, e1, hs⟩ := fld_str Try.underlying9 cells_string (hf 1 _ rfl)
    refine ⟨(i, s.data.toList), ?_, bounds_of hw, by show s.data.toList.length ≤ maxLen; rw [Array.length_toList]; exact hs⟩
    rw [show str s.data.toList = s from (str_eq rfl).symm]
    match cs, hl with
    | [a, b], _ => simp at e0 e1; rw [e0, e1]
theorem trod_notes (h : DataW.trod enc Try.prog W 0 spare held n 31 cs = some x) : ∃ v, cs = [v] ∧ ∃ F : Fl, NotesIn W v F ∧ ∀ q ∈ F, (-9223372036854775808 ≤ q.1 ∧ q.1 ≤ 9223372036854775807) ∧ q.2.length ≤ maxLen := by
  obtain ⟨v, rfl, l, h, hq⟩ := read_slice Try.underlying31 cellsA_note (by decide) (fun q : Int × List UInt8 => [.int .i64 q.1, .string (str q.2)]) _ (fun _ _ _ h => trod_note h) h
  exact ⟨v, rfl, l, h, hq⟩
theorem trod_intz (h : DataW.trod enc Try.prog W 0 spare held n 22 cs = some x) : ∃ v, cs = [v] ∧ ∃ l : List Int, IntsIn W v .i64 l ∧ ∀ n ∈ l, -9223372036854775808 ≤ n ∧ n ≤ 9223372036854775807 := by
  obtain ⟨v, rfl, l, h, hq⟩ := read_slice Try.underlying22 cells_int (by decide) (fun q : Int => [Value.int .i64 q]) (fun q => -9223372036854775808 ≤ q ∧ q ≤ 9223372036854775807) (fun _ _ _ h => by
    obtain ⟨i, e, _, hw⟩ := DataW.trod_int Try.underlying3 h
    exact ⟨i, e, bounds_of hw⟩) h
  refine ⟨v, rfl, l, ?_, hq⟩
  unfold IntsIn kcells
  rw [show l.map (Value.int .i64) = l.flatMap (fun q : Int => [Value.int .i64 q]) by rw [List.map_eq_flatMap]]
  exact h
set_option maxRecDepth 100000 in
theorem trod_op (h : DataW.trod enc Try.prog W 0 spare held n 43 cs = some x) : ∃ o : OpN, cs = o.cells ∧ o.Ok W := by
  obtain ⟨xs, m, _, _, hl, hlen, hf⟩ := DataW.trod_struct Try.underlying43 h
  rw [cellsA_op11] at hl
  match xs, hlen with
  | [y0, y1, y2, y3], _ =>
    obtain ⟨k, e0, hw⟩ := fld_int Try.underlying3 cells_int (hf 0 _ rfl)
    obtain ⟨q, e1, hq1, hq2⟩ := trod_note (hf 1 _ rfl)
    obtain ⟨va, e2, A, hA, hAb⟩ := trod_notes (hf 2 _ rfl)
    obtain ⟨vd, e3, D, hD, hDb⟩ := trod_intz (hf 3 _ rfl)
    have e1' : (cs.drop 1).take (Try.prog.cellsOf 30) = _ := e1
    have e2' : (cs.drop 3).take (Try.prog.cellsOf 31) = _ := e2
    have e3' : (cs.drop 4).take (Try.prog.cellsOf 22) = _ := e3
    rw [cellsA_note] at e1'
    rw [cellsA_notes] at e2'
    rw [cellsA_ints] at e3'
    refine ⟨⟨k, q.1, str q.2, va, A, vd, D⟩, ?_, bounds_of hw, hq1, by rw [str_size]; exact hq2, hA, hAb, hD, hDb⟩
    replace e2' := cell_of_cut e2'
    replace e3' := cell_of_cut e3'
    match cs, hl with
    | [a, b, c, d, e], _ =>
      simp at e0 e1' e2' e3'
      simp [OpN.cells, e0, e1', e2', e3']
set_option maxRecDepth 100000 in
/-- A script that comes in. -/
theorem read_ops {base : Nat} {v : Value} {d : DataW H} {p : List MemPlace} (hv : Value.okWide Try.prog W .any base 38 v)
    (h : DataW.Trod enc Try.prog W 0 (fun _ => true) true 38 v d p) : ∃ l : List OpN, OpsIn W v l := by
  obtain ⟨a, len, cap, rfl⟩ := okWide_slice Try.underlying38 hv
  obtain ⟨fuel, hf⟩ := h
  obtain ⟨u, e, l, h, hq⟩ := read_slice Try.underlying38 cellsA_op11 (by decide) OpN.cells _ (fun _ _ _ h => trod_op h) hf
  simp [Value.cells] at e
  subst e
  exact ⟨l, h, hq⟩
end
end Go.Proofs.Ytmjhdfifbjdgpaa

/- Plain laws on numbers and their bytes; no program. -/
namespace Go.Proofs.Ytmjhdfifbjdgpaa

theorem tmod_pos {v n : Int} (h : 1 ≤ n) : 0 ≤ v.tmod n → v.tmod n = v % n := by
  intro h0
  rw [Int.tmod_eq_emod] at *
  split at h0 <;> split <;> try omega
  have := Int.emod_nonneg v (show n ≠ 0 by omega)
  have := Int.emod_lt_of_pos v (show 0 < n by omega)
  omega
theorem tmod_neg {v n : Int} (h : 1 ≤ n) : v.tmod n < 0 → v.tmod n + n = v % n := by
  intro h0
  rw [Int.tmod_eq_emod] at *
  split at h0 <;> split <;> try omega
  have := Int.emod_nonneg v (show n ≠ 0 by omega)
  omega
theorem tmod_lo {v n : Int} (h : 1 ≤ n) : -n < v.tmod n ∧ v.tmod n < n := by
  rw [Int.tmod_eq_emod]
  have := Int.emod_nonneg v (show n ≠ 0 by omega)
  have := Int.emod_lt_of_pos v (show 0 < n by omega)
  split <;> omega

/-- So many bytes of a number, the greatest first. -/
def beB : Nat → Nat → List UInt8
  | 0, _ => []
  | k + 1, x => UInt8.ofNat (x / 256 ^ k) :: beB k x

theorem beB_length (k x : Nat) : (beB k x).length = k := by
  induction k with
  | zero => rfl
  | succ k ih => simp [beB, ih]

theorem beB_get {k x j : Nat} (h : j < k) : (beB k x)[j]? = some (UInt8.ofNat (x / 256 ^ (k - 1 - j))) := by
  induction k generalizing j with
  | zero => omega
  | succ k ih =>
    cases j with
    | zero => simp [beB]
    | succ j =>
      simp only [beB, List.getElem?_cons_succ]
      rw [ih (by omega)]
      congr 4
      omega

theorem byte_shift (x k : Nat) : UInt8.ofNat (((x : Int) / 2 ^ (8 * k) % 256).toNat) = UInt8.ofNat (x / 256 ^ k) := by
  have e : ((x : Int) / 2 ^ (8 * k) % 256).toNat = x / 256 ^ k % 256 := by
    rw [show (2 : Int) ^ (8 * k) = ((256 ^ k : Nat) : Int) by rw [Int.pow_mul]; simp]
    omega
  rw [e]
  apply UInt8.toNat.inj
  simp

/-- How many bits, how many bytes a number takes. -/
def bitsOf (x : Nat) : Nat := if x = 0 then 0 else Nat.log2 x + 1
def nlen (x : Nat) : Nat := (bitsOf x + 7) / 8

theorem bitsOf_lt (x : Nat) : x < 2 ^ bitsOf x := by
  unfold bitsOf
  split
  · omega
  · exact Nat.lt_log2_self
theorem bitsOf_le (x : Nat) (h : x ≠ 0) : 2 ^ (bitsOf x - 1) ≤ x := by
  unfold bitsOf
  rw [if_neg h]
  exact Nat.log2_self_le h
theorem bitsOf_unique {x n : Nat} (h1 : x < 2 ^ n) (h2 : n = 0 ∨ 2 ^ (n - 1) ≤ x) : bitsOf x = n := by
  by_cases hx : x = 0
  · subst hx
    rcases h2 with rfl | h2
    · rfl
    · have : 0 < 2 ^ (n - 1) := Nat.two_pow_pos _
      omega
  · have a := bitsOf_lt x
    have b := bitsOf_le x hx
    have hn : n ≠ 0 := by rintro rfl; simp at h1; exact hx h1
    have h2 : 2 ^ (n - 1) ≤ x := h2.resolve_left hn
    have hb : bitsOf x ≠ 0 := by unfold bitsOf; rw [if_neg hx]; omega
    have c : bitsOf x - 1 < n := (Nat.pow_lt_pow_iff_right (a := 2) (by omega)).1 (Nat.lt_of_le_of_lt b h1)
    have d : n - 1 < bitsOf x := (Nat.pow_lt_pow_iff_right (a := 2) (by omega)).1 (Nat.lt_of_le_of_lt h2 a)
    omega

theorem bitsOf_le64 {x : Nat} (h : x < 18446744073709551616) : bitsOf x ≤ 64 := by
  by_cases hx : x = 0
  · subst hx; simp [bitsOf]
  · have b := bitsOf_le x hx
    have : 2 ^ (bitsOf x - 1) < 2 ^ 64 := Nat.lt_of_le_of_lt b (by simpa using h)
    have := (Nat.pow_lt_pow_iff_right (a := 2) (by omega)).1 this
    omega

/-- A number's bytes: how many they are, and they. -/
def num (x : Nat) : List UInt8 := UInt8.ofNat (nlen x) :: beB (nlen x) x

/-- A text's bytes. -/
def esc : List UInt8 → List UInt8
  | [] => []
  | b :: l => if b = 0 then 0 :: 255 :: esc l else b :: esc l
theorem esc_append (l m : List UInt8) : esc (l ++ m) = esc l ++ esc m := by
  induction l with
  | nil => rfl
  | cons b l ih =>
    simp only [List.cons_append, esc, ih]
    split <;> simp
theorem esc_snoc (l : List UInt8) (b : UInt8) : esc (l ++ [b]) = esc l ++ if b = 0 then [0, 255] else [b] := by
  rw [esc_append]
  congr 1
theorem esc_length_le (l : List UInt8) : (esc l).length ≤ 2 * l.length := by
  induction l with
  | nil => simp [esc]
  | cons b l ih =>
    simp only [esc]
    split <;> simp <;> omega
def txt (l : List UInt8) : List UInt8 := esc l ++ [0, 1]
theorem txt_length_le (l : List UInt8) : (txt l).length ≤ 2 * l.length + 2 := by
  have := esc_length_le l
  simp [txt]
  omega
/-- A whole number's eight bytes (v, as the 64 bits that it is, and 2^63). -/
def int8 (v : Int) : List UInt8 := beB 8 ((v + 9223372036854775808) % 18446744073709551616).toNat
end Go.Proofs.Ytmjhdfifbjdgpaa
