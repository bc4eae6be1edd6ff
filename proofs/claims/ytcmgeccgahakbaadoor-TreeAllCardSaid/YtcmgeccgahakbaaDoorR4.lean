/- Package tree: Texts, Other. -/
import Derived.Test.YtcmgeccgahakbaaDoorR1
import Derived.Test.YtcmgeccgahakbaaDoorR3
import Derived.Test.YtcmgeccgahakbaaDoorR2
import Derived.Lib.ItoaNum
import Derived.Lib.AppendIntMem
import Derived.Test.YtcmgeccgahakbaaDoorProg
set_option linter.unusedSimpArgs false
set_option linter.unusedVariables false
namespace Go.Proofs.YtcmgeccgahakbaaDoor
open Go Go.RowKit
attribute [local go_sem] yields yUpon

theorem info_stringX : (Tryd.prog.info? 9).map (fun i => (i.zero, i.size, i.bytes)) = some (some (.string ⟨#[]⟩), 1, 16) := by kernel_rfl
theorem und_strsX : Tryd.prog.underlying 52 = some (.slice 9) := by kernel_rfl
theorem info_intX : (Tryd.prog.info? 3).map (fun i => (i.zero, i.size, i.bytes)) = some (some (.int .i64 0), 1, 8) := by kernel_rfl
theorem und_intsX : Tryd.prog.underlying 27 = some (.slice 3) := by kernel_rfl

def tsC (l : List ByteArray) : List Value := l.map Value.string
/-- v is a slice of texts that reads as l. -/
def TsIn (w : World) (v : Value) (l : List ByteArray) : Prop := SliceIn w v l.length (tsC l)
theorem TsIn.ext {w w' : World} (hE : Ext w w') {v : Value} {l : List ByteArray} (h : TsIn w v l) : TsIn w' v l := SliceIn.ext hE h
theorem TsIn.get {w : World} {v : Value} {l : List ByteArray} (h : TsIn w v l) : ∃ a c, v = .slice a l.length c ∧ l.length ≤ c ∧ c ≤ 9223372036854775807 ∧ ∀ k (hk : k < l.length), ∃ b o, a = some ⟨b, o, none⟩ ∧ w.cell? ⟨b, o + k, none⟩ = some (.string l[k]) := by
  obtain ⟨a, c, rfl, hc, hcm, ha, hcell⟩ := h
  unfold maxLen at hcm
  exact ⟨a, c, rfl, hc, by omega, fun k hk => hcell k _ (by simp [tsC, hk])⟩
theorem IntsIn.getX {w : World} {v : Value} {l : List Int} (h : IntsIn w v .i64 l) : ∃ a c, v = .slice a l.length c ∧ l.length ≤ c ∧ c ≤ 9223372036854775807 ∧ ∀ k (hk : k < l.length), ∃ b o, a = some ⟨b, o, none⟩ ∧ w.cell? ⟨b, o + k, none⟩ = some (.int .i64 l[k]) := by
  obtain ⟨a, c, rfl, hc, hcm, ha, hcell⟩ := h
  unfold maxLen at hcm
  exact ⟨a, c, rfl, hc, by omega, fun k hk => hcell k _ (by simp [kcells, hk])⟩

/-- The text of a sum. -/
def stx (v : Int) : ByteArray := ⟨(Lib.itoa (max v 0)).toArray⟩
def stxs (l : List Int) : List ByteArray := l.map stx
theorem stx_size (v : Int) : 1 ≤ (stx v).size := by
  have h : (stx v).size = (Lib.itoa (max v 0)).length := by simp [stx, ByteArray.size]
  rw [h]
  unfold Lib.itoa
  rw [if_neg (by omega), Lib.decDigits_length]
  exact Lib.nDigits_pos _
theorem stx_size_le (v : Int) (h : v ≤ 9223372036854775807) : (stx v).size ≤ 20 := by
  have e : (stx v).size = (Lib.itoa (max v 0)).length := by simp [stx, ByteArray.size]
  rw [e]
  unfold Lib.itoa
  rw [if_neg (by omega), Lib.decDigits_length]
  by_cases h0 : (max v 0).toNat = 0
  · rw [h0, Lib.nDigits_small (by omega)]
    omega
  · obtain ⟨h1, h2⟩ := Lib.numDigits_eq (max v 0).toNat (by omega) (by omega)
    split at h1 <;> omega
theorem decDigits_zero {u : Nat} (h : Lib.decDigits u = [48]) : u = 0 := by
  have hl := congrArg List.length h
  rw [Lib.decDigits_length] at hl
  have hs : u < 10 := by
    apply Classical.byContradiction
    intro hb
    rw [Lib.nDigits_big hb] at hl
    have := Lib.nDigits_pos (u / 10)
    simp at hl
    omega
  rw [Lib.decDigits_one hs] at h
  have h1 := congrArg UInt8.toNat (List.cons.inj h).1
  simp at h1
  omega
theorem stx_zero (v : Int) : (stx v = ⟨#[48]⟩) ↔ v ≤ 0 := by
  unfold stx Lib.itoa
  rw [if_neg (by omega)]
  constructor
  · intro h
    have h1 : Lib.decDigits (max v 0).toNat = [48] := by
      have := congrArg (fun b : ByteArray => b.data.toList) h
      simpa using this
    have := decDigits_zero h1
    omega
  · intro h
    rw [show (max v 0).toNat = 0 by omega, Lib.decDigits_one (by omega)]
    rfl

abbrev TabX (w : World) : Prop := Lib.TabIs Tryd.prog w "internal/strconv.uint64pow10" .u64 Lib.pow10Tab

set_option maxRecDepth 100000 in
set_option maxHeartbeats 2000000 in
theorem texts_any (v : Value) (l : List Int) (w : World) (hin : IntsIn w v .i64 l) (hb : ∀ x ∈ l, -9223372036854775808 ≤ x ∧ x ≤ 9223372036854775807) (hlen : l.length ≤ 1000000) (hT : TabX w) :
    Calls Tryd.prog 43 #[v] w fun e w' => ∃ v', (e = .returned v' ∧ Ext w w') ∧ w'.ownsRow w.heap.size 9 1 v' l.length (tsC (stxs l)) := by
  obtain ⟨a, c, rfl, hc, hcm, hcell⟩ := hin.getX
  have HC := Lib.hid hcell
  have HB := Lib.hid hb
  have HT := Lib.hid hT
  obtain ⟨n, hn⟩ : ∃ n, n = l.length := ⟨_, rfl⟩
  have HN := Lib.hid hn
  rw [← hn] at hc hlen ⊢
  clear hcell hin hb hT hn
  go_enter Tryd.func43, Tryd.ntmps43
  go_wp2
  go_loopw [3, 8] (fun vb i wr => ∃ k : Nat, k ≤ n ∧ i = .int .i64 k ∧ Ext w wr ∧ wr.ownsRow w.heap.size 9 1 vb k (tsC (stxs (l.take k)))) (fun _ i _ => n - (intOf i).toNat)
  case atStart => exact ⟨0, Nat.zero_le _, rfl, Ext.refl w, World.ownsRow_nil _ _ _ _⟩
  case round =>
    obtain ⟨k, hk, rfl, hE, hown⟩ := hrel
    by_cases hlt : k < n
    · have hkl : k < l.length := by rw [← HN.out]; exact hlt
      obtain ⟨b, o, rfl, hco⟩ := HC.out k hkl
      replace hco := hE.cell hco
      have hx := HB.out _ (List.getElem_mem hkl)
      obtain ⟨x, hxe⟩ : ∃ x, x = l[k] := ⟨_, rfl⟩
      rw [← hxe] at hco hx
      have hcells : tsC (stxs (l.take (k + 1))) = tsC (stxs (l.take k)) ++ [.string (stx x)] := by
        rw [List.take_succ_eq_append_getElem hkl, hxe]
        simp only [stxs, tsC, List.map_append, List.map_cons, List.map_nil]
      have HX := Lib.hid hcells
      clear hcells hxe
      have hmx : (if x < 0 then 0 else x) = max x 0 := by split <;> omega
      go_wp2_with (first
        | (go_at_call 105; go_must (refine (Tryd.strconv_Itoa (max x 0) (by omega) (by omega) wr (pow10_ext HT.out hE)).mono ?_); rintro e w7 ⟨rfl, kk, os, hg⟩; have hE7 : Ext wr w7 := (hg ▸ Lib.below_grow _ _ (Nat.le_refl _) _ _); clear hg; have hO7 := ownsRow_ext hown hE7)
        | (at_builtin; go_must (refine appR info_stringX und_strsX rfl (by decide) w7 rfl (.tmp 12) (.tmp 16) rfl w.heap.size (hE.trans hE7).le _ k _ hO7 (by rfl) 1 _ (by rfl) (by rfl) (by simp [Value.oneCell']) (by unfold maxLen; omega) (by omega) ?_); intro v8 w8 ho8 hg8))
      have hE8 := ((hE.trans hE7).alloc (.cells #[.string (stx x)] 9)).grown hg8 (fun k hk => (hO7.lt k hk).1)
      go_roundw
      case rel =>
        refine ⟨k + 1, hlt, rfl, hE8, ?_⟩
        rw [HX.out]
        exact ho8
      case measure => simp [intOf]; omega
    · go_wp2
      go_ret
      have : k = n := by omega
      subst this
      refine ⟨_, ⟨rfl, hE⟩, ?_⟩
      rw [List.take_of_length_le (by rw [← HN.out]; exact Nat.le_refl _)] at hown
      exact hown
end Go.Proofs.YtcmgeccgahakbaaDoor

/- Records in blocks: the plain law of what is put and what is scanned. -/
namespace Go.Proofs.YtcmgeccgahakbaaDoor

def tok (t : Nat) (l : List UInt8) : Nat := l.foldl (fun t b => (257 * t + b.toNat + 1) % 2147483647) t
def tok4 (t : Nat) : List UInt8 := [UInt8.ofNat (t / 16777216), UInt8.ofNat (t / 65536), UInt8.ofNat (t / 256), UInt8.ofNat t]
theorem tok_lt : ∀ (l : List UInt8) (t : Nat), t < 2147483647 → tok t l < 2147483647
  | [], _, h => h
  | b :: l, t, _ => tok_lt l ((257 * t + b.toNat + 1) % 2147483647) (Nat.mod_lt _ (by omega))
theorem tok_snoc (t : Nat) (l : List UInt8) (b : UInt8) : tok t (l ++ [b]) = (257 * tok t l + b.toNat + 1) % 2147483647 := by simp [tok]
def num4 (a b c d : UInt8) : Nat := ((a.toNat * 256 + b.toNat) * 256 + c.toNat) * 256 + d.toNat
theorem tok4_iff (a b c d : UInt8) (t : Nat) (ht : t < 4294967296) : [a, b, c, d] = tok4 t ↔ num4 a b c d = t := by
  have ha := a.toNat_lt; have hb := b.toNat_lt; have hc := c.toNat_lt; have hd := d.toNat_lt
  simp only [tok4, num4, List.cons.injEq, and_true, ← UInt8.toNat_inj, UInt8.toNat_ofNat']
  constructor
  · rintro ⟨h1, h2, h3, h4⟩; omega
  · rintro rfl; omega
@[simp] theorem tok4_length (t : Nat) : (tok4 t).length = 4 := rfl

/-- A piece. -/
def pc (kind : Nat) (body : List UInt8) : List UInt8 :=
  UInt8.ofNat kind :: UInt8.ofNat body.length :: (tok4 (tok 1 (UInt8.ofNat kind :: UInt8.ofNat body.length :: body)) ++ body)
@[simp] theorem pc_length (kind : Nat) (body : List UInt8) : (pc kind body).length = 6 + body.length := by simp [pc]; omega
def zer (n : Nat) : List UInt8 := List.replicate n 0
@[simp] theorem zer_length (n : Nat) : (zer n).length = n := by simp [zer]
def gap (n : Nat) : Nat := if 128 - n % 128 < 7 then 128 - n % 128 else 0
/-- How many bytes of a body a piece may have that comes behind n bytes (and the gap). -/
def room (n : Nat) : Nat := 122 - (n + gap n) % 128
theorem room_pos (n : Nat) : 1 ≤ room n := by unfold room gap; split <;> omega
theorem room_le (n : Nat) : room n ≤ 122 := by unfold room; omega
theorem room_left (n : Nat) : 6 + room n = 128 - (n + gap n) % 128 := by unfold room gap; split <;> omega
theorem gap_gap (n : Nat) : gap (n + gap n) = 0 := by unfold gap; split <;> split <;> omega
theorem gap_full (n : Nat) : (n + gap n + (6 + room n)) % 128 = 0 := by unfold room gap; split <;> omega
theorem gap_zero {n : Nat} (h : n % 128 = 0) : gap n = 0 := by unfold gap; split <;> omega
theorem room_zero {n : Nat} (h : n % 128 = 0) : room n = 122 := by unfold room; rw [gap_zero h]; omega
def kindOf (b : Bool) (end_ : Bool) : Nat := if end_ then (if b then 4 else 1) else (if b then 3 else 2)

/-- What is put behind n bytes; b: the record has begun. -/
def sput (b : Bool) (n : Nat) (body : List UInt8) : List UInt8 :=
  if body.length ≤ room n then zer (gap n) ++ pc (kindOf b true) body
  else zer (gap n) ++ (pc (kindOf b false) (body.take (room n)) ++ sput true (n + gap n + (6 + room n)) (body.drop (room n)))
termination_by body.length
decreasing_by have := room_pos n; simp; omega
theorem sput_last {b : Bool} {n : Nat} {body : List UInt8} (h : body.length ≤ room n) : sput b n body = zer (gap n) ++ pc (kindOf b true) body := by
  rw [sput, if_pos h]
theorem sput_more {b : Bool} {n : Nat} {body : List UInt8} (h : ¬ body.length ≤ room n) : sput b n body = zer (gap n) ++ (pc (kindOf b false) (body.take (room n)) ++ sput true (n + gap n + (6 + room n)) (body.drop (room n))) := by
  rw [sput, if_neg h]
theorem sput_gap (b : Bool) (n : Nat) (body : List UInt8) : zer (gap n) ++ sput b (n + gap n) body = sput b n body := by
  have hr : room (n + gap n) = room n := by unfold room; rw [gap_gap]; rfl
  by_cases h : body.length ≤ room n
  · rw [sput_last h, sput_last (by rw [hr]; exact h), gap_gap]; rfl
  · rw [sput_more h, sput_more (by rw [hr]; exact h), gap_gap, hr]; rfl
theorem sput_len (n : Nat) : ∀ (k : Nat) (b : Bool) (body : List UInt8), body.length ≤ k → 6 + body.length ≤ (sput b n body).length := by
  intro k
  induction k generalizing n with
  | zero => intro b body h; rw [sput_last (by omega)]; simp
  | succ k ih =>
    intro b body h
    by_cases hr : body.length ≤ room n
    · rw [sput_last hr]; simp
    · rw [sput_more hr]
      have h1 := room_pos n
      have := ih (n + gap n + (6 + room n)) true (body.drop (room n)) (by simp; omega)
      simp only [List.length_append, zer_length, pc_length, List.length_take, List.length_drop] at this ⊢
      omega
theorem sput_pos (b : Bool) (n : Nat) (body : List UInt8) : 6 + body.length ≤ (sput b n body).length := sput_len n _ b body (Nat.le_refl _)

/-! ### Reading -/
def pk (s : List UInt8) (k : Nat) : Nat := (s.getD k 0).toNat
def pn (s : List UInt8) (k : Nat) : Nat := (s.getD (k + 1) 0).toNat
def pb (s : List UInt8) (k : Nat) : List UInt8 := (s.drop (k + 6)).take (pn s k)
def sumB (s : List UInt8) (k : Nat) : Bool := (s.drop (k + 2)).take 4 == tok4 (tok 1 ((s.drop k).take 2 ++ pb s k))
/-- A piece at k that may be. -/
def okP (s : List UInt8) (b : Bool) (k : Nat) : Bool :=
  decide (k + 6 ≤ s.length) && decide (6 + pn s k ≤ 128 - k % 128) && decide (k + 6 + pn s k ≤ s.length) && decide (1 ≤ pk s k) && decide (pk s k ≤ 4) &&
    (b == (pk s k == 3 || pk s k == 4)) && !((pk s k == 2 || pk s k == 3) && (6 + pn s k != 128 - k % 128)) && !(pk s k != 1 && pn s k == 0) && sumB s k
def midB (s : List UInt8) (k : Nat) : Bool := pk s k == 2 || pk s k == 3
def gapOk (s : List UInt8) (at_ : Nat) : Bool := decide (at_ + gap at_ ≤ s.length) && ((s.drop at_).take (gap at_) == zer (gap at_))

theorem okP_len {s : List UInt8} {b : Bool} {k : Nat} (h : okP s b k = true) : k + 6 + pn s k ≤ s.length := by
  simp only [okP, Bool.and_eq_true, decide_eq_true_eq] at h
  exact h.1.1.1.1.1.1.2

def rd (s : List UInt8) (b : Bool) (at_ : Nat) : Option (List UInt8 × Nat) :=
  if gapOk s at_ = true then
    if h : okP s b (at_ + gap at_) = true then
      if midB s (at_ + gap at_) then (rd s true (at_ + gap at_ + 6 + pn s (at_ + gap at_))).map fun p => (pb s (at_ + gap at_) ++ p.1, p.2)
      else some (pb s (at_ + gap at_), at_ + gap at_ + 6 + pn s (at_ + gap at_))
    else none
  else none
termination_by s.length - at_
decreasing_by have := okP_len h; omega

theorem take_drop_split (s : List UInt8) (k n : Nat) : s.drop k = (s.drop k).take n ++ s.drop (k + n) := by
  rw [← List.drop_drop]; exact (List.take_append_drop n _).symm

theorem drop_two {s : List UInt8} {k : Nat} (h : k + 2 ≤ s.length) : (s.drop k).take 2 = [s.getD k 0, s.getD (k + 1) 0] := by
  rw [List.drop_eq_getElem_cons (show k < s.length by omega), List.drop_eq_getElem_cons (show k + 1 < s.length by omega)]
  rw [List.take_succ_cons, List.take_succ_cons, List.take_zero, List.getD_eq_getElem?_getD, List.getD_eq_getElem?_getD, List.getElem?_eq_getElem (show k < s.length by omega), List.getElem?_eq_getElem (show k + 1 < s.length by omega)]
  rfl

theorem ofNat_toNat8 (x : UInt8) : UInt8.ofNat x.toNat = x := by simp

theorem okP_pc {s : List UInt8} {b : Bool} {k : Nat} (h : okP s b k = true) : s.drop k = pc (pk s k) (pb s k) ++ s.drop (k + 6 + pn s k) ∧ (pb s k).length = pn s k := by
  have hl := okP_len h
  simp only [okP, Bool.and_eq_true] at h
  have hs : sumB s k = true := h.2
  have hlen : (pb s k).length = pn s k := by simp [pb]; omega
  refine ⟨?_, hlen⟩
  have e2 := drop_two (s := s) (k := k) (by omega)
  have e1 := take_drop_split s k 2
  have e3 := take_drop_split s (k + 2) 4
  have e4 := take_drop_split s (k + 2 + 4) (pn s k)
  simp only [sumB, beq_iff_eq] at hs
  rw [e2] at e1 hs
  rw [hs] at e3
  rw [e1, e3, e4]
  have : UInt8.ofNat (pb s k).length = s.getD (k + 1) 0 := by rw [hlen]; simp [pn]
  have h0 : UInt8.ofNat (pk s k) = s.getD k 0 := by simp [pk]
  simp only [pc, this, h0, List.cons_append, List.nil_append, List.append_assoc]
  rfl

theorem getD_of_drop {s t : List UInt8} {k : Nat} {x : UInt8} (h : s.drop k = x :: t) : s.getD k 0 = x ∧ k < s.length ∧ s.drop (k + 1) = t := by
  have hk : k < s.length := by
    have := congrArg List.length h
    simp at this; omega
  rw [List.drop_eq_getElem_cons hk] at h
  obtain ⟨h1, h2⟩ := List.cons.inj h
  exact ⟨by rw [List.getD_eq_getElem?_getD, List.getElem?_eq_getElem hk]; exact h1, hk, h2⟩

theorem pc_okP {s t bd : List UInt8} {b : Bool} {k kind : Nat} (h : s.drop k = pc kind bd ++ t) (h1 : 1 ≤ kind) (h4 : kind ≤ 4) (hb : b = (kind == 3 || kind == 4))
    (hl : 6 + bd.length ≤ 128 - k % 128) (hm : kind = 2 ∨ kind = 3 → 6 + bd.length = 128 - k % 128) (hz : kind ≠ 1 → bd.length ≠ 0) :
    okP s b k = true ∧ pk s k = kind ∧ pb s k = bd ∧ pn s k = bd.length ∧ s.drop (k + 6 + bd.length) = t := by
  have hbl : bd.length < 256 := by omega
  simp only [pc, List.cons_append] at h
  obtain ⟨g0, k0, h⟩ := getD_of_drop h
  obtain ⟨g1, k1, h⟩ := getD_of_drop h
  have hlen := congrArg List.length h
  simp at hlen
  have e4 : (s.drop (k + 1 + 1)).take 4 = tok4 (tok 1 (UInt8.ofNat kind :: UInt8.ofNat bd.length :: bd)) := by
    rw [h, List.append_assoc, List.take_left' (by simp)]
  have e6 : s.drop (k + 1 + 1 + 4) = bd ++ t := by
    rw [← List.drop_drop, h, List.append_assoc, List.drop_left' (by simp)]
  have p0 : pk s k = kind := by rw [pk, g0]; simp; omega
  have p1 : pn s k = bd.length := by rw [pn, g1]; simp; omega
  have p2 : pb s k = bd := by rw [pb, p1, show k + 6 = k + 1 + 1 + 4 from rfl, e6, List.take_left' rfl]
  have p3 : s.drop (k + 6 + bd.length) = t := by rw [← List.drop_drop, show k + 6 = k + 1 + 1 + 4 from rfl, e6, List.drop_left' rfl]
  refine ⟨?_, p0, p2, p1, p3⟩
  have hs : sumB s k = true := by
    simp only [sumB, beq_iff_eq]
    rw [drop_two (by omega), g0, g1, p2]
    exact e4
  simp only [okP, p0, p1, hs, hb, beq_self_eq_true, Bool.and_true, Bool.and_eq_true, decide_eq_true_eq, Bool.not_eq_true', Bool.and_eq_false_iff, bne_eq_false_iff_eq, beq_eq_false_iff_ne, Bool.or_eq_false_iff]
  refine ⟨⟨⟨⟨⟨⟨by omega, by omega⟩, by omega⟩, h1⟩, h4⟩, ?_⟩, ?_⟩
  · by_cases hk : kind = 2 ∨ kind = 3
    · exact .inr (hm hk)
    · left; omega
  · by_cases hk : kind = 1
    · exact .inl hk
    · exact .inr (hz hk)

theorem rd_of_put (s : List UInt8) : ∀ (m : Nat) (b : Bool) (at_ : Nat) (body t : List UInt8), body.length ≤ m → (b = true → body ≠ []) → s.drop at_ = sput b at_ body ++ t →
    rd s b at_ = some (body, at_ + (sput b at_ body).length) := by
  intro m
  induction m with
  | zero =>
    intro b at_ body t hm hb h
    obtain rfl : body = [] := List.eq_nil_of_length_eq_zero (by omega)
    have hb' : b = false := by cases b <;> simp_all
    subst hb'
    rw [sput_last (by simp)] at h ⊢
    have hg : s.drop (at_ + gap at_) = pc 1 [] ++ t := by rw [← List.drop_drop, h, List.append_assoc, List.drop_left' (by simp)]; rfl
    have hl := congrArg List.length h
    simp at hl
    have := room_left at_
    have hgap : gapOk s at_ = true := by
      simp only [gapOk, Bool.and_eq_true, decide_eq_true_eq, beq_iff_eq]
      exact ⟨by omega, by rw [h, List.append_assoc, List.take_left' (by simp)]⟩
    obtain ⟨o1, o2, o3, o4, o5⟩ := pc_okP (b := false) hg (by decide) (by decide) rfl (by simp; omega) (by simp) (by simp)
    rw [rd, if_pos hgap, dif_pos o1, o3, o4, if_neg (by simp [midB, o2])]
    simp [kindOf]; omega
  | succ m ih =>
    intro b at_ body t hm hb h
    have hroom := room_left at_
    have hrp := room_pos at_
    by_cases hr : body.length ≤ room at_
    · rw [sput_last hr] at h ⊢
      have hg : s.drop (at_ + gap at_) = pc (kindOf b true) body ++ t := by rw [← List.drop_drop, h, List.append_assoc, List.drop_left' (by simp)]
      have hl := congrArg List.length h
      simp at hl
      have hgap : gapOk s at_ = true := by
        simp only [gapOk, Bool.and_eq_true, decide_eq_true_eq, beq_iff_eq]
        exact ⟨by omega, by rw [h, List.append_assoc, List.take_left' (by simp)]⟩
      obtain ⟨o1, o2, o3, o4, o5⟩ := pc_okP (b := b) hg (by cases b <;> decide) (by cases b <;> decide) (by cases b <;> rfl) (by omega) (by cases b <;> simp [kindOf])
        (by cases b <;> simp [kindOf]; exact hb rfl)
      rw [rd, if_pos hgap, dif_pos o1, o3, o4, if_neg (by rw [midB, o2]; cases b <;> decide)]
      simp; omega
    · rw [sput_more hr] at h ⊢
      have hg : s.drop (at_ + gap at_) = pc (kindOf b false) (body.take (room at_)) ++ (sput true (at_ + gap at_ + (6 + room at_)) (body.drop (room at_)) ++ t) := by
        rw [← List.drop_drop, h, List.append_assoc, List.drop_left' (by simp), List.append_assoc]
      have hl := congrArg List.length h
      simp at hl
      have hgap : gapOk s at_ = true := by
        simp only [gapOk, Bool.and_eq_true, decide_eq_true_eq, beq_iff_eq]
        exact ⟨by omega, by rw [h, List.append_assoc, List.take_left' (by simp)]⟩
      have htl : (body.take (room at_)).length = room at_ := by simp; omega
      obtain ⟨o1, o2, o3, o4, o5⟩ := pc_okP (b := b) hg (by cases b <;> decide) (by cases b <;> decide) (by cases b <;> rfl) (by omega) (by omega) (by omega)
      rw [htl] at o4 o5
      have e : at_ + gap at_ + 6 + room at_ = at_ + gap at_ + (6 + room at_) := by omega
      rw [e] at o5
      have ih' := ih true (at_ + gap at_ + (6 + room at_)) (body.drop (room at_)) t (by simp; omega) (fun _ he => by have := congrArg List.length he; simp at this; omega) o5
      rw [rd, if_pos hgap, dif_pos o1, o3, o4, if_pos (by rw [midB, o2]; cases b <;> decide), e, ih']
      simp
      omega

theorem rd_some (s : List UInt8) : ∀ (m : Nat) (b : Bool) (at_ : Nat) (body : List UInt8) (e : Nat), s.length - at_ ≤ m → rd s b at_ = some (body, e) →
    (b = true → body ≠ []) ∧ s.drop at_ = sput b at_ body ++ s.drop e ∧ e = at_ + (sput b at_ body).length ∧ e ≤ s.length := by
  intro m
  induction m with
  | zero =>
    intro b at_ body e hm h
    rw [rd] at h
    by_cases hg : gapOk s at_ = true
    · rw [if_pos hg] at h
      by_cases ho : okP s b (at_ + gap at_) = true
      · have := okP_len ho; omega
      · rw [dif_neg ho] at h; cases h
    · rw [if_neg hg] at h; cases h
  | succ m ih =>
    intro b at_ body e hm h
    rw [rd] at h
    by_cases hg : gapOk s at_ = true
    · rw [if_pos hg] at h
      by_cases ho : okP s b (at_ + gap at_) = true
      · rw [dif_pos ho] at h
        have hl := okP_len ho
        obtain ⟨hpc, hpl⟩ := okP_pc ho
        simp only [gapOk, Bool.and_eq_true, decide_eq_true_eq, beq_iff_eq] at hg
        have hd0 := take_drop_split s at_ (gap at_)
        rw [hg.2] at hd0
        have hroom := room_left at_
        have ho' := ho
        simp only [okP, Bool.and_eq_true, decide_eq_true_eq, Bool.not_eq_true', beq_iff_eq] at ho'
        obtain ⟨⟨⟨⟨⟨⟨⟨⟨a1, a2⟩, a3⟩, a4⟩, a5⟩, a6⟩, a7⟩, a8⟩, a9⟩ := ho'
        by_cases hmid : midB s (at_ + gap at_) = true
        · rw [if_pos hmid] at h
          cases hr : rd s true (at_ + gap at_ + 6 + pn s (at_ + gap at_)) with
          | none => rw [hr] at h; cases h
          | some p =>
            obtain ⟨b2, e2⟩ := p
            rw [hr] at h
            simp only [Option.map_some, Option.some.injEq, Prod.mk.injEq] at h
            obtain ⟨rfl, rfl⟩ := h
            obtain ⟨i1, i2, i3, i4⟩ := ih true _ b2 e2 (by omega) hr
            have hn : 6 + pn s (at_ + gap at_) = 128 - (at_ + gap at_) % 128 := by
              simp only [midB] at hmid
              rw [hmid] at a7
              simpa using a7
            have hn' : pn s (at_ + gap at_) = room at_ := by omega
            have hb2 : b2.length ≠ 0 := fun hz => i1 rfl (List.eq_nil_of_length_eq_zero hz)
            have hgt : ¬ (pb s (at_ + gap at_) ++ b2).length ≤ room at_ := by simp [hpl]; omega
            have ek : pk s (at_ + gap at_) = kindOf b false := by
              simp only [midB, Bool.or_eq_true, beq_iff_eq] at hmid
              rcases hmid with hk | hk <;> rw [hk] at a6 ⊢ <;> rw [a6] <;> rfl
            have et : (pb s (at_ + gap at_) ++ b2).take (room at_) = pb s (at_ + gap at_) := List.take_left' (by omega)
            have ed : (pb s (at_ + gap at_) ++ b2).drop (room at_) = b2 := List.drop_left' (by omega)
            have ee : at_ + gap at_ + 6 + pn s (at_ + gap at_) = at_ + gap at_ + (6 + room at_) := by omega
            rw [ee] at i2 i3 hpc
            refine ⟨fun _ he => hb2 (by have := congrArg List.length he; simp at this; simp [this.2]), ?_, ?_, i4⟩
            · rw [sput_more hgt, et, ed, hd0, hpc, i2, ek]
              simp only [List.append_assoc]
            · rw [sput_more hgt, et, ed, i3]
              simp only [List.length_append, zer_length, pc_length, hpl]
              omega
        · rw [if_neg hmid] at h
          simp only [Option.some.injEq, Prod.mk.injEq] at h
          obtain ⟨rfl, rfl⟩ := h
          have hle : (pb s (at_ + gap at_)).length ≤ room at_ := by omega
          have ek : pk s (at_ + gap at_) = kindOf b true := by
            simp only [midB, Bool.or_eq_true, beq_iff_eq, not_or] at hmid
            have : pk s (at_ + gap at_) = 1 ∨ pk s (at_ + gap at_) = 4 := by omega
            rcases this with hk | hk <;> rw [hk] at a6 ⊢ <;> rw [a6] <;> rfl
          refine ⟨fun hb he => ?_, ?_, ?_, hl⟩
          · have hz : pn s (at_ + gap at_) = 0 := by rw [← hpl, he]; rfl
            subst hb
            rw [ek, hz] at a8
            simp [kindOf] at a8
          · rw [sput_last hle, hd0, hpc, ek, List.append_assoc]
          · rw [sput_last hle]; simp only [List.length_append, zer_length, pc_length, hpl]; omega
      · rw [dif_neg ho] at h; cases h
    · rw [if_neg hg] at h; cases h

theorem rd_spec {s : List UInt8} {b : Bool} {at_ e : Nat} {body : List UInt8} (h : rd s b at_ = some (body, e)) :
    (b = true → body ≠ []) ∧ s.drop at_ = sput b at_ body ++ s.drop e ∧ e = at_ + (sput b at_ body).length ∧ e ≤ s.length := rd_some s _ b at_ body e (Nat.le_refl _) h
theorem rd_put {s t : List UInt8} {at_ : Nat} {body : List UInt8} (h : s.drop at_ = sput false at_ body ++ t) : rd s false at_ = some (body, at_ + (sput false at_ body).length) :=
  rd_of_put s _ false at_ body t (Nat.le_refl _) nofun h

def scan (s : List UInt8) (at_ : Nat) : List (List UInt8) × Nat :=
  match h : rd s false at_ with
  | none => ([], at_)
  | some (b, e) => (b :: (scan s e).1, (scan s e).2)
termination_by s.length - at_
decreasing_by
  obtain ⟨_, _, h3, h4⟩ := rd_spec h
  have := sput_pos false at_ b
  omega
theorem scan_none {s : List UInt8} {at_ : Nat} (h : rd s false at_ = none) : scan s at_ = ([], at_) := by rw [scan, h]
theorem scan_some {s : List UInt8} {at_ e : Nat} {b : List UInt8} (h : rd s false at_ = some (b, e)) : scan s at_ = (b :: (scan s e).1, (scan s e).2) := by rw [scan, h]
theorem scan_le (s : List UInt8) : ∀ (m at_ : Nat), s.length - at_ ≤ m → at_ ≤ s.length → (scan s at_).2 ≤ s.length ∧ at_ ≤ (scan s at_).2 := by
  intro m
  induction m with
  | zero =>
    intro at_ hm ha
    cases h : rd s false at_ with
    | none => rw [scan_none h]; exact ⟨ha, Nat.le_refl _⟩
    | some p =>
      obtain ⟨b, e⟩ := p
      obtain ⟨_, _, h3, h4⟩ := rd_spec h
      have := sput_pos false at_ b
      omega
  | succ m ih =>
    intro at_ hm ha
    cases h : rd s false at_ with
    | none => rw [scan_none h]; exact ⟨ha, Nat.le_refl _⟩
    | some p =>
      obtain ⟨b, e⟩ := p
      obtain ⟨_, _, h3, h4⟩ := rd_spec h
      have := sput_pos false at_ b
      rw [scan_some h]
      have := ih e (by omega) h4
      exact ⟨this.1, by simp only; omega⟩

/-! ### Records one behind the other -/
def puts (n : Nat) : List (List UInt8) → List UInt8
  | [] => []
  | b :: l => sput false n b ++ puts (n + (sput false n b).length) l
theorem puts_append (n : Nat) : ∀ (l m : List (List UInt8)), puts n (l ++ m) = puts n l ++ puts (n + (puts n l).length) m := by
  intro l
  induction l generalizing n with
  | nil => intro m; simp [puts]
  | cons b l ih => intro m; simp only [List.cons_append, puts, ih, List.append_assoc, List.length_append, Nat.add_assoc]
theorem scan_puts (s : List UInt8) : ∀ (l : List (List UInt8)) (at_ : Nat) (t : List UInt8), s.drop at_ = puts at_ l ++ t →
    scan s at_ = (l ++ (scan s (at_ + (puts at_ l).length)).1, (scan s (at_ + (puts at_ l).length)).2) := by
  intro l
  induction l with
  | nil => intro at_ t _; simp [puts]
  | cons b l ih =>
    intro at_ t h
    simp only [puts, List.append_assoc] at h
    have h2 : s.drop (at_ + (sput false at_ b).length) = puts (at_ + (sput false at_ b).length) l ++ t := by
      rw [← List.drop_drop, h, List.drop_left' rfl]
    rw [scan_some (rd_put h), ih _ t h2]
    simp [puts, Nat.add_assoc]
/-- A record that is not whole is none. -/
theorem rd_cut {s t : List UInt8} {at_ : Nat} {body : List UInt8} (h : s.drop at_ ++ t = sput false at_ body) (ht : t ≠ []) (ha : at_ ≤ s.length) : rd s false at_ = none := by
  cases hr : rd s false at_ with
  | none => rfl
  | some p =>
    obtain ⟨b, e⟩ := p
    obtain ⟨_, h2, h3, h4⟩ := rd_spec hr
    exfalso
    have e1 : (s ++ t).drop at_ = sput false at_ body ++ [] := by rw [List.drop_append_of_le_length ha, h, List.append_nil]
    have e2 : (s ++ t).drop at_ = sput false at_ b ++ (s.drop e ++ t) := by rw [List.drop_append_of_le_length ha, h2, List.append_assoc]
    have r1 := rd_put e1
    have r2 := rd_put e2
    rw [r1] at r2
    simp only [Option.some.injEq, Prod.mk.injEq] at r2
    obtain ⟨rfl, _⟩ := r2
    have l1 := congrArg List.length h
    have l2 := congrArg List.length h2
    have : t.length ≠ 0 := fun hz => ht (List.eq_nil_of_length_eq_zero hz)
    simp at l1 l2
    omega
/-- So many of the records are whole in the first k bytes. -/
def wholes (n : Nat) (k : Nat) : List (List UInt8) → Nat
  | [] => 0
  | b :: l => if n + (sput false n b).length ≤ k then wholes (n + (sput false n b).length) k l + 1 else 0
theorem wholes_le (k : Nat) : ∀ (l : List (List UInt8)) (n : Nat), wholes n k l ≤ l.length
  | [], _ => Nat.le_refl _
  | b :: l, n => by
    have := wholes_le k l (n + (sput false n b).length)
    simp only [wholes]; split <;> simp <;> omega
theorem wholes_end (k : Nat) : ∀ (l : List (List UInt8)) (n : Nat), n ≤ k → n + (puts n (l.take (wholes n k l))).length ≤ k
  | [], n, h => by simpa [puts] using h
  | b :: l, n, h => by
    simp only [wholes]
    split
    · rename_i hle
      have := wholes_end k l (n + (sput false n b).length) hle
      simp only [List.take_succ_cons, puts, List.length_append]; omega
    · simpa [puts] using h
theorem scan_torn : ∀ (l : List (List UInt8)) (s : List UInt8) (n : Nat) (t : List UInt8), n ≤ s.length → s.drop n ++ t = puts n l →
    scan s n = (l.take (wholes n s.length l), n + (puts n (l.take (wholes n s.length l))).length) := by
  intro l
  induction l with
  | nil =>
    intro s n t hn h
    have : s.drop n = [] := by
      have := congrArg List.length h
      simp [puts] at this
      exact List.eq_nil_of_length_eq_zero (by simp; omega)
    have hr : rd s false n = none := by
      cases hr : rd s false n with
      | none => rfl
      | some p =>
        obtain ⟨b, e⟩ := p
        obtain ⟨_, h2, h3, h4⟩ := rd_spec hr
        rw [this] at h2
        have := sput_pos false n b
        have := congrArg List.length h2
        simp at this
        omega
    rw [scan_none hr]; simp [wholes, puts]
  | cons b l ih =>
    intro s n t hn h
    simp only [puts] at h
    by_cases hle : n + (sput false n b).length ≤ s.length
    · have h1 : s.drop n = sput false n b ++ s.drop (n + (sput false n b).length) := by
        have e := take_drop_split s n (sput false n b).length
        have : (s.drop n).take (sput false n b).length = sput false n b := by
          have e3 := congrArg (List.take (sput false n b).length) h
          rw [List.take_left' rfl, List.take_append_of_le_length (by simp; omega)] at e3
          exact e3
        rw [this] at e; exact e
      have h2 : s.drop (n + (sput false n b).length) ++ t = puts (n + (sput false n b).length) l := by
        rw [h1, List.append_assoc] at h
        exact List.append_cancel_left h
      rw [scan_some (rd_put h1), ih s _ t hle h2]
      simp [wholes, hle, puts, Nat.add_assoc]
    · have hr : rd s false n = none := by
        have e3 := congrArg (List.take (sput false n b).length) h
        rw [List.take_left' rfl, List.take_append] at e3
        rw [List.take_of_length_le (by simp; omega)] at e3
        refine rd_cut e3 (fun hz => ?_) hn
        have := congrArg List.length e3
        rw [hz] at this
        simp at this
        omega
      rw [scan_none hr]
      simp [wholes, hle, puts]
end Go.Proofs.YtcmgeccgahakbaaDoor

/- Plain laws on numbers and their bytes; no program. -/
namespace Go.Proofs.YtcmgeccgahakbaaDoor

theorem tmod_pos {v n : Int} (h : 1 ≤ n) : 0 ≤ v.tmod n → v.tmod n = v % n := by
  intro h0
  rw [Int.tmod_eq_emod] at *
  split at h0 <;> split <;> try omega
  have := Int.emod_nonneg v (show n ≠ 0 by omega)
  have := Int.emod_lt_of_pos v (show 0 < n by omega)
  omega
theorem tmod_neg {v n : Int} (h : 1 ≤ n) : v.tmod n < 0 → v.tmod n + n = v % n := by
  intro h0
  rw [Int.tmod_eq_emod] at *
  split at h0 <;> split <;> try omega
  have := Int.emod_nonneg v (show n ≠ 0 by omega)
  omega
theorem tmod_lo {v n : Int} (h : 1 ≤ n) : -n < v.tmod n ∧ v.tmod n < n := by
  rw [Int.tmod_eq_emod]
  have := Int.emod_nonneg v (show n ≠ 0 by omega)
  have := Int.emod_lt_of_pos v (show 0 < n by omega)
  split <;> omega

/-- So many bytes of a number, the greatest first. -/
def beB : Nat → Nat → List UInt8
  | 0, _ => []
  | k + 1, x => UInt8.ofNat (x / 256 ^ k) :: beB k x

theorem beB_length (k x : Nat) : (beB k x).length = k := by
  induction k with
  | zero => rfl
  | succ k ih => simp [beB, ih]

theorem beB_get {k x j : Nat} (h : j < k) : (beB k x)[j]? = some (UInt8.ofNat (x / 256 ^ (k - 1 - j))) := by
  induction k generalizing j with
  | zero => omega
  | succ k ih =>
    cases j with
    | zero => simp [beB]
    | succ j =>
      simp only [beB, List.getElem?_cons_succ]
      rw [ih (by omega)]
      congr 4
      omega

theorem byte_shift (x k : Nat) : UInt8.ofNat (((x : Int) / 2 ^ (8 * k) % 256).toNat) = UInt8.ofNat (x / 256 ^ k) := by
  have e : ((x : Int) / 2 ^ (8 * k) % 256).toNat = x / 256 ^ k % 256 := by
    rw [show (2 : Int) ^ (8 * k) = ((256 ^ k : Nat) : Int) by rw [Int.pow_mul]; simp]
    omega
  rw [e]
  apply UInt8.toNat.inj
  simp

/-- How many bits, how many bytes a number takes. -/
def bitsOf (x : Nat) : Nat := if x = 0 then 0 else Nat.log2 x + 1
def nlen (x : Nat) : Nat := (bitsOf x + 7) / 8

theorem bitsOf_lt (x : Nat) : x < 2 ^ bitsOf x := by
  unfold bitsOf
  split
  · omega
  · exact Nat.lt_log2_self
theorem bitsOf_le (x : Nat) (h : x ≠ 0) : 2 ^ (bitsOf x - 1) ≤ x := by
  unfold bitsOf
  rw [if_neg h]
  exact Nat.log2_self_le h
theorem bitsOf_unique {x n : Nat} (h1 : x < 2 ^ n) (h2 : n = 0 ∨ 2 ^ (n - 1) ≤ x) : bitsOf x = n := by
  by_cases hx : x = 0
  · subst hx
    rcases h2 with rfl | h2
    · rfl
    · have : 0 < 2 ^ (n - 1) := Nat.two_pow_pos _
      omega
  · have a := bitsOf_lt x
    have b := bitsOf_le x hx
    have hn : n ≠ 0 := by rintro rfl; simp at h1; exact hx h1
    have h2 : 2 ^ (n - 1) ≤ x := h2.resolve_left hn
    have hb : bitsOf x ≠ 0 := by unfold bitsOf; rw [if_neg hx]; omega
    have c : bitsOf x - 1 < n := (Nat.pow_lt_pow_iff_right (a := 2) (by omega)).1 (Nat.lt_of_le_of_lt b h1)
    have d : n - 1 < bitsOf x := (Nat.pow_lt_pow_iff_right (a := 2) (by omega)).1 (Nat.lt_of_le_of_lt h2 a)
    omega

theorem bitsOf_le64 {x : Nat} (h : x < 18446744073709551616) : bitsOf x ≤ 64 := by
  by_cases hx : x = 0
  · subst hx; simp [bitsOf]
  · have b := bitsOf_le x hx
    have : 2 ^ (bitsOf x - 1) < 2 ^ 64 := Nat.lt_of_le_of_lt b (by simpa using h)
    have := (Nat.pow_lt_pow_iff_right (a := 2) (by omega)).1 this
    omega

/-- A number's bytes: how many they are, and they. -/
def num (x : Nat) : List UInt8 := UInt8.ofNat (nlen x) :: beB (nlen x) x

/-- A text's bytes. -/
def esc : List UInt8 → List UInt8
  | [] => []
  | b :: l => if b = 0 then 0 :: 255 :: esc l else b :: esc l
theorem esc_append (l m : List UInt8) : esc (l ++ m) = esc l ++ esc m := by
  induction l with
  | nil => rfl
  | cons b l ih =>
    simp only [List.cons_append, esc, ih]
    split <;> simp
theorem esc_snoc (l : List UInt8) (b : UInt8) : esc (l ++ [b]) = esc l ++ if b = 0 then [0, 255] else [b] := by
  rw [esc_append]
  congr 1
theorem esc_length_le (l : List UInt8) : (esc l).length ≤ 2 * l.length := by
  induction l with
  | nil => simp [esc]
  | cons b l ih =>
    simp only [esc]
    split <;> simp <;> omega
def txt (l : List UInt8) : List UInt8 := esc l ++ [0, 1]
theorem txt_length_le (l : List UInt8) : (txt l).length ≤ 2 * l.length + 2 := by
  have := esc_length_le l
  simp [txt]
  omega
/-- A whole number's eight bytes (v, as the 64 bits that it is, and 2^63). -/
def int8 (v : Int) : List UInt8 := beB 8 ((v + 9223372036854775808) % 18446744073709551616).toNat
end Go.Proofs.YtcmgeccgahakbaaDoor

/- Appending bytes: the laws at this program's numbers. -/
namespace Go.Proofs.YtcmgeccgahakbaaDoor
open Go Go.RowKit

theorem info_u8 : (Tryd.prog.info? 5).map (fun i => (i.zero, i.size, i.bytes)) = some (some (.int .u8 0), 1, 1) := by kernel_rfl
theorem und_bytes : Tryd.prog.underlying 33 = some (.slice 5) := by kernel_rfl
theorem und_u8 : Tryd.prog.underlying 5 = some (.int .u8) := by kernel_rfl
theorem und_string : Tryd.prog.underlying 9 = some .string := by kernel_rfl

/-- A row of bytes that begins new from block B on. -/
def OwnB (w : World) (B : Nat) (v : Value) (l : List UInt8) : Prop := w.ownsRow B 5 1 v l.length (bcells l)
theorem OwnB.bytes {w : World} {B : Nat} {v : Value} {l : List UInt8} (h : OwnB w B v l) : BytesIn w v l := SliceIn.of_owns h
theorem OwnB.ext {w w' : World} {B : Nat} {v : Value} {l : List UInt8} (h : OwnB w B v l) (hE : Ext w w') : OwnB w' B v l := ownsRow_ext h hE
theorem OwnB.base {w : World} {B B' : Nat} {v : Value} {l : List UInt8} (h : OwnB w B v l) (hb : B' ≤ B) : OwnB w B' v l := ownsRow_base h hb

theorem byte_of {X : Int} (h0 : 0 ≤ X) (h1 : X < 256) : ((UInt8.ofNat X.toNat).toNat : Int) = X := by
  have : X.toNat < 256 := by omega
  rw [UInt8.toNat_ofNat_of_lt' this]
  omega

/-- A slice of bytes that may be appended to: a row of the call's own, or one without spare room. -/
def Tip (w : World) (B : Nat) (v : Value) (l : List UInt8) : Prop := OwnB w B v l ∨ ∃ ao, v = .slice ao l.length l.length ∧ BytesIn w v l
theorem Tip.own {w : World} {B : Nat} {v : Value} {l : List UInt8} (h : OwnB w B v l) : Tip w B v l := .inl h
theorem Tip.full {w : World} {B : Nat} {ao : Option Addr} {l : List UInt8} (h : BytesIn w (.slice ao l.length l.length) l) : Tip w B (.slice ao l.length l.length) l := .inr ⟨_, rfl, h⟩
theorem Tip.nil (w : World) (B : Nat) : Tip w B (.slice none 0 0) [] := .inl (World.ownsRow_nil w B _ _)
theorem Tip.ext {w w' : World} {B : Nat} {v : Value} {l : List UInt8} (h : Tip w B v l) (hE : Ext w w') : Tip w' B v l :=
  h.imp (fun h => h.ext hE) fun ⟨ao, e, h⟩ => ⟨ao, e, h.ext hE⟩
theorem Tip.bytes {w : World} {B : Nat} {v : Value} {l : List UInt8} (h : Tip w B v l) : BytesIn w v l := h.elim OwnB.bytes fun ⟨_, _, h⟩ => h

theorem cs1 {X : Int} (h0 : 0 ≤ X) (h1 : X < 256) : (#[Value.int .u8 X] : Array Value).toList = bcells [UInt8.ofNat X.toNat] := by
  simp only [bcells, List.map_cons, List.map_nil, byte_of h0 h1]
theorem csb (b : UInt8) : (#[Value.int .u8 (b.toNat : Int)] : Array Value).toList = bcells [b] := rfl

/-- 'append(b, x, ..)' of bytes: the world at hand is w with the new bytes laid. -/
theorem appB {ops : Array Oper} {rest : List Oper} {o : Oper} {a : Act} {Q : Exit → Act → World → Prop} (w : World) (hg : o.guard = none) (s x : Operand)
    (hop : o.op = Op.call { callee := Callee.builtin Builtin.append, args := #[s, x], argTypes := #[33, 33] })
    (w0 : World) (hE : Ext w0 w) (v : Value) (l : List UInt8) (cs : Array Value) (news : List UInt8) (hcs : cs.toList = bcells news) (hm : 0 < news.length) (hs : a.eval s = v) (hT : Tip w w0.heap.size v l)
    (m : Nat) (hx : a.eval x = .slice (some ⟨w.heap.size, 0, none⟩) m m) (hmn : m = news.length) (hb : l.length + news.length ≤ 140737488355328)
    (hK : ∀ v' w', OwnB w' w0.heap.size v' (l ++ news) → Ext w0 w' → wpList Tryd.prog ops Q rest (a.put o.dst v') w') : wpList Tryd.prog ops Q (o :: rest) a (w.alloc (.cells cs 5)) := by
  subst hmn
  obtain ⟨i0, hi, hz0, hz1, hz2⟩ := info_parts info_u8
  have hT := hT.ext ((Ext.refl w).alloc (.cells cs 5))
  have hn : (bcells news).length = news.length * 1 := by simp
  have hc : ∀ j u, (bcells news)[j]? = some u → (w.alloc (.cells cs 5)).cell? ((⟨w.heap.size, 0, none⟩ : Addr).add j) = some u := by
    intro j u hj
    rw [Addr.add_lit, Nat.zero_add, cell_of_row _ w.heap.size j cs 5 (0, 0) (heap_alloc_new w _)]
    rw [← hcs] at hj
    simpa using hj
  have h1c : ∀ u ∈ bcells news, u.oneCell' = true := by
    intro u hu
    simp only [bcells, List.mem_map] at hu
    obtain ⟨b, _, rfl⟩ := hu
    rfl
  rcases hT with hown | ⟨ao, rfl, hin⟩
  · refine wpList_append_own _ hg s x 33 hop w0.heap.size 5 i0 (.int .u8 0) 1 1 und_bytes hi hz0 hz1 hz2 rfl (by decide) v l.length (bcells l) hs hown ⟨w.heap.size, 0, none⟩ news.length news.length (bcells news) hx hn hc h1c (by unfold maxLen; omega) (by omega) (by have := hE.le; simp; omega) ?_
    intro v' w' h2 h3 _
    refine hK v' w' ?_ (Ext.grownOwn (hE.alloc _) hown (Nat.le_refl _) h3)
    unfold OwnB
    rw [List.length_append, bcells_append]
    exact h2
  · refine wpList_append_fresh _ hg s x 33 hop 5 i0 (.int .u8 0) 1 1 und_bytes hi hz0 hz1 hz2 rfl (by decide) ao l.length (bcells l) hs hin (by simp) ⟨w.heap.size, 0, none⟩ news.length news.length (bcells news) hx hn hc h1c hm (by unfold maxLen; omega) (by omega) ?_
    intro v' w' h2 h3
    refine hK v' w' ?_ ((hE.alloc _).grown h3 (by intro k hk; cases hk))
    unfold OwnB
    rw [List.length_append, bcells_append]
    exact ownsRow_base h2 (by have := hE.le; simp; omega)
end Go.Proofs.YtcmgeccgahakbaaDoor
