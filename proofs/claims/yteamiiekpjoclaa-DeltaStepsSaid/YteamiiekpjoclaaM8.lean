/- The walk over order.GetText. -/
import Derived.Test.YteamiiekpjoclaaM7
import Derived.Test.YteamiiekpjoclaaM2
import Derived.Test.YteamiiekpjoclaaM3
namespace Go.Proofs.Yteamiiekpjoclaa
open Go Go.RowKit
attribute [local go_sem] yields yUpon

/-- What is read of bytes as a text, 'acc' being read already, the first of them at place k. -/
def scanT : List UInt8 → List UInt8 → Nat → List UInt8 × Int × Int
  | _, [], _ => ([], 0, 8)
  | _, [_], _ => ([], 0, 8)
  | acc, b :: c :: r, k => if b = 0 then (if c = 255 then scanT (acc ++ [0]) r (k + 2) else if c = 1 then (acc, (k : Int) + 2, 0) else ([], 0, 6)) else scanT (acc ++ [b]) (c :: r) (k + 1)
def getTextN (l : List UInt8) (i : Nat) : List UInt8 × Int × Int := if l.length < i then ([], 0, 1) else scanT [] (l.drop i) i
def getText (l : List UInt8) (at_ : Int) : List UInt8 × Int × Int := if at_ < 0 then ([], 0, 1) else getTextN l at_.toNat
def tupT (p : List UInt8 × Int × Int) : Value := .tuple #[.string (str p.1), .int .i64 p.2.1, .int .i64 p.2.2]

theorem scan_end {acc l : List UInt8} {k : Nat} (h : l.length ≤ k) : scanT acc (l.drop k) k = ([], 0, 8) := by
  rw [List.drop_eq_nil_of_le h]
  rfl
theorem scan_byte {acc l : List UInt8} {k : Nat} (h : k < l.length) (hb : l[k] ≠ 0) : scanT acc (l.drop k) k = scanT (acc ++ [l[k]]) (l.drop (k + 1)) (k + 1) := by
  rw [List.drop_eq_getElem_cons h]
  cases hd : l.drop (k + 1) with
  | nil => rfl
  | cons c r => rw [scanT, if_neg hb]
theorem scan_short {acc l : List UInt8} {k : Nat} (h : k < l.length) (he : k + 1 = l.length) : scanT acc (l.drop k) k = ([], 0, 8) := by
  rw [List.drop_eq_getElem_cons h, List.drop_eq_nil_of_le (by omega)]
  rfl
theorem scan_two {acc l : List UInt8} {k : Nat} (h : k + 1 < l.length) (hb : l[k] = 0) : scanT acc (l.drop k) k = if l[k + 1] = 255 then scanT (acc ++ [0]) (l.drop (k + 2)) (k + 2) else if l[k + 1] = 1 then (acc, (k : Int) + 2, 0) else ([], 0, 6) := by
  rw [List.drop_eq_getElem_cons (show k < l.length by omega), List.drop_eq_getElem_cons h, scanT, if_pos hb]
theorem tupT_ret {l : List UInt8} {at_ : Int} {x : ByteArray} {y z : Int} {t : List UInt8} (h : getText l at_ = (t, y, z)) (hx : x = str t) : Ending.returned (.tuple #[.string x, .int .i64 y, .int .i64 z]) = .returned (tupT (getText l at_)) := by rw [h, hx]; rfl
theorem byte_eq {b c : UInt8} (h : b = c) : ((b.toNat : Int) == (c.toNat : Int)) = true := by rw [h]; simp
theorem byte_ne {b c : UInt8} (h : b ≠ c) : ((b.toNat : Int) == (c.toNat : Int)) = false := by
  simp only [beq_eq_false_iff_ne]
  intro he
  exact h (UInt8.toNat_inj.1 (by omega))

set_option maxHeartbeats 2000000 in
theorem getText_any (v : Value) (l : List UInt8) (at_ : Int) (w : World) (hv : BytesIn w v l) (hl : l.length ≤ 140737488000000) :
    Calls Try.prog 63 #[v, .int .i64 at_] w fun e w' => e = .returned (tupT (getText l at_)) ∧ Ext w w' := by
  obtain ⟨a, c, rfl, hc, hcm, ha, hcell⟩ := hv
  unfold maxLen at hcm
  by_cases h0 : at_ < 0
  · have d0 : decide (at_ < 0) = true := by simpa using h0
    clear hcell ha
    go_enter Try.func63, Try.ntmps63
    go_wp2
    go_ret3
    refine ⟨tupT_ret (t := []) ?_ (by rfl), Ext.refl w⟩
    unfold getText
    rw [if_pos h0]
  · have d0 : decide (at_ < 0) = false := by simpa using h0
    obtain ⟨i, rfl⟩ : ∃ i : Nat, at_ = i := ⟨at_.toNat, by omega⟩
    have EN : Hid (getText l (i : Int) = getTextN l i) := by unfold getText; rw [if_neg h0]; rfl
    by_cases h1 : l.length < i
    · have d1 : decide ((l.length : Int) < (i : Int)) = true := by simpa using h1
      clear hcell ha
      go_enter Try.func63, Try.ntmps63
      go_wp2
      go_ret3
      refine ⟨tupT_ret (t := []) ?_ (by rfl), Ext.refl w⟩
      rw [EN.out]
      unfold getTextN
      rw [if_pos h1]
    · have d1 : decide ((l.length : Int) < (i : Int)) = false := by simpa using h1
      have EN2 : Hid (getText l (i : Int) = scanT [] (l.drop i) i) := EN.out.trans (by unfold getTextN; rw [if_neg h1])
      have HC := Lib.hid hcell
      clear hcell ha EN
      go_enter Try.func63, Try.ntmps63
      go_wp2
      go_loopw [8] (fun n wr => ∃ (k : Nat) (acc : List UInt8), k ≤ l.length ∧ n = .int .i64 k ∧ acc.length ≤ k ∧ Lib.IsBuilder 130 5 w.heap.size w.heap.size (Lib.byteCells acc) wr ∧ Ext w wr ∧ Hid (getText l (i : Int) = scanT acc (l.drop k) k)) (fun n _ => l.length - (intOf n).toNat)
      case atStart => 
        refine ⟨i, [], by omega, rfl, Nat.zero_le _, .inl ⟨Nat.le_refl _, .slice none 0 0, heap_alloc_new w _, World.ownsRow_nil _ _ _ _, by simp [Value.ownBlock]⟩, (Ext.refl w).alloc _, EN2⟩
      case round =>
        obtain ⟨k, acc, hk, rfl, hacc, hB, hE, hS⟩ := hrel
        have hacc' : (Lib.byteCells acc).length = acc.length := by simp [Lib.byteCells]
        by_cases hlt : k < l.length
        · obtain ⟨b, o, rfl, hb⟩ := HC.out k (.int .u8 l[k].toNat) (by simp [bcells, hlt])
          replace hb := hE.cell hb
          by_cases hz : l[k] = 0
          · have z0 : ((l[k].toNat : Int) == 0) = true := byte_eq (c := 0) hz
            by_cases he : k + 1 = l.length
            · have e0 : ((k : Int) + 1 == (l.length : Int)) = true := by simp; omega
              have HR := Lib.hid (hS.out.trans (scan_short hlt he))
              clear hz hS he
              go_wp2
              go_ret3
              refine ⟨tupT_ret (t := []) ?_ (by rfl), hE⟩
              exact HR.out
            · have e0 : ((k : Int) + 1 == (l.length : Int)) = false := by simp; omega
              have h2 : k + 1 < l.length := by omega
              obtain ⟨b1, o1, e1, hb1⟩ := HC.out (k + 1) (.int .u8 l[k + 1].toNat) (by simp [bcells, h2])
              cases e1
              replace hb1 := hE.cell hb1
              have HT := Lib.hid (hS.out.trans (scan_two h2 hz))
              clear hz hS
              by_cases h255 : l[k + 1] = 255
              · have y0 : ((l[k + 1].toNat : Int) == 255) = true := byte_eq (c := 255) h255
                have HS2 : Hid (getText l (i : Int) = scanT (acc ++ [0]) (l.drop (k + 2)) (k + 2)) := HT.out.trans (by rw [if_pos h255])
                clear h255
                go_wp2_with fail
                refine (writeByte_any _ _ _ _ _ hB (by omega) hE.le).mono ?_
                rintro e w2 ⟨rfl, hB2, hE2⟩
                go_wp2
                go_roundw
                case rel => exact ⟨k + 2, acc ++ [0], by omega, by go_num, by simp; omega, .inr (by simpa [Lib.byteCells] using hB2), Below.trans hE hE2, HS2⟩
                case measure => simp [intOf] <;> omega
              · have y0 : ((l[k + 1].toNat : Int) == 255) = false := byte_ne (c := 255) h255
                by_cases hone : l[k + 1] = 1
                · have y1 : ((l[k + 1].toNat : Int) == 1) = true := byte_eq (c := 1) hone
                  have HR := Lib.hid (HT.out.trans (by rw [if_neg h255, if_pos hone]))
                  clear h255 hone HT
                  go_wp2_with fail
                  refine (Try.Builder_String_any _ _ _ _ hB hE.le).mono ?_
                  rintro e w2 ⟨rfl, hE2⟩
                  go_wp2
                  go_ret3
                  refine ⟨tupT_ret (t := acc) ?_ (by rfl), Below.trans hE hE2⟩
                  rw [HR.out]
                  simp
                  try omega
                · have y1 : ((l[k + 1].toNat : Int) == 1) = false := byte_ne (c := 1) hone
                  have HR := Lib.hid (HT.out.trans (by rw [if_neg h255, if_neg hone]))
                  clear h255 hone HT
                  go_wp2
                  go_ret3
                  refine ⟨tupT_ret (t := []) ?_ (by rfl), hE⟩
                  exact HR.out
          · have z0 : ((l[k].toNat : Int) == 0) = false := byte_ne (c := 0) hz
            have HS2 : Hid (getText l (i : Int) = scanT (acc ++ [l[k]]) (l.drop (k + 1)) (k + 1)) := hS.out.trans (scan_byte hlt hz)
            clear hz hS
            go_wp2_with fail
            refine (writeByte_any _ _ _ _ _ hB (by omega) hE.le).mono ?_
            rintro e w2 ⟨rfl, hB2, hE2⟩
            go_wp2
            go_roundw
            case rel => exact ⟨k + 1, acc ++ [l[k]], by omega, by go_num, by simp; omega, .inr (by simpa [Lib.byteCells] using hB2), Below.trans hE hE2, HS2⟩
            case measure => simp [intOf] <;> omega
        · go_wp2
          go_ret3
          refine ⟨tupT_ret (t := []) ?_ (by rfl), hE⟩
          rw [hS.out, scan_end (by omega)]
end Go.Proofs.Yteamiiekpjoclaa

/- The reference's text: clerestoryref02.Text. -/
namespace Go.Proofs.Yteamiiekpjoclaa
open Go Go.RowKit
attribute [local go_sem] yields yUpon

theorem str_snoc (acc : List UInt8) (s : ByteArray) (k : Nat) (h : k < s.size) : str acc ++ s.extract k (k + 1) = str (acc ++ [s.data.toList[k]'h]) := by
  apply ByteArray.ext
  simp only [ByteArray.data_append, ByteArray.data_extract, str]
  apply Array.toList_inj.1
  simp
  rw [List.drop_eq_getElem_cons (by simpa using h)]
  rfl

set_option maxHeartbeats 400000 in
theorem r2text_any (s : ByteArray) (w : World) (hl : s.size ≤ 100000000) :
    Calls Try.prog 52 #[.string s] w fun e w' => e = .returned (.string (str (txt s.data.toList))) ∧ w = w' := by
  go_enter Try.func52, Try.ntmps52
  go_wp2
  go_loop [3, 4] (fun t n => ∃ (k : Nat), k ≤ s.size ∧ n = .int .i64 k ∧ t = .string (str (esc (s.data.toList.take k)))) (fun _ n => s.size - (intOf n).toNat)
  case atStart => exact ⟨0, by omega, rfl, rfl⟩
  case round =>
    obtain ⟨k, hk, rfl, rfl⟩ := hrel
    have hle : (esc (s.data.toList.take k)).length ≤ 2 * k := Nat.le_trans (esc_length_le _) (by simp; omega)
    have q1 : ¬ 9223372036854775807 < (esc (s.data.toList.take k)).length + (min (k + 1) s.size - k) := by omega
    have q2 : ¬ 9223372036854775807 < (esc (s.data.toList.take k)).length + 2 := by omega
    have q3 : ¬ 9223372036854775807 < (esc (s.data.toList.take k)).length + (min (k + 1) s.size - k) + 1 := by omega
    by_cases hlt : k < s.size
    · have hts : Hid (esc (s.data.toList.take (k + 1)) = esc (s.data.toList.take k) ++ if s[k] = 0 then [0, 255] else [s[k]]) := by
        rw [← esc_snoc]
        congr 1
        exact List.take_succ_eq_append_getElem (by simpa using hlt)
      have hsn := Lib.hid (str_snoc (esc (s.data.toList.take k)) s k hlt)
      by_cases hz : s[k] = 0
      · have z0 : ((s[k].toNat : Int) == 0) = true := byte_eq (c := 0) hz
        have HZ := Lib.hid hz
        clear hz
        go_wp2
        go_round
        case rel =>
          refine ⟨k + 1, by omega, by go_num, ?_⟩
          rw [hsn.out, hts.out, if_pos HZ.out]
          rw [show s.data.toList[k] = 0 from HZ.out, show (⟨#[255]⟩ : ByteArray) = str [255] from rfl, str_app, List.append_assoc]
          rfl
        case measure => simp [intOf] <;> omega
      · have z0 : ((s[k].toNat : Int) == 0) = false := byte_ne (c := 0) hz
        have HZ := Lib.hid hz
        clear hz
        go_wp2
        go_round
        case rel =>
          refine ⟨k + 1, by omega, by go_num, ?_⟩
          rw [hsn.out, hts.out, if_neg HZ.out]
          rfl
        case measure => simp [intOf] <;> omega
    · go_wp2
      go_ret
      refine ⟨?_, rfl⟩
      refine ret_str ?_
      rw [show (⟨#[0, 1]⟩ : ByteArray) = str [0, 1] from rfl, str_app, List.take_of_length_le (by simpa using hlt)]
      rfl
end Go.Proofs.Yteamiiekpjoclaa

/- Which columns a view has: slices.Index, Contains at names, picker.not, slices.IndexFunc over columns. -/
namespace Go.Proofs.Yteamiiekpjoclaa
open Go Go.RowKit
attribute [local go_sem] yields yUpon

def StrsIn (w : World) (v : Value) (l : List ByteArray) : Prop := SliceIn w v l.length (l.map Value.string)
theorem StrsIn.ext {w w' : World} (hE : Ext w w') {v : Value} {l : List ByteArray} (h : StrsIn w v l) : StrsIn w' v l := SliceIn.ext hE h
theorem StrsIn.get {w : World} {v : Value} {l : List ByteArray} (h : StrsIn w v l) : ∃ a c, v = .slice a l.length c ∧ l.length ≤ c ∧ c ≤ 9223372036854775807 ∧ ∀ k (hk : k < l.length), ∃ b o, a = some ⟨b, o, none⟩ ∧ w.cell? ⟨b, o + k, none⟩ = some (.string l[k]) := by
  obtain ⟨a, c, rfl, hc, hcm, ha, hcell⟩ := h
  unfold maxLen at hcm
  exact ⟨a, c, rfl, hc, by omega, fun k hk => hcell k _ (by simp [hk])⟩
def hasS (l : List ByteArray) (x : ByteArray) : Bool := l.any fun s => x.toList == s.toList

set_option maxRecDepth 100000 in
set_option maxHeartbeats 1000000 in
theorem index_any (v : Value) (l : List ByteArray) (x : ByteArray) (w : World) (hin : StrsIn w v l) :
    Calls Try.prog 125 #[v, .string x] w fun e w' => ∃ i : Int, e = .returned (.int .i64 i) ∧ w = w' ∧ decide (0 ≤ i) = hasS l x := by
  obtain ⟨a, c, rfl, hc, hcm, hcell⟩ := hin.get
  have HC := Lib.hid hcell
  clear hcell hin
  go_enter Try.func125, Try.ntmps125
  go_wp2
  go_loop [8] (fun i => ∃ k : Nat, k ≤ l.length ∧ i = .int .i64 k ∧ Hid (hasS l x = hasS (l.drop k) x)) (fun i => l.length - (intOf i).toNat)
  case atStart => exact ⟨0, Nat.zero_le _, rfl, rfl⟩
  case round =>
    obtain ⟨k, hk, rfl, HX⟩ := hrel
    by_cases hlt : k < l.length
    · obtain ⟨b, o, rfl, hco⟩ := HC.out k hlt
      have hD : hasS (l.drop k) x = ((x.toList == l[k].toList) || hasS (l.drop (k + 1)) x) := by
        unfold hasS; rw [List.drop_eq_getElem_cons hlt]; rfl
      have HD := Lib.hid (HX.out.trans hD)
      clear hD HX
      cases hq : (x.toList == l[k].toList)
      · go_wp2_with fail
        go_round
        case rel => exact ⟨k + 1, by omega, by go_num, HD.out.trans (by rw [hq]; rfl)⟩
        case measure => simp [intOf] <;> omega
      · go_wp2_with fail
        go_ret
        exact ⟨_, rfl, rfl, (decide_eq_true (by omega)).trans (HD.out.trans (by rw [hq]; rfl)).symm⟩
    · go_wp2_with fail
      go_ret
      exact ⟨_, rfl, rfl, by rw [HX.out, List.drop_eq_nil_of_le (by omega)]; rfl⟩

set_option maxHeartbeats 1000000 in
theorem contains_any (v : Value) (l : List ByteArray) (x : ByteArray) (w : World) (hin : StrsIn w v l) :
    Calls Try.prog 118 #[v, .string x] w fun e w' => e = .returned (.bool (hasS l x)) ∧ w = w' := by
  obtain ⟨a, c, rfl, hc, hcm, _⟩ := hin.get
  go_enter Try.func118, Try.ntmps118
  go_wp2_with fail
  refine (index_any _ l x _ hin).mono ?_
  rintro e w1 ⟨i, rfl, rfl, hi⟩
  cases hb : hasS l x
  all_goals
    rw [hb] at hi
    have HB := Lib.hid hb
    clear hb
    go_wp2
    go_ret
    exact ⟨ret_bool HB.out.symm, rfl⟩

set_option maxHeartbeats 1000000 in
theorem not_any (v : Value) (l : List ByteArray) (c : Co) (w : World) (hin : StrsIn w v l) :
    Calls Try.prog 110 #[v, .agg #[.string c.name, .string c.cell.val, .bool c.cell.dead, .int .i64 c.cell.at_, .int .i64 c.cell.fin]] w fun e w' => e = .returned (.bool (!hasS l c.name)) ∧ Ext w w' := by
  obtain ⟨a, cp, rfl, hc, hcm, _⟩ := hin.get
  go_enter Try.func110, Try.ntmps110
  go_wp2_with fail
  refine (contains_any _ l c.name _ (hin.ext ((Ext.refl w).alloc _))).mono ?_
  rintro e w1 ⟨rfl, rfl⟩
  cases hb : hasS l c.name
  all_goals
    have HB := Lib.hid hb
    clear hb
    go_wp2
    go_ret
    exact ⟨ret_bool (by rw [HB.out]; rfl), (Ext.refl w).alloc _⟩

/-- A view's predicate, as it is handed on: struck is what is none of the names. -/
def strikes (l : List ByteArray) (c : Co) : Bool := !hasS l c.name
set_option maxRecDepth 100000 in
set_option maxHeartbeats 2000000 in
theorem indexFunc_any (v : Value) (l : List Co) (nv : Value) (ns : List ByteArray) (w : World) (hin : ColsIn w v l) (hns : StrsIn w nv ns) :
    Calls Try.prog 119 #[v, .func (.func 110) #[nv] #[]] w fun e w' => ∃ i : Int, e = .returned (.int .i64 i) ∧ Ext w w' ∧ ((i = -1 ∧ l.all (fun c => !strikes ns c) = true) ∨ ∃ k : Nat, i = k ∧ ∃ hk : k < l.length, strikes ns l[k] = true ∧ (l.take k).all (fun c => !strikes ns c) = true) := by
  obtain ⟨a, c, rfl, hc, hcm, hcell⟩ := hin.get
  have HC := Lib.hid hcell
  clear hcell hin
  go_enter Try.func119, Try.ntmps119
  go_wp2
  go_loopw [8] (fun i wr => ∃ k : Nat, k ≤ l.length ∧ i = .int .i64 k ∧ Ext w wr ∧ Hid ((l.take k).all (fun c => !strikes ns c) = true)) (fun i _ => l.length - (intOf i).toNat)
  case atStart => exact ⟨0, Nat.zero_le _, rfl, Ext.refl w, rfl⟩
  case round =>
    obtain ⟨k, hk, rfl, hE, HX⟩ := hrel
    by_cases hlt : k < l.length
    · obtain ⟨b, o, rfl, hco⟩ := HC.out k hlt
      obtain ⟨M, hM⟩ : ∃ M, M = l[k] := ⟨_, rfl⟩
      rw [← hM] at hco
      have hT : (l.take (k + 1)).all (fun c => !strikes ns c) = ((l.take k).all (fun c => !strikes ns c) && !strikes ns M) := by
        rw [List.take_succ_eq_append_getElem hlt, List.all_append, hM]; simp
      have HT := Lib.hid hT
      have HM := Lib.hid hM
      clear hT hM
      replace hco := hco.ext hE
      obtain ⟨g0, g1, g2, g3, g4⟩ := hco
      go_wp2_with fail
      refine (not_any nv ns M _ (hns.ext hE)).mono ?_
      rintro e w1 ⟨rfl, hE1⟩
      cases hb : hasS ns M.name
      all_goals
        have HB := Lib.hid hb
        clear hb g0 g1 g2 g3 g4
        go_wp2_with fail
      · go_ret
        exact ⟨_, rfl, hE.trans hE1, .inr ⟨k, rfl, hlt, by rw [← HM.out]; unfold strikes; rw [HB.out]; rfl, HX.out⟩⟩
      · go_roundw
        case rel => exact ⟨k + 1, by omega, by go_num, hE.trans hE1, HT.out.trans (by rw [HX.out]; unfold strikes; rw [HB.out]; rfl)⟩
        case measure => simp [intOf] <;> omega
    · obtain rfl : k = l.length := by omega
      go_wp2_with fail
      go_ret
      exact ⟨_, rfl, hE, .inl ⟨rfl, by have := HX.out; rw [List.take_length] at this; exact this⟩⟩
end Go.Proofs.Yteamiiekpjoclaa
