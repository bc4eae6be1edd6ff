/- The walk over order.Text. -/
import Derived.Test.YtolkhjdododdaaaGreatDoorP5
import Derived.Test.YtolkhjdododdaaaGreatDoorP1
import Derived.Test.YtolkhjdododdaaaGreatDoorP13
import Derived.Shelf.Strings.Builder1
import Derived.Shelf.Small.Strs
import Derived.Shelf.Small.Wraps
import Derived.Shelf.Strings.BuilderF
import Derived.Shelf.Strings.BuilderK
import Derived.Shelf.Strconv.Itoa0
import Derived.Shelf.Strings.BuilderCap
import Derived.Test.YtolkhjdododdaaaGreatDoorProg
import Derived.Lib.Builder
import Derived.Laws.Externs
import Derived.WalkKit
import Derived.WalkSpells
import Derived.Test.YtolkhjdododdaaaGreatDoorP2
set_option linter.unusedSimpArgs false
set_option linter.unusedVariables false
namespace Go.Proofs.YtolkhjdododdaaaGreatDoor
open Go Go.RowKit

theorem cs255 : (#[Value.int .u8 255] : Array Value).toList = bcells [255] := rfl
theorem cs01 : (#[Value.int .u8 0, Value.int .u8 1] : Array Value).toList = bcells [0, 1] := rfl
theorem take_snoc (s : ByteArray) (k : Nat) (h : k < s.size) : s.data.toList.take (k + 1) = s.data.toList.take k ++ [s[k]] := by
 rw [List.take_succ_eq_append_getElem (by simpa using h)]; rfl

theorem text_zero {w w0 : World} {v : Value} {l : List UInt8} {s : ByteArray} {k : Nat} {b : UInt8} (h1 : s.data.toList.take (k + 1) = s.data.toList.take k ++ [b])
  (h2 : esc (s.data.toList.take k ++ [b]) = esc (s.data.toList.take k) ++ if b = 0 then [0, 255] else [b]) (hz : ((b.toNat : Int) == 0) = true) (h : OwnB w w0.heap.size v (l ++ esc (s.data.toList.take k) ++ [b] ++ [255])) :
  OwnB w w0.heap.size v (l ++ esc (s.data.toList.take (k + 1))) := by
 have hb : b = 0 := by apply UInt8.toNat.inj; have := beq_iff_eq.1 hz; simpa using this
 subst hb
 rw [h1, h2]
 simpa using h
theorem text_other {w w0 : World} {v : Value} {l : List UInt8} {s : ByteArray} {k : Nat} {b : UInt8} (h1 : s.data.toList.take (k + 1) = s.data.toList.take k ++ [b])
  (h2 : esc (s.data.toList.take k ++ [b]) = esc (s.data.toList.take k) ++ if b = 0 then [0, 255] else [b]) (hz : ((b.toNat : Int) == 0) = false) (h : OwnB w w0.heap.size v (l ++ esc (s.data.toList.take k) ++ [b])) :
  OwnB w w0.heap.size v (l ++ esc (s.data.toList.take (k + 1))) := by
 have hb : b ≠ 0 := by rintro rfl; simp at hz
 rw [h1, h2, if_neg hb]
 simpa using h

set_option maxHeartbeats 400000 in
theorem text_any (v : Value) (l : List UInt8) (s : ByteArray) (w : World) (hv : BytesIn w v l) (hl : l.length + 2 * s.size + 2 ≤ 140737488355328) :
  Calls Tryz.prog 108 #[v, .string s] w fun e w' => ∃ v', e = .returned v' ∧ OwnB w' w.heap.size v' (l ++ txt s.data.toList) ∧ Ext w w' := by
 obtain ⟨a, c, rfl, hc, hcm, ha, hcell⟩ := hv
 have hv : BytesIn w (.slice a l.length l.length) l := ⟨a, l.length, rfl, Nat.le_refl _, Nat.le_trans hc hcm, fun h => by have := ha h; omega, hcell⟩
 clear hcell ha
 go_enter Tryz.func108, Tryz.ntmps108
 go_wp2_with (go_at_call 118; refine (own_any _ _ _ hc hcm _).mono ?_; rintro e w' ⟨rfl, rfl⟩)
 clear hc hcm
 go_loopw [0, 10] (fun v n wr => ∃ k : Nat, k ≤ s.size ∧ n = .int .i64 k ∧ Tip wr w.heap.size v (l ++ esc (s.data.toList.take k)) ∧ Ext w wr) (fun _ n _ => s.size - (intOf n).toNat)
 case atStart => exact ⟨0, Nat.zero_le _, rfl, by simpa [esc] using Tip.full hv, Ext.refl w⟩
 case round =>
  obtain ⟨k, hk, rfl, hown, hE⟩ := hrel
  have hlen : (esc (s.data.toList.take k)).length ≤ 2 * k := Nat.le_trans (esc_length_le _) (by simp; omega)
  by_cases hlt : k < s.size
  ·have hsn := Lib.hid (esc_snoc (s.data.toList.take k) s[k])
   have hts := Lib.hid (take_snoc s k hlt)
   go_wp2_with (first
    | (at_builtin; refine appB wr rfl (.tmp 13) (.tmp 17) rfl w hE _ _ _ _ (csb _) (by simp) rfl hown _ rfl rfl (by simp; omega) ?_; intro v2 w2 hown2 hE2)
    | (at_builtin; go_must (refine appB _ rfl (.tmp 23) (.tmp 24) rfl w hE2 _ _ _ [255] cs255 (by simp) rfl (Tip.own hown2) _ rfl rfl (by simp; omega) ?_); intro v3 w3 hown3 hE3))
   ·have hz : ((s[k].toNat : Int) == 0) = true := by assumption
    go_roundw
    case rel => exact ⟨k + 1, by omega, by go_num, Tip.own (text_zero hts.out hsn.out hz hown3), hE3⟩
    case measure => simp [intOf] <;> omega
   ·have hz : ((s[k].toNat : Int) == 0) = false := by assumption
    go_roundw
    case rel => exact ⟨k + 1, by omega, by go_num, Tip.own (text_other hts.out hsn.out hz hown2), hE2⟩
    case measure => simp [intOf] <;> omega
  ·go_wp2_with (at_builtin; go_must (refine appB wr rfl (.tmp 27) (.tmp 28) rfl w hE _ _ _ [0, 1] cs01 (by simp) rfl hown _ rfl rfl (by simp; omega) ?_); intro v3 w3 hown3 hE3)
   go_ret
   exact ⟨_, rfl, by rw [List.take_of_length_le (by simp; omega), List.append_assoc] at hown3; exact hown3, hE3⟩

theorem Text_nil (s : ByteArray) (w : World) (hl : 2 * s.size + 2 ≤ 140737488355328) :
  Calls Tryz.prog 108 #[.slice none 0 0, .string s] w fun e w' => ∃ v', e = .returned v' ∧ OwnB w' w.heap.size v' (txt s.data.toList) ∧ Ext w w' := by
 simpa using text_any _ [] s w (SliceIn.nil _) (by simpa using hl)

end Go.Proofs.YtolkhjdododdaaaGreatDoor

/- Contracts of the library, laid at this program: each is one application of a theorem of the shelf (the text is the tool's, its numbers by name). -/
namespace Go.Proofs
open Go.Shelf
def Tryz.lays169_ren : Go.Shelf.Ren := ⟨fun | 169 => 90 | n => n, fun | 70 => 132 | 9 => 9 | 0 => 0 | 72 => 134 | 37 => 108 | 127 => 142 | 3 => 3 | 5 => 5 | n => n, fun | n => n⟩
theorem Tryz.lays169 : Go.Proofs.Lays.n169 Tryz.prog Tryz.lays169_ren := {
 mixed := by kernel_rfl
 f169 := Tryz.func90.trans (congrArg some (by kernel_rfl))
 t0 := Tryz.underlying0
 a0 := Tryz.isAgg0
 z0 := Tryz.sizeOf0
 v0 := Tryz.zeroValue0
 t3 := Tryz.underlying3
 a3 := Tryz.isAgg3
 z3 := Tryz.sizeOf3
 v3 := Tryz.zeroValue3
 t9 := Tryz.underlying9
 a9 := Tryz.isAgg9
 z9 := Tryz.sizeOf9
 v9 := Tryz.zeroValue9
 t37 := Tryz.underlying108
 a37 := Tryz.isAgg108
 z37 := Tryz.sizeOf108
 v37 := Tryz.zeroValue108
 t70 := Tryz.underlying132
 a70 := Tryz.isAgg132
 z70 := Tryz.sizeOf132
 v70 := Tryz.zeroValue132
 t72 := Tryz.underlying134
 a72 := Tryz.isAgg134
 z72 := Tryz.sizeOf134
 v72 := Tryz.zeroValue134
 t127 := Tryz.underlying142
 a127 := Tryz.isAgg142
 z127 := Tryz.sizeOf142
 v127 := Tryz.zeroValue142 }
theorem Tryz.Builder_Extra_169 : Builder.Extra Tryz.prog Tryz.lays169_ren := {
 sizeBuilder := by kernel_rfl
 liesBuilder := by kernel_rfl
 t5 := Tryz.underlying5
 a5 := Tryz.isAgg5
 z5 := Tryz.sizeOf5
 v5 := Tryz.zeroValue5
 infoByte := by kernel_rfl
 cellsByte := by kernel_rfl
 sizeByte := by kernel_rfl
 neB5 := by decide }
open Go.RowKit in
theorem Tryz.Builder_String_any (B b : Nat) (l : List UInt8) (w : World) (h : Lib.IsBuilder 134 5 B b (Lib.byteCells l) w) (hBw : B ≤ w.heap.size) :
  Calls Tryz.prog 90 #[.pointer (some ⟨b, 0, none⟩)] w fun e w' => e = .returned (.string ⟨l.toArray⟩) ∧ Below B w w' := Any.Builder_String_any Tryz.lays169 Tryz.Builder_Extra_169 B b l w h hBw
end Go.Proofs
namespace Go.Proofs.YtolkhjdododdaaaGreatDoor
open Go Go.RowKit
theorem sizeBuilder : (Tryz.prog.info? 134).map (·.size) = some 2 := by kernel_rfl
theorem liesBuilder : liesAt Tryz.prog Tryz.prog.depth 134 (2 / Tryz.prog.cellsOf 134) 0 134 1 = true := by kernel_rfl
theorem infoByte : (Tryz.prog.info? 5).map (fun i => (i.zero, i.size, i.bytes)) = some (some (.int .u8 0), 1, 1) := by kernel_rfl

set_option maxRecDepth 100000 in
set_option maxHeartbeats 1000000 in
theorem copyCheck_used (b : Nat) (w : World) (h0 : w.cell? ⟨b, 0, none⟩ = some (.pointer (some ⟨b, 0, none⟩))) :
  Calls Tryz.prog 101 #[.pointer (some ⟨b, 0, none⟩)] w fun e w' => e = .returned (.tuple #[]) ∧ w' = w := by
 obtain ⟨j, hj, _⟩ := Option.map_eq_some_iff.1 sizeBuilder
 go_enter Tryz.func101, Tryz.ntmps101
 go_wp2
 rw [Lib.run_neq_ptr_same w _ Tryz.underlying132 hj]
 go_wp2
 go_end0
 exact ⟨rfl, rfl⟩

set_option maxRecDepth 100000 in
set_option maxHeartbeats 1000000 in
theorem copyCheck_fresh (b : Nat) (w : World) (h0 : w.cell? ⟨b, 0, none⟩ = some (.pointer none)) (hsh : w.shape? b = some (134, 2)) (hfz : w.frozen? ⟨b, 0, none⟩ = false) :
  Calls Tryz.prog 101 #[.pointer (some ⟨b, 0, none⟩)] w fun e w' => e = .returned (.tuple #[]) ∧ w' = w.setCell ⟨b, 0, none⟩ (.pointer (some ⟨b, 0, none⟩)) := by
 obtain ⟨j, hj, hjs⟩ := Option.map_eq_some_iff.1 sizeBuilder
 go_enter Tryz.func101, Tryz.ntmps101
 go_wp2
 rw [Lib.run_to_unsafe w ⟨b, 0, none⟩ Tryz.underlying132 Tryz.underlying153 hj (by rw [hjs]; decide) hsh (Nat.zero_lt_succ 1)]
 simp only [Result.andThen]
 rw [Oper.upon_value]
 go_wp2
 rw [run_callFunc_extern Tryz.func115 (by kernel_rfl) (by kernel_rfl) (by kernel_rfl) (e := Extern.AbiNoEscape.same) (by kernel_rfl)]
 rw [Lib.run_noEscape]
 simp only [Result.andThen]
 rw [Oper.upon_value]
 go_wp2
 rw [Lib.run_from_unsafe w ⟨b, 0, none⟩ Tryz.underlying153 Tryz.underlying132 hj hsh liesBuilder]
 simp only [Result.andThen]
 rw [Oper.upon_value]
 go_wp2
 go_end0
 exact ⟨rfl, rfl⟩

theorem copyCheck_any (B b : Nat) (bs : List Value) (w : World) (h : Lib.IsBuilder 134 5 B b bs w) :
  Calls Tryz.prog 101 #[.pointer (some ⟨b, 0, none⟩)] w fun e w' => e = .returned (.tuple #[]) ∧ (Lib.BuilderAt 134 5 B b (.pointer (some ⟨b, 0, none⟩)) bs w' ∧ Below B w w') := by
 rcases h with h | h
 ·refine (copyCheck_fresh b w h.cell0 h.shape h.frozen0).mono ?_
  rintro e w' ⟨rfl, rfl⟩
  exact ⟨rfl, h.used _, (Below.refl B w).setCell (p := ⟨b, 0, none⟩) h.1 _⟩
 ·refine (copyCheck_used b w h.cell0).mono ?_
  rintro e w' ⟨rfl, rfl⟩
  exact ⟨rfl, h, Below.refl B _⟩

set_option maxHeartbeats 2000000 in
theorem writeByte_any (B b : Nat) (bs : List Value) (c : Int) (w : World) (h : Lib.IsBuilder 134 5 B b bs w) (hlen : bs.length + 1 ≤ 140737488355328) (hBw : B ≤ w.heap.size) :
  Calls Tryz.prog 89 #[.pointer (some ⟨b, 0, none⟩), .int .u8 c] w fun e w' => e = .returned .nilIface ∧ (Lib.BuilderAt 134 5 B b (.pointer (some ⟨b, 0, none⟩)) (bs ++ [.int .u8 c]) w' ∧ Below B w w') := by
 obtain ⟨i0, hi, hz0, hz1, hz2⟩ := info_parts infoByte
 go_enter Tryz.func89, Tryz.ntmps89
 go_wp2_with (go_at_call 101; refine (copyCheck_any B b bs _ h).mono ?_)
 rintro e w1 ⟨rfl, h1, hb1⟩
 obtain ⟨hB, v, hbk, hown, hne⟩ := h1
 have c0 : w1.cell? ⟨b, 0, none⟩ = some (.pointer (some ⟨b, 0, none⟩)) := by rw [Lib.cell_of_heap hbk]; rfl
 have c1 : w1.cell? ⟨b, 1, none⟩ = some v := by rw [Lib.cell_of_heap hbk]; rfl
 go_wp2_with (at_builtin; refine wpList_append_own _ rfl _ _ 108 rfl B 5 i0 (.int .u8 0) 1 1 Tryz.underlying108 hi hz0 hz1 hz2 rfl (by decide) _ _ _ rfl (hown.alloc _) ⟨w1.heap.size, 0, none⟩ 1 1 [.int .u8 c] rfl rfl ?c1 ?c2 ?c3 ?c4 ?c5 ?_)
 case c1 =>
  intro j u hj
  match j, hj with
  | 0, hj => simp at hj; subst hj; simp [Addr.add]
 case c2 => intro u hu; simp at hu; subst hu; rfl
 case c3 => unfold maxLen; omega
 case c4 => omega
 case c5 => have := hb1.size; simp; omega
 intro v' w2 hown' hgrow _
 have hlt : b < w1.heap.size := by
  rcases Nat.lt_or_ge b w1.heap.size with h' | h'
  ·exact h'
  ·simp [Array.getElem?_eq_none h'] at hbk
 have hb2 : w2.heap[b]? = some (.cells #[.pointer (some ⟨b, 0, none⟩), v] 134 (0, 0)) := by
  rw [hgrow.block b (by simp; omega) (fun e => hne e.symm), Lib.alloc_old w1 _ b hlt]
  exact hbk
 have d0 : w2.cell? ⟨b, 0, none⟩ = some (.pointer (some ⟨b, 0, none⟩)) := by rw [Lib.cell_of_heap hb2]; rfl
 have d1 : w2.cell? ⟨b, 1, none⟩ = some v := by rw [Lib.cell_of_heap hb2]; rfl
 have f1 : w2.frozen? ⟨b, 1, none⟩ = false := Lib.frozen_of_heap hb2 1
 obtain ⟨g, cap, rfl⟩ : ∃ g cap, v' = .slice (some ⟨g, 0, none⟩) (bs.length + 1) cap := by
  rcases hown'.2 with ⟨_, h0⟩ | ⟨g, cap, cur, hv, _⟩
  ·omega
  ·exact ⟨g, cap, hv⟩
 go_wp2
 go_ret
 refine ⟨rfl, ?_, ?_⟩
 ·exact Lib.BuilderAt.put (T := 134) (e := 5) hB hb2 (bs' := bs ++ [.int .u8 c]) (by simpa using hown') (by decide)
 ·exact ((hb1.alloc (by have := hb1.size; omega) _).grown hgrow (by have := hb1.size; simp; omega) (fun k hk => (hown.lt k hk).1)).setCell (p := ⟨b, 1, none⟩) hB _
end Go.Proofs.YtolkhjdododdaaaGreatDoor

/- The walk over order.GetText. -/
namespace Go.Proofs.YtolkhjdododdaaaGreatDoor
open Go Go.RowKit
attribute [local go_sem] yields yUpon

/-- What is read of bytes as a text, 'acc' being read already, the first of them at place k. -/
def scanT : List UInt8 → List UInt8 → Nat → List UInt8 × Int × Int
 | _, [], _ => ([], 0, 8)
 | _, [_], _ => ([], 0, 8)
 | acc, b :: c :: r, k => if b = 0 then (if c = 255 then scanT (acc ++ [0]) r (k + 2) else if c = 1 then (acc, (k : Int) + 2, 0) else ([], 0, 6)) else scanT (acc ++ [b]) (c :: r) (k + 1)
def getTextN (l : List UInt8) (i : Nat) : List UInt8 × Int × Int := if l.length < i then ([], 0, 1) else scanT [] (l.drop i) i
def getText (l : List UInt8) (at_ : Int) : List UInt8 × Int × Int := if at_ < 0 then ([], 0, 1) else getTextN l at_.toNat
def tupT (p : List UInt8 × Int × Int) : Value := .tuple #[.string (str p.1), .int .i64 p.2.1, .int .i64 p.2.2]

theorem scan_end {acc l : List UInt8} {k : Nat} (h : l.length ≤ k) : scanT acc (l.drop k) k = ([], 0, 8) := by
 rw [List.drop_eq_nil_of_le h]
 rfl
theorem scan_byte {acc l : List UInt8} {k : Nat} (h : k < l.length) (hb : l[k] ≠ 0) : scanT acc (l.drop k) k = scanT (acc ++ [l[k]]) (l.drop (k + 1)) (k + 1) := by
 rw [List.drop_eq_getElem_cons h]
 cases hd : l.drop (k + 1) with
 | nil => rfl
 | cons c r => rw [scanT, if_neg hb]
theorem scan_short {acc l : List UInt8} {k : Nat} (h : k < l.length) (he : k + 1 = l.length) : scanT acc (l.drop k) k = ([], 0, 8) := by
 rw [List.drop_eq_getElem_cons h, List.drop_eq_nil_of_le (by omega)]
 rfl
theorem scan_two {acc l : List UInt8} {k : Nat} (h : k + 1 < l.length) (hb : l[k] = 0) : scanT acc (l.drop k) k = if l[k + 1] = 255 then scanT (acc ++ [0]) (l.drop (k + 2)) (k + 2) else if l[k + 1] = 1 then (acc, (k : Int) + 2, 0) else ([], 0, 6) := by
 rw [List.drop_eq_getElem_cons (show k < l.length by omega), List.drop_eq_getElem_cons h, scanT, if_pos hb]
theorem tupT_ret {l : List UInt8} {at_ : Int} {x : ByteArray} {y z : Int} {t : List UInt8} (h : getText l at_ = (t, y, z)) (hx : x = str t) : Ending.returned (.tuple #[.string x, .int .i64 y, .int .i64 z]) = .returned (tupT (getText l at_)) := by rw [h, hx]; rfl
theorem byte_eq {b c : UInt8} (h : b = c) : ((b.toNat : Int) == (c.toNat : Int)) = true := by rw [h]; simp
theorem byte_ne {b c : UInt8} (h : b ≠ c) : ((b.toNat : Int) == (c.toNat : Int)) = false := by
 simp only [beq_eq_false_iff_ne]
 intro he
 exact h (UInt8.toNat_inj.1 (by omega))

set_option maxHeartbeats 2000000 in
theorem getText_any (v : Value) (l : List UInt8) (at_ : Int) (w : World) (hv : BytesIn w v l) (hl : l.length ≤ 140737488000000) :
  Calls Tryz.prog 60 #[v, .int .i64 at_] w fun e w' => e = .returned (tupT (getText l at_)) ∧ Ext w w' := by
 obtain ⟨a, c, rfl, hc, hcm, ha, hcell⟩ := hv
 unfold maxLen at hcm
 by_cases h0 : at_ < 0
 ·have d0 : decide (at_ < 0) = true := by simpa using h0
  clear hcell ha
  go_enter Tryz.func60, Tryz.ntmps60
  go_wp2
  go_ret3
  refine ⟨tupT_ret (t := []) ?_ (by rfl), Ext.refl w⟩
  unfold getText
  rw [if_pos h0]
 ·have d0 : decide (at_ < 0) = false := by simpa using h0
  obtain ⟨i, rfl⟩ : ∃ i : Nat, at_ = i := ⟨at_.toNat, by omega⟩
  have EN : Hid (getText l (i : Int) = getTextN l i) := by unfold getText; rw [if_neg h0]; rfl
  by_cases h1 : l.length < i
  ·have d1 : decide ((l.length : Int) < (i : Int)) = true := by simpa using h1
   clear hcell ha
   go_enter Tryz.func60, Tryz.ntmps60
   go_wp2
   go_ret3
   refine ⟨tupT_ret (t := []) ?_ (by rfl), Ext.refl w⟩
   rw [EN.out]
   unfold getTextN
   rw [if_pos h1]
  ·have d1 : decide ((l.length : Int) < (i : Int)) = false := by simpa using h1
   have EN2 : Hid (getText l (i : Int) = scanT [] (l.drop i) i) := EN.out.trans (by unfold getTextN; rw [if_neg h1])
   have HC := Lib.hid hcell
   clear hcell ha EN
   go_enter Tryz.func60, Tryz.ntmps60
   go_wp2
   go_loopw [8] (fun n wr => ∃ (k : Nat) (acc : List UInt8), k ≤ l.length ∧ n = .int .i64 k ∧ acc.length ≤ k ∧ Lib.IsBuilder 134 5 w.heap.size w.heap.size (Lib.byteCells acc) wr ∧ Ext w wr ∧ Hid (getText l (i : Int) = scanT acc (l.drop k) k)) (fun n _ => l.length - (intOf n).toNat)
   case atStart => 
    refine ⟨i, [], by omega, rfl, Nat.zero_le _, .inl ⟨Nat.le_refl _, .slice none 0 0, heap_alloc_new w _, World.ownsRow_nil _ _ _ _, by simp [Value.ownBlock]⟩, (Ext.refl w).alloc _, EN2⟩
   case round =>
    obtain ⟨k, acc, hk, rfl, hacc, hB, hE, hS⟩ := hrel
    have hacc' : (Lib.byteCells acc).length = acc.length := by simp [Lib.byteCells]
    by_cases hlt : k < l.length
    ·obtain ⟨b, o, rfl, hb⟩ := HC.out k (.int .u8 l[k].toNat) (by simp [bcells, hlt])
     replace hb := hE.cell hb
     by_cases hz : l[k] = 0
     ·have z0 : ((l[k].toNat : Int) == 0) = true := byte_eq (c := 0) hz
      by_cases he : k + 1 = l.length
      ·have e0 : ((k : Int) + 1 == (l.length : Int)) = true := by simp; omega
       have HR := Lib.hid (hS.out.trans (scan_short hlt he))
       clear hz hS he
       go_wp2
       go_ret3
       refine ⟨tupT_ret (t := []) ?_ (by rfl), hE⟩
       exact HR.out
      ·have e0 : ((k : Int) + 1 == (l.length : Int)) = false := by simp; omega
       have h2 : k + 1 < l.length := by omega
       obtain ⟨b1, o1, e1, hb1⟩ := HC.out (k + 1) (.int .u8 l[k + 1].toNat) (by simp [bcells, h2])
       cases e1
       replace hb1 := hE.cell hb1
       have HT := Lib.hid (hS.out.trans (scan_two h2 hz))
       clear hz hS
       by_cases h255 : l[k + 1] = 255
       ·have y0 : ((l[k + 1].toNat : Int) == 255) = true := byte_eq (c := 255) h255
        have HS2 : Hid (getText l (i : Int) = scanT (acc ++ [0]) (l.drop (k + 2)) (k + 2)) := HT.out.trans (by rw [if_pos h255])
        clear h255
        go_wp2_with fail
        refine (writeByte_any _ _ _ _ _ hB (by omega) hE.le).mono ?_
        rintro e w2 ⟨rfl, hB2, hE2⟩
        go_wp2
        go_roundw
        case rel => exact ⟨k + 2, acc ++ [0], by omega, by go_num, by simp; omega, .inr (by simpa [Lib.byteCells] using hB2), Below.trans hE hE2, HS2⟩
        case measure => simp [intOf] <;> omega
       ·have y0 : ((l[k + 1].toNat : Int) == 255) = false := byte_ne (c := 255) h255
        by_cases hone : l[k + 1] = 1
        ·have y1 : ((l[k + 1].toNat : Int) == 1) = true := byte_eq (c := 1) hone
         have HR := Lib.hid (HT.out.trans (by rw [if_neg h255, if_pos hone]))
         clear h255 hone HT
         go_wp2_with fail
         refine (Tryz.Builder_String_any _ _ _ _ hB hE.le).mono ?_
         rintro e w2 ⟨rfl, hE2⟩
         go_wp2
         go_ret3
         refine ⟨tupT_ret (t := acc) ?_ (by rfl), Below.trans hE hE2⟩
         rw [HR.out]
         simp
         try omega
        ·have y1 : ((l[k + 1].toNat : Int) == 1) = false := byte_ne (c := 1) hone
         have HR := Lib.hid (HT.out.trans (by rw [if_neg h255, if_neg hone]))
         clear h255 hone HT
         go_wp2
         go_ret3
         refine ⟨tupT_ret (t := []) ?_ (by rfl), hE⟩
         exact HR.out
     ·have z0 : ((l[k].toNat : Int) == 0) = false := byte_ne (c := 0) hz
      have HS2 : Hid (getText l (i : Int) = scanT (acc ++ [l[k]]) (l.drop (k + 1)) (k + 1)) := hS.out.trans (scan_byte hlt hz)
      clear hz hS
      go_wp2_with fail
      refine (writeByte_any _ _ _ _ _ hB (by omega) hE.le).mono ?_
      rintro e w2 ⟨rfl, hB2, hE2⟩
      go_wp2
      go_roundw
      case rel => exact ⟨k + 1, acc ++ [l[k]], by omega, by go_num, by simp; omega, .inr (by simpa [Lib.byteCells] using hB2), Below.trans hE hE2, HS2⟩
      case measure => simp [intOf] <;> omega
    ·go_wp2
     go_ret3
     refine ⟨tupT_ret (t := []) ?_ (by rfl), hE⟩
     rw [hS.out, scan_end (by omega)]
end Go.Proofs.YtolkhjdododdaaaGreatDoor

/- What is put as a text is got: the plain law. -/
namespace Go.Proofs.YtolkhjdododdaaaGreatDoor
open Go Go.RowKit

theorem scan_back : ∀ (l acc R : List UInt8) (k : Nat), scanT acc (txt l ++ R) k = (acc ++ l, (k : Int) + (txt l).length, 0)
 | [], acc, R, k => by
  show scanT acc (0 :: 1 :: R) k = _
  rw [scanT, if_pos rfl, if_neg (by decide), if_pos rfl]
  simp [txt, esc]
 | b :: l, acc, R, k => by
  by_cases hb : b = 0
  ·subst hb
   have e : txt (0 :: l) = 0 :: 255 :: txt l := by simp [txt, esc]
   rw [e]
   show scanT acc (0 :: 255 :: (txt l ++ R)) k = _
   rw [scanT, if_pos rfl, if_pos rfl, scan_back l (acc ++ [0]) R (k + 2)]
   simp
   omega
  ·have e : txt (b :: l) = b :: txt l := by simp [txt, esc, hb]
   obtain ⟨c, r, hr⟩ : ∃ c r, txt l ++ R = c :: r := by
    cases h : txt l ++ R with
    | nil => simp [txt] at h
    | cons c r => exact ⟨c, r, rfl⟩
   have ih := scan_back l (acc ++ [b]) R (k + 1)
   rw [hr] at ih
   rw [e, List.cons_append, hr, scanT, if_neg hb, ih]
   simp
   omega
theorem getText_back (H R l : List UInt8) : getText (H ++ txt l ++ R) (H.length : Int) = (l, ((H ++ txt l).length : Int), 0) := by
 unfold getText
 rw [if_neg (by omega), Int.toNat_natCast]
 unfold getTextN
 rw [if_neg (by simp), List.append_assoc, List.drop_left, scan_back]
 simp
end Go.Proofs.YtolkhjdododdaaaGreatDoor
