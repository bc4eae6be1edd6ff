/- The walk over order.GetText. -/
import Derived.Test.YtbjpfhkdlljgdaaOrdT
import Derived.Test.YtbjpfhkdlljgdaaShelfB
import Derived.Test.YtbjpfhkdlljgdaaGrow
namespace Go.Proofs.Ytbjpfhkdlljgdaa
open Go Go.RowKit
attribute [local go_sem] yields yUpon

/-- What is read of bytes as a text, 'acc' being read already, the first of them at place k. -/
def scanT : List UInt8 → List UInt8 → Nat → List UInt8 × Int × Int
  | _, [], _ => ([], 0, 8)
  | _, [_], _ => ([], 0, 8)
  | acc, b :: c :: r, k => if b = 0 then (if c = 255 then scanT (acc ++ [0]) r (k + 2) else if c = 1 then (acc, (k : Int) + 2, 0) else ([], 0, 6)) else scanT (acc ++ [b]) (c :: r) (k + 1)
def getTextN (l : List UInt8) (i : Nat) : List UInt8 × Int × Int := if l.length < i then ([], 0, 1) else scanT [] (l.drop i) i
def getText (l : List UInt8) (at_ : Int) : List UInt8 × Int × Int := if at_ < 0 then ([], 0, 1) else getTextN l at_.toNat
def tupT (p : List UInt8 × Int × Int) : Value := .tuple #[.string (str p.1), .int .i64 p.2.1, .int .i64 p.2.2]

theorem scan_end {acc l : List UInt8} {k : Nat} (h : l.length ≤ k) : scanT acc (l.drop k) k = ([], 0, 8) := by
  rw [List.drop_eq_nil_of_le h]
  rfl
theorem scan_byte {acc l : List UInt8} {k : Nat} (h : k < l.length) (hb : l[k] ≠ 0) : scanT acc (l.drop k) k = scanT (acc ++ [l[k]]) (l.drop (k + 1)) (k + 1) := by
  rw [List.drop_eq_getElem_cons h]
  cases hd : l.drop (k + 1) with
  | nil => rfl
  | cons c r => rw [scanT, if_neg hb]
theorem scan_short {acc l : List UInt8} {k : Nat} (h : k < l.length) (he : k + 1 = l.length) : scanT acc (l.drop k) k = ([], 0, 8) := by
  rw [List.drop_eq_getElem_cons h, List.drop_eq_nil_of_le (by omega)]
  rfl
theorem scan_two {acc l : List UInt8} {k : Nat} (h : k + 1 < l.length) (hb : l[k] = 0) : scanT acc (l.drop k) k = if l[k + 1] = 255 then scanT (acc ++ [0]) (l.drop (k + 2)) (k + 2) else if l[k + 1] = 1 then (acc, (k : Int) + 2, 0) else ([], 0, 6) := by
  rw [List.drop_eq_getElem_cons (show k < l.length by omega), List.drop_eq_getElem_cons h, scanT, if_pos hb]
theorem tupT_ret {l : List UInt8} {at_ : Int} {x : ByteArray} {y z : Int} {t : List UInt8} (h : getText l at_ = (t, y, z)) (hx : x = str t) : Ending.returned (.tuple #[.string x, .int .i64 y, .int .i64 z]) = .returned (tupT (getText l at_)) := by rw [h, hx]; rfl
theorem byte_eq {b c : UInt8} (h : b = c) : ((b.toNat : Int) == (c.toNat : Int)) = true := by rw [h]; simp
theorem byte_ne {b c : UInt8} (h : b ≠ c) : ((b.toNat : Int) == (c.toNat : Int)) = false := by
  simp only [beq_eq_false_iff_ne]
  intro he
  exact h (UInt8.toNat_inj.1 (by omega))

set_option maxHeartbeats 2000000 in
theorem getText_any (v : Value) (l : List UInt8) (at_ : Int) (w : World) (hv : BytesIn w v l) (hl : l.length ≤ 140737488000000) :
    Calls Try.prog 71 #[v, .int .i64 at_] w fun e w' => e = .returned (tupT (getText l at_)) ∧ Ext w w' := by
  obtain ⟨a, c, rfl, hc, hcm, ha, hcell⟩ := hv
  unfold maxLen at hcm
  by_cases h0 : at_ < 0
  · have d0 : decide (at_ < 0) = true := by simpa using h0
    clear hcell ha
    go_enter Try.func71, Try.ntmps71
    go_wp2
    go_ret3
    refine ⟨tupT_ret (t := []) ?_ (by rfl), Ext.refl w⟩
    unfold getText
    rw [if_pos h0]
  · have d0 : decide (at_ < 0) = false := by simpa using h0
    obtain ⟨i, rfl⟩ : ∃ i : Nat, at_ = i := ⟨at_.toNat, by omega⟩
    have EN : Hid (getText l (i : Int) = getTextN l i) := by unfold getText; rw [if_neg h0]; rfl
    by_cases h1 : l.length < i
    · have d1 : decide ((l.length : Int) < (i : Int)) = true := by simpa using h1
      clear hcell ha
      go_enter Try.func71, Try.ntmps71
      go_wp2
      go_ret3
      refine ⟨tupT_ret (t := []) ?_ (by rfl), Ext.refl w⟩
      rw [EN.out]
      unfold getTextN
      rw [if_pos h1]
    · have d1 : decide ((l.length : Int) < (i : Int)) = false := by simpa using h1
      have EN2 : Hid (getText l (i : Int) = scanT [] (l.drop i) i) := EN.out.trans (by unfold getTextN; rw [if_neg h1])
      have HC := Lib.hid hcell
      clear hcell ha EN
      go_enter Try.func71, Try.ntmps71
      go_wp2
      go_loopw [8] (fun n wr => ∃ (k : Nat) (acc : List UInt8), k ≤ l.length ∧ n = .int .i64 k ∧ acc.length ≤ k ∧ Lib.IsBuilder 133 5 w.heap.size w.heap.size (Lib.byteCells acc) wr ∧ Ext w wr ∧ Hid (getText l (i : Int) = scanT acc (l.drop k) k)) (fun n _ => l.length - (intOf n).toNat)
      case atStart => 
        refine ⟨i, [], by omega, rfl, Nat.zero_le _, .inl ⟨Nat.le_refl _, .slice none 0 0, heap_alloc_new w _, World.ownsRow_nil _ _ _ _, by simp [Value.ownBlock]⟩, (Ext.refl w).alloc _, EN2⟩
      case round =>
        obtain ⟨k, acc, hk, rfl, hacc, hB, hE, hS⟩ := hrel
        have hacc' : (Lib.byteCells acc).length = acc.length := by simp [Lib.byteCells]
        by_cases hlt : k < l.length
        · obtain ⟨b, o, rfl, hb⟩ := HC.out k (.int .u8 l[k].toNat) (by simp [bcells, hlt])
          replace hb := hE.cell hb
          by_cases hz : l[k] = 0
          · have z0 : ((l[k].toNat : Int) == 0) = true := byte_eq (c := 0) hz
            by_cases he : k + 1 = l.length
            · have e0 : ((k : Int) + 1 == (l.length : Int)) = true := by simp; omega
              have HR := Lib.hid (hS.out.trans (scan_short hlt he))
              clear hz hS he
              go_wp2
              go_ret3
              refine ⟨tupT_ret (t := []) ?_ (by rfl), hE⟩
              exact HR.out
            · have e0 : ((k : Int) + 1 == (l.length : Int)) = false := by simp; omega
              have h2 : k + 1 < l.length := by omega
              obtain ⟨b1, o1, e1, hb1⟩ := HC.out (k + 1) (.int .u8 l[k + 1].toNat) (by simp [bcells, h2])
              cases e1
              replace hb1 := hE.cell hb1
              have HT := Lib.hid (hS.out.trans (scan_two h2 hz))
              clear hz hS
              by_cases h255 : l[k + 1] = 255
              · have y0 : ((l[k + 1].toNat : Int) == 255) = true := byte_eq (c := 255) h255
                have HS2 : Hid (getText l (i : Int) = scanT (acc ++ [0]) (l.drop (k + 2)) (k + 2)) := HT.out.trans (by rw [if_pos h255])
                clear h255
                go_wp2_with fail
                refine (writeByte_any _ _ _ _ _ hB (by omega) hE.le).mono ?_
                rintro e w2 ⟨rfl, hB2, hE2⟩
                go_wp2
                go_roundw
                case rel => exact ⟨k + 2, acc ++ [0], by omega, by go_num, by simp; omega, .inr (by simpa [Lib.byteCells] using hB2), Below.trans hE hE2, HS2⟩
                case measure => simp [intOf] <;> omega
              · have y0 : ((l[k + 1].toNat : Int) == 255) = false := byte_ne (c := 255) h255
                by_cases hone : l[k + 1] = 1
                · have y1 : ((l[k + 1].toNat : Int) == 1) = true := byte_eq (c := 1) hone
                  have HR := Lib.hid (HT.out.trans (by rw [if_neg h255, if_pos hone]))
                  clear h255 hone HT
                  go_wp2_with fail
                  refine (Try.Builder_String_any _ _ _ _ hB hE.le).mono ?_
                  rintro e w2 ⟨rfl, hE2⟩
                  go_wp2
                  go_ret3
                  refine ⟨tupT_ret (t := acc) ?_ (by rfl), Below.trans hE hE2⟩
                  rw [HR.out]
                  simp
                  try omega
                · have y1 : ((l[k + 1].toNat : Int) == 1) = false := byte_ne (c := 1) hone
                  have HR := Lib.hid (HT.out.trans (by rw [if_neg h255, if_neg hone]))
                  clear h255 hone HT
                  go_wp2
                  go_ret3
                  refine ⟨tupT_ret (t := []) ?_ (by rfl), hE⟩
                  exact HR.out
          · have z0 : ((l[k].toNat : Int) == 0) = false := byte_ne (c := 0) hz
            have HS2 : Hid (getText l (i : Int) = scanT (acc ++ [l[k]]) (l.drop (k + 1)) (k + 1)) := hS.out.trans (scan_byte hlt hz)
            clear hz hS
            go_wp2_with fail
            refine (writeByte_any _ _ _ _ _ hB (by omega) hE.le).mono ?_
            rintro e w2 ⟨rfl, hB2, hE2⟩
            go_wp2
            go_roundw
            case rel => exact ⟨k + 1, acc ++ [l[k]], by omega, by go_num, by simp; omega, .inr (by simpa [Lib.byteCells] using hB2), Below.trans hE hE2, HS2⟩
            case measure => simp [intOf] <;> omega
        · go_wp2
          go_ret3
          refine ⟨tupT_ret (t := []) ?_ (by rfl), hE⟩
          rw [hS.out, scan_end (by omega)]
end Go.Proofs.Ytbjpfhkdlljgdaa
