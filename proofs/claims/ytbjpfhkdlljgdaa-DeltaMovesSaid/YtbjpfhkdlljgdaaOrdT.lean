/- The walk over order.Text. -/
import Derived.Test.YtbjpfhkdlljgdaaBytes
import Derived.Test.YtbjpfhkdlljgdaaPlace
namespace Go.Proofs.Ytbjpfhkdlljgdaa
open Go Go.RowKit

set_option maxHeartbeats 400000 in
theorem own_any (a : Option Addr) (n c : Nat) (h : n ≤ c) (_hc : c ≤ maxLen) (w : World) :
    Calls Try.prog 100 #[.slice a n c] w fun e w' => e = .returned (.slice a n n) ∧ w = w' := by
  unfold maxLen at _hc
  go_enter Try.func100, Try.ntmps100
  go_wp2
  go_ret
  exact ⟨rfl, rfl⟩

theorem cs255 : (#[Value.int .u8 255] : Array Value).toList = bcells [255] := rfl
theorem cs01 : (#[Value.int .u8 0, Value.int .u8 1] : Array Value).toList = bcells [0, 1] := rfl
theorem take_snoc (s : ByteArray) (k : Nat) (h : k < s.size) : s.data.toList.take (k + 1) = s.data.toList.take k ++ [s[k]] := by
  rw [List.take_succ_eq_append_getElem (by simpa using h)]; rfl

theorem text_zero {w w0 : World} {v : Value} {l : List UInt8} {s : ByteArray} {k : Nat} {b : UInt8} (h1 : s.data.toList.take (k + 1) = s.data.toList.take k ++ [b])
    (h2 : esc (s.data.toList.take k ++ [b]) = esc (s.data.toList.take k) ++ if b = 0 then [0, 255] else [b]) (hz : ((b.toNat : Int) == 0) = true) (h : OwnB w w0.heap.size v (l ++ esc (s.data.toList.take k) ++ [b] ++ [255])) :
    OwnB w w0.heap.size v (l ++ esc (s.data.toList.take (k + 1))) := by
  have hb : b = 0 := by apply UInt8.toNat.inj; have := beq_iff_eq.1 hz; simpa using this
  subst hb
  rw [h1, h2]
  simpa using h
theorem text_other {w w0 : World} {v : Value} {l : List UInt8} {s : ByteArray} {k : Nat} {b : UInt8} (h1 : s.data.toList.take (k + 1) = s.data.toList.take k ++ [b])
    (h2 : esc (s.data.toList.take k ++ [b]) = esc (s.data.toList.take k) ++ if b = 0 then [0, 255] else [b]) (hz : ((b.toNat : Int) == 0) = false) (h : OwnB w w0.heap.size v (l ++ esc (s.data.toList.take k) ++ [b])) :
    OwnB w w0.heap.size v (l ++ esc (s.data.toList.take (k + 1))) := by
  have hb : b ≠ 0 := by rintro rfl; simp at hz
  rw [h1, h2, if_neg hb]
  simpa using h

set_option maxHeartbeats 400000 in
theorem text_any (v : Value) (l : List UInt8) (s : ByteArray) (w : World) (hv : BytesIn w v l) (hl : l.length + 2 * s.size + 2 ≤ 140737488355328) :
    Calls Try.prog 73 #[v, .string s] w fun e w' => ∃ v', e = .returned v' ∧ OwnB w' w.heap.size v' (l ++ txt s.data.toList) ∧ Ext w w' := by
  obtain ⟨a, c, rfl, hc, hcm, ha, hcell⟩ := hv
  have hv : BytesIn w (.slice a l.length l.length) l := ⟨a, l.length, rfl, Nat.le_refl _, Nat.le_trans hc hcm, fun h => by have := ha h; omega, hcell⟩
  clear hcell ha
  go_enter Try.func73, Try.ntmps73
  go_wp2_with (go_at_call 100; refine (own_any _ _ _ hc hcm _).mono ?_; rintro e w' ⟨rfl, rfl⟩)
  clear hc hcm
  go_loopw [0, 10] (fun v n wr => ∃ k : Nat, k ≤ s.size ∧ n = .int .i64 k ∧ Tip wr w.heap.size v (l ++ esc (s.data.toList.take k)) ∧ Ext w wr) (fun _ n _ => s.size - (intOf n).toNat)
  case atStart => exact ⟨0, Nat.zero_le _, rfl, by simpa [esc] using Tip.full hv, Ext.refl w⟩
  case round =>
    obtain ⟨k, hk, rfl, hown, hE⟩ := hrel
    have hlen : (esc (s.data.toList.take k)).length ≤ 2 * k := Nat.le_trans (esc_length_le _) (by simp; omega)
    by_cases hlt : k < s.size
    · have hsn := Lib.hid (esc_snoc (s.data.toList.take k) s[k])
      have hts := Lib.hid (take_snoc s k hlt)
      go_wp2_with (first
        | (at_builtin; refine appB wr rfl (.tmp 13) (.tmp 17) rfl w hE _ _ _ _ (csb _) (by simp) rfl hown _ rfl rfl (by simp; omega) ?_; intro v2 w2 hown2 hE2)
        | (at_builtin; go_must (refine appB _ rfl (.tmp 23) (.tmp 24) rfl w hE2 _ _ _ [255] cs255 (by simp) rfl (Tip.own hown2) _ rfl rfl (by simp; omega) ?_); intro v3 w3 hown3 hE3))
      · have hz : ((s[k].toNat : Int) == 0) = true := by assumption
        go_roundw
        case rel => exact ⟨k + 1, by omega, by go_num, Tip.own (text_zero hts.out hsn.out hz hown3), hE3⟩
        case measure => simp [intOf] <;> omega
      · have hz : ((s[k].toNat : Int) == 0) = false := by assumption
        go_roundw
        case rel => exact ⟨k + 1, by omega, by go_num, Tip.own (text_other hts.out hsn.out hz hown2), hE2⟩
        case measure => simp [intOf] <;> omega
    · go_wp2_with (at_builtin; go_must (refine appB wr rfl (.tmp 27) (.tmp 28) rfl w hE _ _ _ [0, 1] cs01 (by simp) rfl hown _ rfl rfl (by simp; omega) ?_); intro v3 w3 hown3 hE3)
      go_ret
      exact ⟨_, rfl, by rw [List.take_of_length_le (by simp; omega), List.append_assoc] at hown3; exact hown3, hE3⟩

theorem Text_nil (s : ByteArray) (w : World) (hl : 2 * s.size + 2 ≤ 140737488355328) :
    Calls Try.prog 73 #[.slice none 0 0, .string s] w fun e w' => ∃ v', e = .returned v' ∧ OwnB w' w.heap.size v' (txt s.data.toList) ∧ Ext w w' := by
  simpa using text_any _ [] s w (SliceIn.nil _) (by simpa using hl)

end Go.Proofs.Ytbjpfhkdlljgdaa
