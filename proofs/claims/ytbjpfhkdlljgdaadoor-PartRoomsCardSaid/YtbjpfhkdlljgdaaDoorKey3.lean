/- Three digits of a number (clerestorylaw08.key); their order. -/
import Derived.Test.YtbjpfhkdlljgdaaDoorCellOrd
import Derived.Test.YtbjpfhkdlljgdaaDoorBytes
import Derived.Test.YtbjpfhkdlljgdaaDoorGrow
namespace Go.Proofs.YtbjpfhkdlljgdaaDoor
open Go Go.RowKit

theorem und_k8 : Tryd.prog.underlying 72 = some (.slice 5) := by kernel_rfl
theorem und_ke8 : Tryd.prog.underlying 5 = some (.int .u8) := by kernel_rfl
theorem und_ks8 : Tryd.prog.underlying 9 = some .string := by kernel_rfl
def dig (n : Nat) : UInt8 := UInt8.ofNat (48 + n % 10)
theorem dig_nat (n : Nat) : (dig n).toNat = 48 + n % 10 := by
  unfold dig
  rw [UInt8.toNat_ofNat']
  omega
def key3 (n : Nat) : ByteArray := str [dig (n / 100), dig (n / 10), dig n]

set_option maxRecDepth 100000 in
set_option maxHeartbeats 2000000 in
theorem key8_any (n : Nat) (h : n < 1000) (w : World) : Calls Tryd.prog 15 #[.int .i64 n] w fun e w' => e = .returned (.string (key3 n)) ∧ Ext w w' := by
  have e1 : ((n : Int).tdiv 100).tmod 10 = ((n / 100 % 10 : Nat) : Int) := by rw [Int.tdiv_eq_ediv_of_nonneg (by omega), Int.tmod_eq_emod_of_nonneg (by omega)]; omega
  have e2 : ((n : Int).tdiv 10).tmod 10 = ((n / 10 % 10 : Nat) : Int) := by rw [Int.tdiv_eq_ediv_of_nonneg (by omega), Int.tmod_eq_emod_of_nonneg (by omega)]; omega
  have e3 : (n : Int).tmod 10 = ((n % 10 : Nat) : Int) := by rw [Int.tmod_eq_emod_of_nonneg (by omega)]; omega
  go_enter Tryd.func15, Tryd.ntmps15
  go_wp2_with fail
  have hb : BytesIn (w.alloc (.cells #[.int .u8 (48 + (n : Int) / 100 % 10), .int .u8 (48 + (n : Int) / 10 % 10), .int .u8 (48 + (n : Int) % 10)] 5)) (.slice (some ⟨w.heap.size, 0, none⟩) 3 3) [dig (n / 100), dig (n / 10), dig n] := by
    have := SliceIn.made w #[.int .u8 (48 + (n : Int) / 100 % 10), .int .u8 (48 + (n : Int) / 10 % 10), .int .u8 (48 + (n : Int) % 10)] 5 3 (by unfold maxLen; decide)
    unfold BytesIn
    have e : bcells [dig (n / 100), dig (n / 10), dig n] = [.int .u8 (48 + (n : Int) / 100 % 10), .int .u8 (48 + (n : Int) / 10 % 10), .int .u8 (48 + (n : Int) % 10)] := by
      simp [bcells, dig_nat]
    rw [e]
    exact this
  rw [run_convert_bytesIn _ 72 9 5 und_k8 und_ke8 und_ks8 hb]
  simp only [Result.andThen]
  rw [Oper.upon_value]
  go_wp2_with fail
  go_ret
  exact ⟨rfl, (Ext.refl w).alloc _⟩

/-! ### The order of keys -/
theorem dig_lt {a b : Nat} (h : a % 10 < b % 10) : dig a < dig b := by
  rw [UInt8.lt_iff_toNat_lt]
  have h1 := dig_nat a
  have h2 := dig_nat b
  omega
theorem dig_eq {a b : Nat} (h : a % 10 = b % 10) : dig a = dig b := by unfold dig; rw [h]
theorem key3_lt {a b : Nat} (h : a < b) (hb : b < 1000) : less (key3 a).data.toList (key3 b).data.toList = true := by
  show less [dig (a / 100), dig (a / 10), dig a] [dig (b / 100), dig (b / 10), dig b] = true
  by_cases h1 : a / 100 < b / 100
  · exact less_lt (dig_lt (by omega)) _ _
  · have e1 : a / 100 = b / 100 := by omega
    rw [e1, less_same]
    by_cases h2 : a / 10 < b / 10
    · exact less_lt (dig_lt (by omega)) _ _
    · have e2 : a / 10 = b / 10 := by omega
      rw [e2, less_same]
      exact less_lt (dig_lt (by omega)) _ _
theorem key3_cmp {a b : Nat} (h : a < b) (hb : b < 1000) : cmpB (key3 a).data.toList (key3 b).data.toList = -1 := by rw [cmpB_less, if_pos (key3_lt h hb)]
end Go.Proofs.YtbjpfhkdlljgdaaDoor
