/- clerestoryref08.Same of partitions that read alike. -/
import Derived.Test.YtfagnbofnaoncaaP19
import Derived.Test.YtfagnbofnaoncaaP14
import Derived.Test.YtfagnbofnaoncaaP7
import Derived.Test.YtfagnbofnaoncaaP10
import Derived.BigQuiet
import Derived.Test.YtfagnbofnaoncaaP1
import Derived.Test.YtfagnbofnaoncaaProg
import Derived.Lib.DecodeN
import Derived.Lib.Hide
import Derived.Laws.BitsLemmas
set_option linter.unusedSimpArgs false
set_option linter.unusedVariables false
namespace Go.Proofs.Ytfagnbofnaoncaa
open Go Go.RowKit

theorem same8_alike (k : ByteArray) (g : Int) (v v' : Value) (ps ps' : List (Ro × Value)) (w : World) (hin : RowsIn w v ps) (hin' : RowsIn w v' ps') (h : ps.map (·.1) = ps'.map (·.1)) :
    Calls Try.prog 15 #[.agg #[.string k, .int .i64 g, v], .agg #[.string k, .int .i64 g, v']] w fun e w' => e = .returned (.bool true) ∧ Ext w w' := by
  have := same8_any k k g g v v' ps ps' w hin hin'
  rw [eqB_true h] at this
  simpa using this
end Go.Proofs.Ytfagnbofnaoncaa

/- Lists of partitions in memory. -/
namespace Go.Proofs.Ytfagnbofnaoncaa
open Go Go.RowKit

/-- A list of partitions anywhere in memory. -/
structure PartsIn (w : World) (v : Value) (L : List Pa) : Prop where
  cells : SliceIn w v L.length (paCells L)
  rows : ∀ p ∈ L, RowsIn w p.rv p.ps
theorem PartsIn.ext {w w' : World} (hE : Ext w w') {v : Value} {L : List Pa} (h : PartsIn w v L) : PartsIn w' v L := ⟨h.cells.ext hE, fun p hp => (h.rows p hp).ext hE⟩
theorem PartsT.parts {w : World} {v : Value} {L : List Pa} (h : PartsT w v L) : PartsIn w v L := ⟨h.tin.slice, fun p hp => (h.rows p hp).rows⟩
theorem PartsIn.get {w : World} {v : Value} {L : List Pa} (h : PartsIn w v L) : ∃ a c, v = .slice a L.length c ∧ L.length ≤ c ∧ c ≤ 9223372036854775807 ∧ ∀ k (hk : k < L.length), ∃ b o, a = some ⟨b, o, none⟩ ∧ PaAt w b (o + k * 3) L[k] := by
  obtain ⟨a, c, rfl, hc, hcm, ha, hcell⟩ := h.cells
  unfold maxLen at hcm
  refine ⟨a, c, rfl, hc, by omega, fun k hk => ?_⟩
  obtain ⟨g0, g1, g2⟩ := paCells_get L k hk
  obtain ⟨b, o, rfl, h0⟩ := hcell _ _ g0
  obtain ⟨b1, o1, e1, h1⟩ := hcell _ _ g1
  cases e1
  obtain ⟨b2, o2, e2, h2⟩ := hcell _ _ g2
  cases e2
  exact ⟨b, o, rfl, h0, by rw [← Nat.add_assoc] at h1; exact h1, by rw [← Nat.add_assoc] at h2; exact h2⟩
end Go.Proofs.Ytfagnbofnaoncaa

/- clerestorylaw00.SameParts of lists that read alike; SameInts is SameB's. -/
namespace Go.Proofs.Ytfagnbofnaoncaa
open Go Go.RowKit
attribute [local go_sem] yields yUpon

set_option maxRecDepth 100000 in
set_option maxHeartbeats 4000000 in
theorem sameParts_any (va vb : Value) (Ma Mb : List Pa) (hm : Ma.map Pa.data = Mb.map Pa.data) (w : World) (ha : PartsIn w va Ma) (hb : PartsIn w vb Mb) :
    Calls Try.prog 16 #[va, vb] w fun e w' => e = .returned (.bool true) ∧ Ext w w' := by
  have HRA := Lib.hid ha.rows
  have HRB := Lib.hid hb.rows
  obtain ⟨aa, ca, rfl, hca, hcma, hga⟩ := ha.get
  obtain ⟨ab, cb, rfl, hcb, hcmb, hgb⟩ := hb.get
  have HA := Lib.hid hga
  have HB := Lib.hid hgb
  have hl : Ma.length = Mb.length := by have := congrArg List.length hm; simpa using this
  have HAB := Lib.hid (fun (k : Nat) (h1 : k < Ma.length) (h2 : k < Mb.length) => (by
    have h3 : (Ma.map Pa.data)[k]? = (Mb.map Pa.data)[k]? := by rw [hm]
    simp only [List.getElem?_map, List.getElem?_eq_getElem h1, List.getElem?_eq_getElem h2, Option.map_some, Option.some.injEq] at h3
    exact h3 : (Ma[k]).data = (Mb[k]).data))
  obtain ⟨n, hn⟩ : ∃ n, n = Ma.length := ⟨_, rfl⟩
  have HN := Lib.hid hn
  have HL := Lib.hid hl
  rw [← hl] at hcb ⊢
  rw [← hn] at hca hcb ⊢
  clear hga hgb hn ha hb hm hl
  go_enter Try.func16, Try.ntmps16
  go_wp2
  go_loopw [5] (fun i wr => ∃ k : Nat, k ≤ n ∧ i = .int .i64 (k : Int) ∧ Ext w wr) (fun i _ => n - (intOf i).toNat)
  case atStart => exact ⟨0, Nat.zero_le _, rfl, Ext.refl w⟩
  case round =>
    obtain ⟨k, hk, rfl, hE⟩ := hrel
    by_cases hlt : k < n
    · have hkF : k < Ma.length := by rw [← HN.out]; exact hlt
      have hkG : k < Mb.length := by rw [← HL.out]; exact hkF
      obtain ⟨b, o, rfl, ⟨x0, x1, x2⟩⟩ := HA.out k hkF
      obtain ⟨b', o', rfl, ⟨y0, y1, y2⟩⟩ := HB.out k hkG
      have hq := HAB.out k hkF hkG
      have hra := (HRA.out _ (List.getElem_mem hkF)).ext hE
      have hrb := (HRB.out _ (List.getElem_mem hkG)).ext hE
      replace x0 := hE.cell x0
      replace x1 := hE.cell x1
      replace x2 := hE.cell x2
      replace y0 := hE.cell y0
      replace y1 := hE.cell y1
      replace y2 := hE.cell y2
      obtain ⟨M, hM⟩ : ∃ M, M = Ma[k] := ⟨_, rfl⟩
      obtain ⟨M', hM'⟩ : ∃ M, M = Mb[k] := ⟨_, rfl⟩
      rw [← hM] at x0 x1 x2 hq hra
      rw [← hM'] at y0 y1 y2 hq hrb
      clear hM hM'
      obtain ⟨ky, gn, rv, ps⟩ := M
      obtain ⟨ky', gn', rv', ps'⟩ := M'
      unfold Pa.data at hq
      simp only [Prod.mk.injEq] at hq x0 x1 x2 y0 y1 y2
      obtain ⟨rfl, rfl, hps⟩ := hq
      have HPS := Lib.hid hps
      replace hra : RowsIn wr rv ps := hra
      replace hrb : RowsIn wr rv' ps' := hrb
      obtain ⟨au, cu, rfl, _⟩ := hra.get
      obtain ⟨au', cu', rfl, _⟩ := hrb.get
      have hlk : decide ((k : Int) < (n : Int)) = true := by simpa using hlt
      clear hps
      replace x0 := held x0
      replace x1 := held x1
      replace x2 := held x2
      replace y0 := held y0
      replace y1 := held y1
      replace y2 := held y2
      go_wp2_with fail
      refine wp_region_tab 10 [(8, fun v _ => v = .bool true)] (by kernel_rfl) (by kernel_rfl) (by kernel_rfl) ⟨stays_eq _, trivial⟩ ?_
      refine rg_quiet rfl rfl rfl rfl ?_; intro K hK; go_big_quiet_op; go_big_quiet_on
      refine rg_quiet rfl rfl rfl rfl ?_; intro K hK; go_big_quiet_op; go_big_quiet_on
      refine rg_quiet rfl rfl rfl rfl ?_; intro K hK; go_big_quiet_op; go_big_quiet_on
      refine rg_quiet rfl rfl rfl rfl ?_; intro K hK; go_big_quiet_op; go_big_quiet_on
      refine rg_quiet rfl rfl rfl rfl ?_; intro K hK; go_big_quiet_op; go_big_quiet_on
      refine rg_quiet rfl rfl rfl rfl ?_; intro K hK; go_big_quiet_op; go_big_quiet_on
      refine rg_quiet rfl rfl rfl rfl ?_; intro K hK; go_big_quiet_op; go_big_quiet_on
      refine rg_quiet rfl rfl rfl rfl ?_; intro K hK; go_big_quiet_op; go_big_quiet_on
      refine rg_val [] rfl rfl rfl (by kernel_rfl) (fun w1 hE hf => ?_) ?_
      · go_simp
        exact (same8_alike ky gn _ _ ps ps' w1 (hra.ext hE) (hrb.ext hE) HPS.out).mono fun e w' ⟨he, hw⟩ => ⟨_, he, rg_done hE hw (rfl)⟩
      simp only [Act.put, List.setIfInBounds_toArray, List.set_cons_zero, List.set_cons_succ]
      refine rg_quiet rfl rfl rfl rfl ?_; intro K hK; go_big_quiet_op; go_big_quiet_on
      refine rel_nil fun w5 hE5 _ => ?_
      clear x0 x1 x2 y0 y1 y2
      go_wp2_with fail
      go_roundw
      case rel => exact ⟨k + 1, by omega, by go_num, hE.trans hE5⟩
      case measure => simp [intOf]; omega
    · obtain rfl : k = n := by omega
      go_wp2
      go_ret
      exact ⟨rfl, hE⟩
end Go.Proofs.Ytfagnbofnaoncaa

/- The reference's code points: cont, one. (what a smaller cut has) -/
namespace Go.Proofs.Ytfagnbofnaoncaa
open Go Go.RowKit
attribute [local go_sem] yields yUpon

/-- Does a byte go on? -/
def goesOn (b : UInt8) : Bool := decide (b.toNat / 64 = 2)
def contB (s : ByteArray) (at_ n : Nat) : Bool := decide (at_ + n ≤ s.size) && (List.range n).all fun i => goesOn (s.get! (at_ + i))
theorem bits192 : ∀ n : Fin 256, (bits BinOp.and IntKind.u8 ((n.val : Nat) : Int) 192 != 128) = !decide (n.val / 64 = 2) := by decide +kernel
theorem goes_bits (b : UInt8) : (bits BinOp.and IntKind.u8 (b.toNat : Int) 192 != 128) = !goesOn b := bits192 ⟨b.toNat, b.toNat_lt⟩
theorem get_bang {s : ByteArray} {i : Nat} (h : i < s.size) : s.get! i = s[i]'h := by
  simp [ByteArray.get!, getElem!_pos, h]
  rfl
theorem contB_false {s : ByteArray} {at_ n k : Nat} (hk : k < n) (h : goesOn (s.get! (at_ + k)) = false) : contB s at_ n = false := by
  unfold contB
  rw [Bool.and_eq_false_iff]
  right
  rw [List.all_eq_false]
  exact ⟨k, by simpa using hk, by rw [h]; decide⟩
theorem contB_true {s : ByteArray} {at_ n : Nat} (hl : at_ + n ≤ s.size) (h : ∀ j, j < n → goesOn (s.get! (at_ + j)) = true) : contB s at_ n = true := by
  unfold contB
  rw [Bool.and_eq_true]
  refine ⟨by simpa using hl, ?_⟩
  rw [List.all_eq_true]
  intro j hj
  exact h j (by simpa using hj)

/-- What is put together behind a first byte. -/
def accR (s : ByteArray) (at_ r0 : Nat) : Nat → Nat
  | 0 => r0
  | k + 1 => accR s at_ r0 k * 64 + (s.get! (at_ + (k + 1))).toNat % 64
theorem accR_lt (s : ByteArray) (at_ r0 : Nat) (h : r0 < 32) : ∀ k, k ≤ 3 → accR s at_ r0 k < 8388608 ∧ (k ≤ 2 → accR s at_ r0 k < 131072)
  | 0, _ => ⟨by show r0 < _; omega, fun _ => by show r0 < _; omega⟩
  | 1, _ => ⟨by show r0 * 64 + _ % 64 < _; omega, fun _ => by show r0 * 64 + _ % 64 < _; omega⟩
  | 2, _ => ⟨by show (r0 * 64 + _ % 64) * 64 + _ % 64 < _; omega, fun _ => by show (r0 * 64 + _ % 64) * 64 + _ % 64 < _; omega⟩
  | 3, _ => ⟨by show ((r0 * 64 + _ % 64) * 64 + _ % 64) * 64 + _ % 64 < _; omega, fun h => by omega⟩

theorem accR_one (s : ByteArray) (at_ r0 k : Nat) (h : r0 < 32) (hk : k + 1 ≤ 3) : bits BinOp.or IntKind.i32 (wrap32 ((accR s at_ r0 k : Int) * 64)) (wrap32 (bits BinOp.and IntKind.u8 ((s.get! (at_ + (k + 1))).toNat : Int) 63)) = (accR s at_ r0 (k + 1) : Nat) := by
  have hb := (s.get! (at_ + (k + 1))).toNat_lt
  have ha := (accR_lt s at_ r0 h k (by omega)).2 (by omega)
  rw [u8_and63 _ (by omega) (by omega)]
  unfold wrap32
  rw [show ((accR s at_ r0 k : Int) * 64 + 2147483648) % 4294967296 - 2147483648 = (accR s at_ r0 k : Int) * 64 by omega, show (((s.get! (at_ + (k + 1))).toNat : Int) % 64 + 2147483648) % 4294967296 - 2147483648 = ((s.get! (at_ + (k + 1))).toNat : Int) % 64 by omega]
  rw [i32_or6 _ _ (by omega) (by omega) (by omega) (by omega) (by omega)]
  show _ = ((accR s at_ r0 k * 64 + (s.get! (at_ + (k + 1))).toNat % 64 : Nat) : Int)
  omega
def rC (r : Int) (at_ n : Nat) (ok : Bool) : Array Value := #[.int .i32 r, .int .i64 at_, .int .i64 n, .bool ok]
/-- The code point at a place, as the reference has it. -/
def moreR (s : ByteArray) (at_ n r0 : Nat) : Nat × Nat × Bool :=
  if contB s (at_ + 1) n = true then
    if (n = 2 ∧ (accR s at_ r0 n < 2048 ∨ 55296 ≤ accR s at_ r0 n ∧ accR s at_ r0 n < 57344)) ∨ (n = 3 ∧ (accR s at_ r0 n < 65536 ∨ 1114111 < accR s at_ r0 n)) then (65533, 1, false) else (accR s at_ r0 n, n + 1, true)
  else (65533, 1, false)
def roneC (s : ByteArray) (at_ c : Nat) : Nat × Nat × Bool :=
  if c < 128 then (c, 1, true) else if 194 ≤ c ∧ c < 224 then moreR s at_ 1 (c % 32) else if 224 ≤ c ∧ c < 240 then moreR s at_ 2 (c % 16) else if 240 ≤ c ∧ c < 245 then moreR s at_ 3 (c % 8) else (65533, 1, false)
def roneR (s : ByteArray) (at_ : Nat) : Nat × Nat × Bool := roneC s at_ (s.get! at_).toNat
theorem mask_i32 (b : UInt8) (i : Nat) (hi : i ≤ 31) : bits BinOp.and IntKind.i32 (b.toNat : Int) (2 ^ i - 1) = ((b.toNat % 2 ^ i : Nat) : Int) := by
  have := b.toNat_lt
  rw [bits_mask .i32 31 (by decide) wraps_i32 i hi _ (by omega) (by omega)]
  simp
end Go.Proofs.Ytfagnbofnaoncaa
