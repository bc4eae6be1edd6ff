/- Plain laws on numbers and their bytes; no program. -/
import Derived.Test.YtdkkbglfipkmdaaDoorD1
import Derived.Test.YtdkkbglfipkmdaaDoorProg
import Derived.Test.YtdkkbglfipkmdaaDoorD4
import Derived.Test.YtdkkbglfipkmdaaDoorD2
set_option linter.unusedSimpArgs false
set_option linter.unusedVariables false
namespace Go.Proofs.YtdkkbglfipkmdaaDoor

theorem tmod_pos {v n : Int} (h : 1 ≤ n) : 0 ≤ v.tmod n → v.tmod n = v % n := by
  intro h0
  rw [Int.tmod_eq_emod] at *
  split at h0 <;> split <;> try omega
  have := Int.emod_nonneg v (show n ≠ 0 by omega)
  have := Int.emod_lt_of_pos v (show 0 < n by omega)
  omega
theorem tmod_neg {v n : Int} (h : 1 ≤ n) : v.tmod n < 0 → v.tmod n + n = v % n := by
  intro h0
  rw [Int.tmod_eq_emod] at *
  split at h0 <;> split <;> try omega
  have := Int.emod_nonneg v (show n ≠ 0 by omega)
  omega
theorem tmod_lo {v n : Int} (h : 1 ≤ n) : -n < v.tmod n ∧ v.tmod n < n := by
  rw [Int.tmod_eq_emod]
  have := Int.emod_nonneg v (show n ≠ 0 by omega)
  have := Int.emod_lt_of_pos v (show 0 < n by omega)
  split <;> omega

/-- So many bytes of a number, the greatest first. -/
def beB : Nat → Nat → List UInt8
  | 0, _ => []
  | k + 1, x => UInt8.ofNat (x / 256 ^ k) :: beB k x

theorem beB_length (k x : Nat) : (beB k x).length = k := by
  induction k with
  | zero => rfl
  | succ k ih => simp [beB, ih]

theorem beB_get {k x j : Nat} (h : j < k) : (beB k x)[j]? = some (UInt8.ofNat (x / 256 ^ (k - 1 - j))) := by
  induction k generalizing j with
  | zero => omega
  | succ k ih =>
    cases j with
    | zero => simp [beB]
    | succ j =>
      simp only [beB, List.getElem?_cons_succ]
      rw [ih (by omega)]
      congr 4
      omega

theorem byte_shift (x k : Nat) : UInt8.ofNat (((x : Int) / 2 ^ (8 * k) % 256).toNat) = UInt8.ofNat (x / 256 ^ k) := by
  have e : ((x : Int) / 2 ^ (8 * k) % 256).toNat = x / 256 ^ k % 256 := by
    rw [show (2 : Int) ^ (8 * k) = ((256 ^ k : Nat) : Int) by rw [Int.pow_mul]; simp]
    omega
  rw [e]
  apply UInt8.toNat.inj
  simp

/-- How many bits, how many bytes a number takes. -/
def bitsOf (x : Nat) : Nat := if x = 0 then 0 else Nat.log2 x + 1
def nlen (x : Nat) : Nat := (bitsOf x + 7) / 8

theorem bitsOf_lt (x : Nat) : x < 2 ^ bitsOf x := by
  unfold bitsOf
  split
  · omega
  · exact Nat.lt_log2_self
theorem bitsOf_le (x : Nat) (h : x ≠ 0) : 2 ^ (bitsOf x - 1) ≤ x := by
  unfold bitsOf
  rw [if_neg h]
  exact Nat.log2_self_le h
theorem bitsOf_unique {x n : Nat} (h1 : x < 2 ^ n) (h2 : n = 0 ∨ 2 ^ (n - 1) ≤ x) : bitsOf x = n := by
  by_cases hx : x = 0
  · subst hx
    rcases h2 with rfl | h2
    · rfl
    · have : 0 < 2 ^ (n - 1) := Nat.two_pow_pos _
      omega
  · have a := bitsOf_lt x
    have b := bitsOf_le x hx
    have hn : n ≠ 0 := by rintro rfl; simp at h1; exact hx h1
    have h2 : 2 ^ (n - 1) ≤ x := h2.resolve_left hn
    have hb : bitsOf x ≠ 0 := by unfold bitsOf; rw [if_neg hx]; omega
    have c : bitsOf x - 1 < n := (Nat.pow_lt_pow_iff_right (a := 2) (by omega)).1 (Nat.lt_of_le_of_lt b h1)
    have d : n - 1 < bitsOf x := (Nat.pow_lt_pow_iff_right (a := 2) (by omega)).1 (Nat.lt_of_le_of_lt h2 a)
    omega

theorem bitsOf_le64 {x : Nat} (h : x < 18446744073709551616) : bitsOf x ≤ 64 := by
  by_cases hx : x = 0
  · subst hx; simp [bitsOf]
  · have b := bitsOf_le x hx
    have : 2 ^ (bitsOf x - 1) < 2 ^ 64 := Nat.lt_of_le_of_lt b (by simpa using h)
    have := (Nat.pow_lt_pow_iff_right (a := 2) (by omega)).1 this
    omega

/-- A number's bytes: how many they are, and they. -/
def num (x : Nat) : List UInt8 := UInt8.ofNat (nlen x) :: beB (nlen x) x

/-- A text's bytes. -/
def esc : List UInt8 → List UInt8
  | [] => []
  | b :: l => if b = 0 then 0 :: 255 :: esc l else b :: esc l
theorem esc_append (l m : List UInt8) : esc (l ++ m) = esc l ++ esc m := by
  induction l with
  | nil => rfl
  | cons b l ih =>
    simp only [List.cons_append, esc, ih]
    split <;> simp
theorem esc_snoc (l : List UInt8) (b : UInt8) : esc (l ++ [b]) = esc l ++ if b = 0 then [0, 255] else [b] := by
  rw [esc_append]
  congr 1
theorem esc_length_le (l : List UInt8) : (esc l).length ≤ 2 * l.length := by
  induction l with
  | nil => simp [esc]
  | cons b l ih =>
    simp only [esc]
    split <;> simp <;> omega
def txt (l : List UInt8) : List UInt8 := esc l ++ [0, 1]
theorem txt_length_le (l : List UInt8) : (txt l).length ≤ 2 * l.length + 2 := by
  have := esc_length_le l
  simp [txt]
  omega
/-- A whole number's eight bytes (v, as the 64 bits that it is, and 2^63). -/
def int8 (v : Int) : List UInt8 := beB 8 ((v + 9223372036854775808) % 18446744073709551616).toNat
end Go.Proofs.YtdkkbglfipkmdaaDoor

/- Appending bytes: the laws at this program's numbers. -/
namespace Go.Proofs.YtdkkbglfipkmdaaDoor
open Go Go.RowKit

theorem info_u8 : (Tryd.prog.info? 5).map (fun i => (i.zero, i.size, i.bytes)) = some (some (.int .u8 0), 1, 1) := by kernel_rfl
theorem und_bytes : Tryd.prog.underlying 24 = some (.slice 5) := by kernel_rfl
theorem und_u8 : Tryd.prog.underlying 5 = some (.int .u8) := by kernel_rfl
theorem und_string : Tryd.prog.underlying 9 = some .string := by kernel_rfl

/-- A row of bytes that begins new from block B on. -/
def OwnB (w : World) (B : Nat) (v : Value) (l : List UInt8) : Prop := w.ownsRow B 5 1 v l.length (bcells l)
theorem OwnB.bytes {w : World} {B : Nat} {v : Value} {l : List UInt8} (h : OwnB w B v l) : BytesIn w v l := SliceIn.of_owns h
theorem OwnB.ext {w w' : World} {B : Nat} {v : Value} {l : List UInt8} (h : OwnB w B v l) (hE : Ext w w') : OwnB w' B v l := ownsRow_ext h hE
theorem OwnB.base {w : World} {B B' : Nat} {v : Value} {l : List UInt8} (h : OwnB w B v l) (hb : B' ≤ B) : OwnB w B' v l := ownsRow_base h hb

theorem byte_of {X : Int} (h0 : 0 ≤ X) (h1 : X < 256) : ((UInt8.ofNat X.toNat).toNat : Int) = X := by
  have : X.toNat < 256 := by omega
  rw [UInt8.toNat_ofNat_of_lt' this]
  omega

/-- A slice of bytes that may be appended to: a row of the call's own, or one without spare room. -/
def Tip (w : World) (B : Nat) (v : Value) (l : List UInt8) : Prop := OwnB w B v l ∨ ∃ ao, v = .slice ao l.length l.length ∧ BytesIn w v l
theorem Tip.own {w : World} {B : Nat} {v : Value} {l : List UInt8} (h : OwnB w B v l) : Tip w B v l := .inl h
theorem Tip.full {w : World} {B : Nat} {ao : Option Addr} {l : List UInt8} (h : BytesIn w (.slice ao l.length l.length) l) : Tip w B (.slice ao l.length l.length) l := .inr ⟨_, rfl, h⟩
theorem Tip.nil (w : World) (B : Nat) : Tip w B (.slice none 0 0) [] := .inl (World.ownsRow_nil w B _ _)
theorem Tip.ext {w w' : World} {B : Nat} {v : Value} {l : List UInt8} (h : Tip w B v l) (hE : Ext w w') : Tip w' B v l :=
  h.imp (fun h => h.ext hE) fun ⟨ao, e, h⟩ => ⟨ao, e, h.ext hE⟩
theorem Tip.bytes {w : World} {B : Nat} {v : Value} {l : List UInt8} (h : Tip w B v l) : BytesIn w v l := h.elim OwnB.bytes fun ⟨_, _, h⟩ => h

theorem cs1 {X : Int} (h0 : 0 ≤ X) (h1 : X < 256) : (#[Value.int .u8 X] : Array Value).toList = bcells [UInt8.ofNat X.toNat] := by
  simp only [bcells, List.map_cons, List.map_nil, byte_of h0 h1]
theorem csb (b : UInt8) : (#[Value.int .u8 (b.toNat : Int)] : Array Value).toList = bcells [b] := rfl

/-- 'append(b, x, ..)' of bytes: the world at hand is w with the new bytes laid. -/
theorem appB {ops : Array Oper} {rest : List Oper} {o : Oper} {a : Act} {Q : Exit → Act → World → Prop} (w : World) (hg : o.guard = none) (s x : Operand)
    (hop : o.op = Op.call { callee := Callee.builtin Builtin.append, args := #[s, x], argTypes := #[24, 24] })
    (w0 : World) (hE : Ext w0 w) (v : Value) (l : List UInt8) (cs : Array Value) (news : List UInt8) (hcs : cs.toList = bcells news) (hm : 0 < news.length) (hs : a.eval s = v) (hT : Tip w w0.heap.size v l)
    (m : Nat) (hx : a.eval x = .slice (some ⟨w.heap.size, 0, none⟩) m m) (hmn : m = news.length) (hb : l.length + news.length ≤ 140737488355328)
    (hK : ∀ v' w', OwnB w' w0.heap.size v' (l ++ news) → Ext w0 w' → wpList Tryd.prog ops Q rest (a.put o.dst v') w') : wpList Tryd.prog ops Q (o :: rest) a (w.alloc (.cells cs 5)) := by
  subst hmn
  obtain ⟨i0, hi, hz0, hz1, hz2⟩ := info_parts info_u8
  have hT := hT.ext ((Ext.refl w).alloc (.cells cs 5))
  have hn : (bcells news).length = news.length * 1 := by simp
  have hc : ∀ j u, (bcells news)[j]? = some u → (w.alloc (.cells cs 5)).cell? ((⟨w.heap.size, 0, none⟩ : Addr).add j) = some u := by
    intro j u hj
    rw [Addr.add_lit, Nat.zero_add, cell_of_row _ w.heap.size j cs 5 (0, 0) (heap_alloc_new w _)]
    rw [← hcs] at hj
    simpa using hj
  have h1c : ∀ u ∈ bcells news, u.oneCell' = true := by
    intro u hu
    simp only [bcells, List.mem_map] at hu
    obtain ⟨b, _, rfl⟩ := hu
    rfl
  rcases hT with hown | ⟨ao, rfl, hin⟩
  · refine wpList_append_own _ hg s x 24 hop w0.heap.size 5 i0 (.int .u8 0) 1 1 und_bytes hi hz0 hz1 hz2 rfl (by decide) v l.length (bcells l) hs hown ⟨w.heap.size, 0, none⟩ news.length news.length (bcells news) hx hn hc h1c (by unfold maxLen; omega) (by omega) (by have := hE.le; simp; omega) ?_
    intro v' w' h2 h3 _
    refine hK v' w' ?_ (Ext.grownOwn (hE.alloc _) hown (Nat.le_refl _) h3)
    unfold OwnB
    rw [List.length_append, bcells_append]
    exact h2
  · refine wpList_append_fresh _ hg s x 24 hop 5 i0 (.int .u8 0) 1 1 und_bytes hi hz0 hz1 hz2 rfl (by decide) ao l.length (bcells l) hs hin (by simp) ⟨w.heap.size, 0, none⟩ news.length news.length (bcells news) hx hn hc h1c hm (by unfold maxLen; omega) (by omega) ?_
    intro v' w' h2 h3
    refine hK v' w' ?_ ((hE.alloc _).grown h3 (by intro k hk; cases hk))
    unfold OwnB
    rw [List.length_append, bcells_append]
    exact ownsRow_base h2 (by have := hE.le; simp; omega)
end Go.Proofs.YtdkkbglfipkmdaaDoor

/- Package token (and clerestoryref03): places of texts. -/
namespace Go.Proofs.YtdkkbglfipkmdaaDoor
open Go Go.RowKit
attribute [local go_sem] yields yUpon

set_option maxHeartbeats 400000 in
theorem tcut_any (t : Int) (h0 : 0 ≤ t) (h1 : t < 2147483647) (w : World) :
    Calls Tryd.prog 139 #[.int .i64 t] w fun e w' => e = .returned (.int .i64 t) ∧ w = w' := by
  have h2 : max 0 (min t 2147483646) = t := by omega
  have H2 := Lib.hid h2
  clear h2
  go_enter Tryd.func139, Tryd.ntmps139
  go_wp2
  all_goals
    go_ret
    first | exact ⟨ret_int H2.out, rfl⟩ | exact ⟨ret_int (by omega), rfl⟩

set_option maxHeartbeats 400000 in
theorem tround_any (p : Nat) (t b : Int) (e : TypeId) (h0 : 0 ≤ t) (h1 : t < 2147483647) (b0 : 0 ≤ b) (b1 : b < 256) (w : World) (hb : BoxAt w p #[.int .i64 t] e) :
    Calls Tryd.prog 140 #[.int .u8 b, .pointer (some ⟨p, 0, none⟩)] w fun e w' => e = .returned (.tuple #[]) ∧ w' = w.setCell ⟨p, 0, none⟩ (.int .i64 ((257 * t + b + 1) % 2147483647)) := by
  have c0 := hb.cell 0
  have f0 := hb.free 0
  simp at c0
  go_enter Tryd.func140, Tryd.ntmps140
  go_wp2
  go_end0
  exact ⟨rfl, rfl⟩

theorem tok_step (t : Nat) (l : List UInt8) (k : Nat) (h : k < l.length) : (257 * (tok t (l.take k) : Int) + ((l[k]).toNat : Int) + 1) % 2147483647 = (tok t (l.take (k + 1)) : Int) := by
  rw [List.take_succ_eq_append_getElem h, tok_snoc]
  omega

set_option maxHeartbeats 1000000 in
theorem tmore_any (t : Nat) (ht : t < 2147483647) (s : ByteArray) (hs : s.size ≤ maxLen) (w : World) :
    Calls Tryd.prog 107 #[.int .i64 (t : Int), .string s] w fun e w' => e = .returned (.int .i64 (tok t s.data.toList : Int)) ∧ Ext w w' := by
  unfold maxLen at hs
  have E1 := (Ext.refl w).alloc (.cells #[.int .i64 (t : Int)] 3)
  have hb := BoxAt.made w #[.int .i64 (t : Int)] 3
  have c0 := hb.cell 0
  have f0 := hb.free 0
  simp at c0
  go_enter Tryd.func107, Tryd.ntmps107
  go_wp2_with (go_at_call 139; go_must (refine (tcut_any _ (by omega) (by omega) _).mono ?_); rintro e w1 ⟨rfl, rfl⟩)
  go_loopw [6, 12] (fun _ i wr => ∃ k : Nat, k ≤ s.size ∧ i = .int .i64 k ∧ BoxAt wr w.heap.size #[.int .i64 (tok t (s.data.toList.take k) : Int)] 3 ∧ Ext w wr) (fun _ i _ => s.size - (intOf i).toNat)
  case atStart => exact ⟨0, Nat.zero_le _, rfl, hb, E1⟩
  case round =>
    obtain ⟨k, hk, rfl, hbox, hE⟩ := hrel
    have hlt := tok_lt (s.data.toList.take k) t ht
    by_cases hks : k < s.size
    · have hst : (257 * (tok t (s.data.toList.take k) : Int) + (s[k].toNat : Int) + 1) % 2147483647 = (tok t (s.data.toList.take (k + 1)) : Int) := tok_step t s.data.toList k hks
      have hb2 := hbox.set 0 (.int .i64 ((257 * (tok t (s.data.toList.take k) : Int) + (s[k].toNat : Int) + 1) % 2147483647))
      have HS := Lib.hid hst
      have hbyte := s[k].toNat_lt
      clear hst c0 f0
      go_wp2_with fail
      refine (tround_any w.heap.size _ _ 3 (by omega) (by omega) (by omega) (by omega) _ hbox).mono ?_
      rintro e w2 ⟨rfl, rfl⟩
      go_wp2
      go_roundw
      case rel => exact ⟨k + 1, by omega, by go_num, by rw [← HS.out]; exact hb2, hE.setCell (Nat.le_refl _) _⟩
      case measure => simp [intOf]; omega
    · obtain rfl : k = s.size := by omega
      have e : s.data.toList.take s.size = s.data.toList := List.take_of_length_le (Nat.le_of_eq rfl)
      rw [e] at hbox
      have c1 := hbox.cell 0
      simp at c1
      clear c0 f0
      go_wp2
      go_ret
      exact ⟨rfl, hE⟩

theorem tof_any (s : ByteArray) (hs : s.size ≤ maxLen) (w : World) :
    Calls Tryd.prog 106 #[.string s] w fun e w' => e = .returned (.int .i64 (tok 1 s.data.toList : Int)) ∧ Ext w w' := by
  go_enter Tryd.func106, Tryd.ntmps106
  go_wp2_with fail
  refine (tmore_any 1 (by decide) s hs _).mono ?_
  rintro e w1 ⟨rfl, hE⟩
  go_wp2
  go_ret
  exact ⟨rfl, hE⟩

set_option maxHeartbeats 400000 in
theorem rcut_any (t : Int) (h0 : 0 ≤ t) (h1 : t < 2147483647) (w : World) :
    Calls Tryd.prog 164 #[.int .i64 t] w fun e w' => e = .returned (.int .i64 t) ∧ w = w' := by
  have h2 : min (max t 0) 2147483646 = t := by omega
  have H2 := Lib.hid h2
  clear h2
  go_enter Tryd.func164, Tryd.ntmps164
  go_wp2
  all_goals
    go_ret
    first | exact ⟨ret_int H2.out, rfl⟩ | exact ⟨ret_int (by omega), rfl⟩

set_option maxHeartbeats 1000000 in
theorem rmore_any (t : Nat) (ht : t < 2147483647) (s : ByteArray) (hs : s.size ≤ maxLen) (w : World) :
    Calls Tryd.prog 141 #[.int .i64 (t : Int), .string s] w fun e w' => e = .returned (.int .i64 (tok t s.data.toList : Int)) ∧ w = w' := by
  unfold maxLen at hs
  go_enter Tryd.func141, Tryd.ntmps141
  go_wp2_with (go_at_call 164; go_must (refine (rcut_any _ (by omega) (by omega) _).mono ?_); rintro e w1 ⟨rfl, rfl⟩)
  go_loop [5, 6] (fun h i => ∃ k : Nat, k ≤ s.size ∧ i = .int .i64 k ∧ h = .int .i64 (tok t (s.data.toList.take k) : Int)) (fun _ i => s.size - (intOf i).toNat)
  case atStart => exact ⟨0, Nat.zero_le _, rfl, rfl⟩
  case round =>
    obtain ⟨k, hk, rfl, rfl⟩ := hrel
    have hlt := tok_lt (s.data.toList.take k) t ht
    by_cases hks : k < s.size
    · have hst : (257 * (tok t (s.data.toList.take k) : Int) + (s[k].toNat : Int) + 1) % 2147483647 = (tok t (s.data.toList.take (k + 1)) : Int) := tok_step t s.data.toList k hks
      have HS := Lib.hid hst
      have hbyte := s[k].toNat_lt
      clear hst
      go_wp2
      go_round
      case rel => exact ⟨k + 1, by omega, by go_num, by rw [← HS.out]⟩
      case measure => simp [intOf]; omega
    · obtain rfl : k = s.size := by omega
      have e : s.data.toList.take s.size = s.data.toList := List.take_of_length_le (Nat.le_of_eq rfl)
      have HE := Lib.hid e
      clear e
      go_wp2
      go_ret
      exact ⟨ret_int (by rw [HE.out]), rfl⟩

theorem rof_any (s : ByteArray) (hs : s.size ≤ maxLen) (w : World) :
    Calls Tryd.prog 109 #[.string s] w fun e w' => e = .returned (.int .i64 (tok 1 s.data.toList : Int)) ∧ w = w' := by
  go_enter Tryd.func109, Tryd.ntmps109
  go_wp2_with fail
  refine (rmore_any 1 (by decide) s hs _).mono ?_
  rintro e w1 ⟨rfl, rfl⟩
  go_wp2
  go_ret
  exact ⟨rfl, rfl⟩

end Go.Proofs.YtdkkbglfipkmdaaDoor

/- The Tree laws' awake: tree.Sums without partitions, tree.Texts of one number. -/
namespace Go.Proofs.YtdkkbglfipkmdaaDoor
open Go Go.RowKit
attribute [local go_sem] yields yUpon

/-- ring.Check. -/
def confB (n c t : Int) : Bool := decide (1 ≤ n) && decide (n ≤ 5) && decide (1 ≤ c) && decide (c ≤ n) && decide (1 ≤ t) && decide (t ≤ 100)

set_option maxHeartbeats 2000000 in
theorem rgcheck_any (n c t : Int) (w : World) :
    Calls Tryd.prog 105 #[.agg #[.int .i64 n, .int .i64 c, .int .i64 t]] w fun e w' => e = .returned (.bool (confB n c t)) ∧ Ext w w' := by
  have hb := BoxAt.made w #[.int .i64 n, .int .i64 c, .int .i64 t] 77
  have c0 := hb.cell 0
  have c1 := hb.cell 1
  have c2 := hb.cell 2
  simp at c0 c1 c2
  have hE := (Ext.refl w).alloc (.cells #[.int .i64 n, .int .i64 c, .int .i64 t] 77)
  have HR : Hid (∀ q : Bool, q = confB n c t → ∀ y, Ext w y → (Ending.returned (.bool q) = .returned (.bool (confB n c t)) ∧ Ext w y)) := Lib.hid fun q h y hy => ⟨by rw [h], hy⟩
  go_enter Tryd.func105, Tryd.ntmps105
  go_wp2
  all_goals
    go_ret
    exact HR.out _ (by rw [Bool.eq_iff_iff]; simp [confB]; omega) _ hE

/-- The array of tree.Sums when k of its places have been set. -/
def onesA (k : Nat) : Array Value := (List.replicate k (Value.int .i64 1) ++ List.replicate (16 - k) (Value.int .i64 0)).toArray
theorem onesA_set {k : Nat} (h : k < 16) : (onesA k).setIfInBounds k (.int .i64 1) = onesA (k + 1) := by
  unfold onesA
  apply Array.ext'
  simp
  rw [show 16 - k = (16 - (k + 1)) + 1 by omega, List.replicate_succ, List.replicate_succ']
  simp
theorem onesA_at {k : Nat} (h : k < 16) : (onesA k)[k]? = some (.int .i64 0) := by
  unfold onesA
  rw [List.getElem?_toArray, List.getElem?_append_right (by simp)]
  rw [List.length_replicate, Nat.sub_self, List.getElem?_replicate, if_pos (by omega)]
theorem onesA_full {k : Nat} (h : k < 16) : (onesA 16)[k]? = some (.int .i64 1) := by
  unfold onesA
  rw [List.getElem?_toArray, List.getElem?_append_left (by simpa using h)]
  rw [List.getElem?_replicate, if_pos h]

set_option maxHeartbeats 4000000 in
theorem sums_none (w : World) :
    Calls Tryd.prog 47 #[.agg #[.int .i64 1, .int .i64 1, .int .i64 1], .slice none 0 0, .int .i64 0, .int .i64 0] w fun e w' => ∃ b, (e = .returned (.slice (some ⟨b, 0, none⟩) 16 16) ∧ Ext w w') ∧ BoxAt w' b (onesA 16) 153 := by
  have hb := BoxAt.made w #[.int .i64 1, .int .i64 1, .int .i64 1] 77
  have hE0 := (Ext.refl w).alloc (.cells #[.int .i64 1, .int .i64 1, .int .i64 1] 77)
  have c0 : (w.alloc (.cells #[.int .i64 1, .int .i64 1, .int .i64 1] 77)).cell? ⟨w.heap.size, 0, none⟩ = some (.int .i64 1) := hb.cell 0
  have c1 : (w.alloc (.cells #[.int .i64 1, .int .i64 1, .int .i64 1] 77)).cell? ⟨w.heap.size, 1, none⟩ = some (.int .i64 1) := hb.cell 1
  have c2 : (w.alloc (.cells #[.int .i64 1, .int .i64 1, .int .i64 1] 77)).cell? ⟨w.heap.size, 2, none⟩ = some (.int .i64 1) := hb.cell 2
  go_enter Tryd.func47, Tryd.ntmps47
  go_wp2_with (go_at_call 105; go_must (refine (rgcheck_any 1 1 1 _).mono ?_); rintro e w1 ⟨rfl, hE1⟩; rw [show confB 1 1 1 = true from rfl])
  go_loopw [19] (fun i wr => ∃ k : Nat, k ≤ 16 ∧ i = .int .i64 k ∧ BoxAt wr w1.heap.size (onesA k) 153 ∧ Ext w1 wr) (fun i _ => 16 - (intOf i).toNat)
  case atStart => exact ⟨0, Nat.zero_le _, rfl, BoxAt.made w1 _ _, (Ext.refl w1).alloc _⟩
  case round =>
    obtain ⟨k, hk, rfl, hbox, hE⟩ := hrel
    by_cases hlt : k < 16
    · have HA := Lib.hid (onesA_at hlt)
      have HS := Lib.hid (onesA_set hlt)
      go_wp2_with (go_at_call 106; go_must (refine (tof_any ⟨#[]⟩ (by decide) _).mono ?_); rintro e w2 ⟨rfl, hE2⟩; rw [show (tok 1 (⟨#[]⟩ : ByteArray).data.toList : Int) = 1 from rfl]; have hbox2 := hbox.ext hE2; have cc := hbox2.cell k; have ff := hbox2.free k; rw [HA.out] at cc)
      go_roundw
      case rel => exact ⟨k + 1, by omega, by go_num, by rw [← HS.out]; exact hbox2.set k _, (hE.trans hE2).setCell (Nat.le_refl _) _⟩
      case measure => simp [intOf]; omega
    · obtain rfl : k = 16 := by omega
      go_wp2
      go_loop [28] (fun i => i = .int .i64 0) (fun _ => 0)
      case atStart => rfl
      case round =>
        subst hrel
        go_wp2
        go_ret
        exact ⟨_, ⟨rfl, (hE0.trans hE1).trans hE⟩, hbox⟩

theorem stx_12 : stx 12 = ⟨#[49, 50]⟩ := by
  have h : Lib.itoa (max 12 0) = [49, 50] := by
    unfold Lib.itoa
    rw [if_neg (by omega), show (max (12 : Int) 0).toNat = 12 by omega, Lib.decDigits_two (by omega) (by omega)]
    rfl
  unfold stx
  rw [h]

theorem ints_one (w : World) (x : Int) (e : TypeId) : IntsIn (w.alloc (.cells #[.int .i64 x] e)) (.slice (some ⟨w.heap.size, 0, none⟩) 1 1) .i64 [x] := by
  refine ⟨some ⟨w.heap.size, 0, none⟩, 1, rfl, by simp, by decide, nofun, fun j u hj => ⟨w.heap.size, 0, rfl, ?_⟩⟩
  rw [Nat.zero_add, (BoxAt.made w #[.int .i64 x] e).cell j]
  simpa [kcells] using hj

set_option maxHeartbeats 4000000 in
theorem awake23_any (w : World) (hT : TabP w) : Calls Tryd.prog 39 #[] w fun e w' => e = .returned (.bool true) ∧ Ext w w' := by
  have HT := Lib.hid hT
  clear hT
  go_enter Tryd.func39, Tryd.ntmps39
  go_wp2_with (first
    | (go_at_call 47; go_must (refine (sums_none _).mono ?_); rintro e w1 ⟨b1, ⟨rfl, hE1⟩, hb1⟩)
    | (go_at_call 40; go_must (refine (texts_any _ [12] _ (ints_one w1 12 3) (by simp) (by simp) (pow10_ext HT.out (hE1.alloc _))).mono ?_); rintro e w2 ⟨v2, ⟨rfl, hE2⟩, ho2⟩; have h2 : TsIn w2 v2 [⟨#[49, 50]⟩] := (by have h := SliceIn.of_owns ho2; rw [show stxs [12] = [⟨#[49, 50]⟩] from (by simp [stxs, stx_12])] at h; exact h); obtain ⟨a2, c2, rfl, hc2, hcm2, hcell2⟩ := h2.get; obtain ⟨g2, o2, rfl, x0⟩ := hcell2 0 (by simp); have hE12 := ((Ext.refl w1).alloc _).trans hE2; have hb2 := hb1.ext hE12; have y0 := hb2.cell 0; rw [onesA_full (by omega)] at y0; have y15 := hb2.cell 15; rw [onesA_full (by omega)] at y15; replace x0 : w2.cell? ⟨g2, o2, none⟩ = some (.string ⟨#[49, 50]⟩) := x0))
  go_ret
  exact ⟨rfl, hE1.trans hE12⟩
end Go.Proofs.YtdkkbglfipkmdaaDoor
