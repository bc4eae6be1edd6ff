/- Plain laws on numbers and their bytes; no program. -/
import Derived.Test.YtcmgeccgahakbaaDoorS1
import Derived.Test.YtcmgeccgahakbaaDoorProg
set_option linter.unusedSimpArgs false
set_option linter.unusedVariables false
namespace Go.Proofs.YtcmgeccgahakbaaDoor

theorem tmod_pos {v n : Int} (h : 1 ≤ n) : 0 ≤ v.tmod n → v.tmod n = v % n := by
  intro h0
  rw [Int.tmod_eq_emod] at *
  split at h0 <;> split <;> try omega
  have := Int.emod_nonneg v (show n ≠ 0 by omega)
  have := Int.emod_lt_of_pos v (show 0 < n by omega)
  omega
theorem tmod_neg {v n : Int} (h : 1 ≤ n) : v.tmod n < 0 → v.tmod n + n = v % n := by
  intro h0
  rw [Int.tmod_eq_emod] at *
  split at h0 <;> split <;> try omega
  have := Int.emod_nonneg v (show n ≠ 0 by omega)
  omega
theorem tmod_lo {v n : Int} (h : 1 ≤ n) : -n < v.tmod n ∧ v.tmod n < n := by
  rw [Int.tmod_eq_emod]
  have := Int.emod_nonneg v (show n ≠ 0 by omega)
  have := Int.emod_lt_of_pos v (show 0 < n by omega)
  split <;> omega

/-- So many bytes of a number, the greatest first. -/
def beB : Nat → Nat → List UInt8
  | 0, _ => []
  | k + 1, x => UInt8.ofNat (x / 256 ^ k) :: beB k x

theorem beB_length (k x : Nat) : (beB k x).length = k := by
  induction k with
  | zero => rfl
  | succ k ih => simp [beB, ih]

theorem beB_get {k x j : Nat} (h : j < k) : (beB k x)[j]? = some (UInt8.ofNat (x / 256 ^ (k - 1 - j))) := by
  induction k generalizing j with
  | zero => omega
  | succ k ih =>
    cases j with
    | zero => simp [beB]
    | succ j =>
      simp only [beB, List.getElem?_cons_succ]
      rw [ih (by omega)]
      congr 4
      omega

theorem byte_shift (x k : Nat) : UInt8.ofNat (((x : Int) / 2 ^ (8 * k) % 256).toNat) = UInt8.ofNat (x / 256 ^ k) := by
  have e : ((x : Int) / 2 ^ (8 * k) % 256).toNat = x / 256 ^ k % 256 := by
    rw [show (2 : Int) ^ (8 * k) = ((256 ^ k : Nat) : Int) by rw [Int.pow_mul]; simp]
    omega
  rw [e]
  apply UInt8.toNat.inj
  simp

/-- How many bits, how many bytes a number takes. -/
def bitsOf (x : Nat) : Nat := if x = 0 then 0 else Nat.log2 x + 1
def nlen (x : Nat) : Nat := (bitsOf x + 7) / 8

theorem bitsOf_lt (x : Nat) : x < 2 ^ bitsOf x := by
  unfold bitsOf
  split
  · omega
  · exact Nat.lt_log2_self
theorem bitsOf_le (x : Nat) (h : x ≠ 0) : 2 ^ (bitsOf x - 1) ≤ x := by
  unfold bitsOf
  rw [if_neg h]
  exact Nat.log2_self_le h
theorem bitsOf_unique {x n : Nat} (h1 : x < 2 ^ n) (h2 : n = 0 ∨ 2 ^ (n - 1) ≤ x) : bitsOf x = n := by
  by_cases hx : x = 0
  · subst hx
    rcases h2 with rfl | h2
    · rfl
    · have : 0 < 2 ^ (n - 1) := Nat.two_pow_pos _
      omega
  · have a := bitsOf_lt x
    have b := bitsOf_le x hx
    have hn : n ≠ 0 := by rintro rfl; simp at h1; exact hx h1
    have h2 : 2 ^ (n - 1) ≤ x := h2.resolve_left hn
    have hb : bitsOf x ≠ 0 := by unfold bitsOf; rw [if_neg hx]; omega
    have c : bitsOf x - 1 < n := (Nat.pow_lt_pow_iff_right (a := 2) (by omega)).1 (Nat.lt_of_le_of_lt b h1)
    have d : n - 1 < bitsOf x := (Nat.pow_lt_pow_iff_right (a := 2) (by omega)).1 (Nat.lt_of_le_of_lt h2 a)
    omega

theorem bitsOf_le64 {x : Nat} (h : x < 18446744073709551616) : bitsOf x ≤ 64 := by
  by_cases hx : x = 0
  · subst hx; simp [bitsOf]
  · have b := bitsOf_le x hx
    have : 2 ^ (bitsOf x - 1) < 2 ^ 64 := Nat.lt_of_le_of_lt b (by simpa using h)
    have := (Nat.pow_lt_pow_iff_right (a := 2) (by omega)).1 this
    omega

/-- A number's bytes: how many they are, and they. -/
def num (x : Nat) : List UInt8 := UInt8.ofNat (nlen x) :: beB (nlen x) x

/-- A text's bytes. -/
def esc : List UInt8 → List UInt8
  | [] => []
  | b :: l => if b = 0 then 0 :: 255 :: esc l else b :: esc l
theorem esc_append (l m : List UInt8) : esc (l ++ m) = esc l ++ esc m := by
  induction l with
  | nil => rfl
  | cons b l ih =>
    simp only [List.cons_append, esc, ih]
    split <;> simp
theorem esc_snoc (l : List UInt8) (b : UInt8) : esc (l ++ [b]) = esc l ++ if b = 0 then [0, 255] else [b] := by
  rw [esc_append]
  congr 1
theorem esc_length_le (l : List UInt8) : (esc l).length ≤ 2 * l.length := by
  induction l with
  | nil => simp [esc]
  | cons b l ih =>
    simp only [esc]
    split <;> simp <;> omega
def txt (l : List UInt8) : List UInt8 := esc l ++ [0, 1]
theorem txt_length_le (l : List UInt8) : (txt l).length ≤ 2 * l.length + 2 := by
  have := esc_length_le l
  simp [txt]
  omega
/-- A whole number's eight bytes (v, as the 64 bits that it is, and 2^63). -/
def int8 (v : Int) : List UInt8 := beB 8 ((v + 9223372036854775808) % 18446744073709551616).toNat
end Go.Proofs.YtcmgeccgahakbaaDoor

/- Appending bytes: the laws at this program's numbers. -/
namespace Go.Proofs.YtcmgeccgahakbaaDoor
open Go Go.RowKit

theorem info_u8 : (Tryd.prog.info? 5).map (fun i => (i.zero, i.size, i.bytes)) = some (some (.int .u8 0), 1, 1) := by kernel_rfl
theorem und_bytes : Tryd.prog.underlying 33 = some (.slice 5) := by kernel_rfl
theorem und_u8 : Tryd.prog.underlying 5 = some (.int .u8) := by kernel_rfl
theorem und_string : Tryd.prog.underlying 9 = some .string := by kernel_rfl

/-- A row of bytes that begins new from block B on. -/
def OwnB (w : World) (B : Nat) (v : Value) (l : List UInt8) : Prop := w.ownsRow B 5 1 v l.length (bcells l)
theorem OwnB.bytes {w : World} {B : Nat} {v : Value} {l : List UInt8} (h : OwnB w B v l) : BytesIn w v l := SliceIn.of_owns h
theorem OwnB.ext {w w' : World} {B : Nat} {v : Value} {l : List UInt8} (h : OwnB w B v l) (hE : Ext w w') : OwnB w' B v l := ownsRow_ext h hE
theorem OwnB.base {w : World} {B B' : Nat} {v : Value} {l : List UInt8} (h : OwnB w B v l) (hb : B' ≤ B) : OwnB w B' v l := ownsRow_base h hb

theorem byte_of {X : Int} (h0 : 0 ≤ X) (h1 : X < 256) : ((UInt8.ofNat X.toNat).toNat : Int) = X := by
  have : X.toNat < 256 := by omega
  rw [UInt8.toNat_ofNat_of_lt' this]
  omega

/-- A slice of bytes that may be appended to: a row of the call's own, or one without spare room. -/
def Tip (w : World) (B : Nat) (v : Value) (l : List UInt8) : Prop := OwnB w B v l ∨ ∃ ao, v = .slice ao l.length l.length ∧ BytesIn w v l
theorem Tip.own {w : World} {B : Nat} {v : Value} {l : List UInt8} (h : OwnB w B v l) : Tip w B v l := .inl h
theorem Tip.full {w : World} {B : Nat} {ao : Option Addr} {l : List UInt8} (h : BytesIn w (.slice ao l.length l.length) l) : Tip w B (.slice ao l.length l.length) l := .inr ⟨_, rfl, h⟩
theorem Tip.nil (w : World) (B : Nat) : Tip w B (.slice none 0 0) [] := .inl (World.ownsRow_nil w B _ _)
theorem Tip.ext {w w' : World} {B : Nat} {v : Value} {l : List UInt8} (h : Tip w B v l) (hE : Ext w w') : Tip w' B v l :=
  h.imp (fun h => h.ext hE) fun ⟨ao, e, h⟩ => ⟨ao, e, h.ext hE⟩
theorem Tip.bytes {w : World} {B : Nat} {v : Value} {l : List UInt8} (h : Tip w B v l) : BytesIn w v l := h.elim OwnB.bytes fun ⟨_, _, h⟩ => h

theorem cs1 {X : Int} (h0 : 0 ≤ X) (h1 : X < 256) : (#[Value.int .u8 X] : Array Value).toList = bcells [UInt8.ofNat X.toNat] := by
  simp only [bcells, List.map_cons, List.map_nil, byte_of h0 h1]
theorem csb (b : UInt8) : (#[Value.int .u8 (b.toNat : Int)] : Array Value).toList = bcells [b] := rfl

/-- 'append(b, x, ..)' of bytes: the world at hand is w with the new bytes laid. -/
theorem appB {ops : Array Oper} {rest : List Oper} {o : Oper} {a : Act} {Q : Exit → Act → World → Prop} (w : World) (hg : o.guard = none) (s x : Operand)
    (hop : o.op = Op.call { callee := Callee.builtin Builtin.append, args := #[s, x], argTypes := #[33, 33] })
    (w0 : World) (hE : Ext w0 w) (v : Value) (l : List UInt8) (cs : Array Value) (news : List UInt8) (hcs : cs.toList = bcells news) (hm : 0 < news.length) (hs : a.eval s = v) (hT : Tip w w0.heap.size v l)
    (m : Nat) (hx : a.eval x = .slice (some ⟨w.heap.size, 0, none⟩) m m) (hmn : m = news.length) (hb : l.length + news.length ≤ 140737488355328)
    (hK : ∀ v' w', OwnB w' w0.heap.size v' (l ++ news) → Ext w0 w' → wpList Tryd.prog ops Q rest (a.put o.dst v') w') : wpList Tryd.prog ops Q (o :: rest) a (w.alloc (.cells cs 5)) := by
  subst hmn
  obtain ⟨i0, hi, hz0, hz1, hz2⟩ := info_parts info_u8
  have hT := hT.ext ((Ext.refl w).alloc (.cells cs 5))
  have hn : (bcells news).length = news.length * 1 := by simp
  have hc : ∀ j u, (bcells news)[j]? = some u → (w.alloc (.cells cs 5)).cell? ((⟨w.heap.size, 0, none⟩ : Addr).add j) = some u := by
    intro j u hj
    rw [Addr.add_lit, Nat.zero_add, cell_of_row _ w.heap.size j cs 5 (0, 0) (heap_alloc_new w _)]
    rw [← hcs] at hj
    simpa using hj
  have h1c : ∀ u ∈ bcells news, u.oneCell' = true := by
    intro u hu
    simp only [bcells, List.mem_map] at hu
    obtain ⟨b, _, rfl⟩ := hu
    rfl
  rcases hT with hown | ⟨ao, rfl, hin⟩
  · refine wpList_append_own _ hg s x 33 hop w0.heap.size 5 i0 (.int .u8 0) 1 1 und_bytes hi hz0 hz1 hz2 rfl (by decide) v l.length (bcells l) hs hown ⟨w.heap.size, 0, none⟩ news.length news.length (bcells news) hx hn hc h1c (by unfold maxLen; omega) (by omega) (by have := hE.le; simp; omega) ?_
    intro v' w' h2 h3 _
    refine hK v' w' ?_ (Ext.grownOwn (hE.alloc _) hown (Nat.le_refl _) h3)
    unfold OwnB
    rw [List.length_append, bcells_append]
    exact h2
  · refine wpList_append_fresh _ hg s x 33 hop 5 i0 (.int .u8 0) 1 1 und_bytes hi hz0 hz1 hz2 rfl (by decide) ao l.length (bcells l) hs hin (by simp) ⟨w.heap.size, 0, none⟩ news.length news.length (bcells news) hx hn hc h1c hm (by unfold maxLen; omega) (by omega) ?_
    intro v' w' h2 h3
    refine hK v' w' ?_ ((hE.alloc _).grown h3 (by intro k hk; cases hk))
    unfold OwnB
    rw [List.length_append, bcells_append]
    exact ownsRow_base h2 (by have := hE.le; simp; omega)
end Go.Proofs.YtcmgeccgahakbaaDoor

/- Place: any number as one below another. -/
namespace Go.Proofs.YtcmgeccgahakbaaDoor
open Go Go.RowKit

set_option maxHeartbeats 400000 in
theorem place_any (v n : Int) (h : 1 ≤ n) (hn : n ≤ 9223372036854775807) (w : World) :
    Calls Tryd.prog 32 #[.int .i64 v, .int .i64 n] w fun e w' => e = .returned (.int .i64 (v % n)) ∧ w = w' := by
  have hlo := (tmod_lo (v := v) h).1
  have hhi := (tmod_lo (v := v) h).2
  by_cases h0 : v.tmod n < 0
  · have HE := Lib.hid (tmod_neg h h0)
    go_enter Tryd.func32, Tryd.ntmps32
    go_wp2
    go_ret
    exact ⟨ret_int HE.out, rfl⟩
  · have h0' : 0 ≤ v.tmod n := by omega
    have HE := Lib.hid (tmod_pos h h0')
    go_enter Tryd.func32, Tryd.ntmps32
    go_wp2
    go_ret
    exact ⟨ret_int HE.out, rfl⟩

end Go.Proofs.YtcmgeccgahakbaaDoor

/- order.GetNum: the number at a place. -/
namespace Go.Proofs.YtcmgeccgahakbaaDoor
open Go Go.RowKit
attribute [local go_sem] yields yUpon

/-- The number that bytes are, the first one highest. -/
def valB (l : List UInt8) : Nat := l.foldl (fun v b => v * 256 + b.toNat) 0
theorem valB_snoc (l : List UInt8) (b : UInt8) : valB (l ++ [b]) = valB l * 256 + b.toNat := by simp [valB]
theorem valB_lt : ∀ (n : Nat) (l : List UInt8), l.length = n → valB l < 256 ^ n
  | 0, l, h => by rw [List.eq_nil_of_length_eq_zero h]; simp [valB]
  | n + 1, l, h => by
    have hne : l ≠ [] := by intro e; simp [e] at h
    obtain ⟨m, b, rfl⟩ : ∃ m b, l = m ++ [b] := ⟨_, _, (List.dropLast_concat_getLast hne).symm⟩
    have ih := valB_lt n m (by simpa using h)
    rw [valB_snoc, Nat.pow_succ]
    have := b.toNat_lt
    omega
theorem or_step (V x : Nat) (hx : x < 256) (hV : V < 72057594037927936) : bits .or .u64 (IntKind.u64.wrap ((V : Int) * 256)) (IntKind.u64.wrap (x : Int)) = ((V * 256 + x : Nat) : Int) := by
  have e1 : IntKind.u64.wrap ((V : Int) * 256) = ((V * 256 : Nat) : Int) := by rw [IntKind.wrap_u64]; omega
  have e2 : IntKind.u64.wrap (x : Int) = ((x : Nat) : Int) := by rw [IntKind.wrap_u64]; omega
  rw [e1, e2, bits_or_u64_nat _ _ (by omega) (by omega)]
  have := Nat.shiftLeft_add_eq_or_of_lt (i := 8) (b := x) (by omega) V
  rw [Nat.shiftLeft_eq] at this
  rw [← this]
theorem valB_take (l : List UInt8) (k : Nat) (h : k < l.length) : valB (l.take (k + 1)) = valB (l.take k) * 256 + l[k].toNat := by
  rw [List.take_succ_eq_append_getElem h, valB_snoc]
theorem valB_take_lt (l : List UInt8) (k : Nat) (hk : k < 8) : valB (l.take k) < 72057594037927936 := by
  have h1 := valB_lt _ (l.take k) rfl
  have h2 : (l.take k).length ≤ 7 := by simp; omega
  exact Nat.lt_of_lt_of_le h1 (Nat.pow_le_pow_right (by decide) h2)

/-! ### GetNum -/
/-- The number at a place, the place behind it, the error: for a place that is no less than nought. -/
def getNumN (l : List UInt8) (i : Nat) : Nat × Int × Int :=
  if l.length < i then (0, 0, 1) else
  if h : i < l.length then
    if 8 < l[i].toNat then (0, 0, 6) else
    if 0 < l[i].toNat ∧ l[i + 1]? = some 0 then (0, 0, 6) else
    if l.length < i + 1 + l[i].toNat then (0, 0, 8) else
    (valB ((l.drop (i + 1)).take l[i].toNat), (i : Int) + 1 + l[i].toNat, 0)
  else (0, 0, 8)
def getNum (l : List UInt8) (at_ : Int) : Nat × Int × Int := if at_ < 0 then (0, 0, 1) else getNumN l at_.toNat
def tup3 (p : Nat × Int × Int) : Value := .tuple #[.int .u64 p.1, .int .i64 p.2.1, .int .i64 p.2.2]
theorem tup3_ret {l : List UInt8} {at_ : Int} {x y z : Int} {v : Nat} (h : getNum l at_ = (v, y, z)) (hx : x = (v : Int)) : Ending.returned (.tuple #[.int .u64 x, .int .i64 y, .int .i64 z]) = .returned (tup3 (getNum l at_)) := by rw [h, hx]; rfl

set_option maxHeartbeats 1000000 in
theorem getNum_any (v : Value) (l : List UInt8) (at_ : Int) (w : World) (hv : BytesIn w v l) (hl : l.length ≤ 140737488355328) :
    Calls Tryd.prog 149 #[v, .int .i64 at_] w fun e w' => e = .returned (tup3 (getNum l at_)) ∧ w = w' := by
  obtain ⟨a, c, rfl, hc, hcm, ha, hcell⟩ := hv
  unfold maxLen at hcm
  by_cases h0 : at_ < 0
  · have d0 : decide (at_ < 0) = true := by simpa using h0
    clear hcell ha
    go_enter Tryd.func149, Tryd.ntmps149
    go_wp2
    go_ret3
    refine ⟨tup3_ret (v := 0) ?_ (by rfl), rfl⟩
    unfold getNum
    rw [if_pos h0]
  · have d0 : decide (at_ < 0) = false := by simpa using h0
    obtain ⟨i, rfl⟩ : ∃ i : Nat, at_ = i := ⟨at_.toNat, by omega⟩
    have EN : Hid (getNum l (i : Int) = getNumN l i) := by unfold getNum; rw [if_neg h0]; rfl
    by_cases h1 : l.length < i
    · have d1 : decide ((l.length : Int) < (i : Int)) = true := by simpa using h1
      clear hcell ha
      go_enter Tryd.func149, Tryd.ntmps149
      go_wp2
      go_ret3
      refine ⟨tup3_ret (v := 0) ?_ (by rfl), rfl⟩
      rw [EN.out]
      unfold getNumN
      rw [if_pos h1]
    · have d1 : decide ((l.length : Int) < (i : Int)) = false := by simpa using h1
      by_cases h2 : i < l.length
      · have d2 : ((i : Int) == (l.length : Int)) = false := by simp; omega
        obtain ⟨b, o, rfl, hb⟩ := hcell i (.int .u8 l[i].toNat) (by simp [bcells, h2])
        obtain ⟨n, hn⟩ : ∃ n, n = l[i].toNat := ⟨_, rfl⟩
        have hn256 : n < 256 := by rw [hn]; exact l[i].toNat_lt
        rw [← hn] at hb
        by_cases h3 : 8 < n
        · have d3 : decide ((8 : Int) < (n : Int)) = true := by simp; omega
          have HN := Lib.hid hn
          clear hcell ha hn
          go_enter Tryd.func149, Tryd.ntmps149
          go_wp2
          go_ret3
          refine ⟨tup3_ret (v := 0) ?_ (by rfl), rfl⟩
          rw [EN.out]
          unfold getNumN
          rw [if_neg h1, dif_pos h2, if_pos (by rw [← HN.out]; exact h3)]
        · have d3 : decide ((8 : Int) < (n : Int)) = false := by simp; omega
          have d3' : decide (n > 8) = false := by simp; omega
          by_cases h4 : 0 < n ∧ l[i + 1]? = some 0
          · obtain ⟨h4, h5⟩ := h4
            have h6 : i + 1 < l.length := (List.getElem?_eq_some_iff.1 h5).1
            obtain ⟨b1, o1, e1, hb1⟩ := hcell (i + 1) (.int .u8 0) (by simp [bcells, h5])
            cases e1
            have d4 : decide ((i : Int) + 1 < (i : Int) + 1 + (n : Int)) = true := by simp; omega
            have d5 : decide ((i : Int) + 1 < (l.length : Int)) = true := by simp; omega
            have HN := Lib.hid hn
            clear hcell ha hn
            go_enter Tryd.func149, Tryd.ntmps149
            go_wp2
            go_ret3
            refine ⟨tup3_ret (v := 0) ?_ (by rfl), rfl⟩
            rw [EN.out]
            unfold getNumN
            rw [if_neg h1, dif_pos h2, if_neg (by rw [← HN.out]; exact h3), if_pos ⟨by rw [← HN.out]; exact h4, h5⟩]
          · by_cases hn0 : n = 0
            · have h7 : ¬ l.length < i + 1 + n := by omega
              have d4 : decide ((i : Int) + 1 < (i : Int) + 1 + (n : Int)) = false := by simp; omega
              have hn0 := Lib.hid hn0
              have HN := Lib.hid hn
              have H4 := Lib.hid h4
              have HC := Lib.hid hcell
              have d6 : decide ((l.length : Int) < (i : Int) + 1 + (n : Int)) = false := by simp; omega
              clear hcell ha hn h4
              go_enter Tryd.func149, Tryd.ntmps149
              go_wp2
              all_goals
                go_loop [4, 8, 68] (fun v x j => ∃ k : Nat, k ≤ n ∧ j = .int .i64 k ∧ v = .int .u64 (valB ((l.drop (i + 1)).take k))) (fun v x j => n - (intOf j).toNat)
                case atStart => exact ⟨0, Nat.zero_le _, rfl, rfl⟩
                case round =>
                  obtain ⟨k, hk, rfl, rfl⟩ := hrel
                  by_cases hlt : k < n
                  · first
                    | (exfalso; omega)
                    | (
                    obtain ⟨b2, o2, e2, hb2⟩ := HC.out (i + 1 + k) (.int .u8 l[i + 1 + k].toNat) (by simp [bcells, show i + 1 + k < l.length by omega])
                    cases e2
                    have hb2' : w.cell? ⟨b, o + (i + 1) + k, none⟩ = some (.int .u8 l[i + 1 + k].toNat) := by rw [Nat.add_assoc]; exact hb2
                    have hb3 : w.cell? ⟨b, o + i + 1 + k, none⟩ = some (.int .u8 l[i + 1 + k].toNat) := by rw [show o + i + 1 + k = o + (i + 1 + k) by omega]; exact hb2
                    go_wp2
                    go_round
                    case rel =>
                      refine ⟨k + 1, by omega, by go_num, ?_⟩
                      rw [valB_take _ _ (by simp; omega), ← or_step _ _ (UInt8.toNat_lt _) (valB_take_lt _ _ (by omega))]
                      try simp
                    case measure => simp [intOf] <;> omega)
                  · have hkn : k = n := by omega
                    go_wp2
                    go_ret3
                    refine ⟨tup3_ret (v := valB ((l.drop (i + 1)).take n)) ?_ ?_, rfl⟩
                    · rw [EN.out]
                      unfold getNumN
                      rw [if_neg h1, dif_pos h2, if_neg (by rw [← HN.out]; exact h3), if_neg (by rw [← HN.out]; exact H4.out), if_neg (by rw [← HN.out]; exact h7), ← HN.out]
                      try simp [hn0.out]
                    · first
                      | (rw [hn0.out]; rfl)
                      | rw [← hkn]
            · have d4 : decide ((i : Int) + 1 < (i : Int) + 1 + (n : Int)) = true := by simp; omega
              by_cases h6 : i + 1 < l.length
              · have d5 : decide ((i : Int) + 1 < (l.length : Int)) = true := by simp; omega
                obtain ⟨b1, o1, e1, hb1⟩ := hcell (i + 1) (.int .u8 l[i + 1].toNat) (by simp [bcells, h6])
                cases e1
                have hm0 : ((l[i + 1].toNat : Int) == 0) = false := by
                  simp only [beq_eq_false_iff_ne]
                  intro he
                  exact h4 ⟨by omega, by rw [List.getElem?_eq_getElem h6]; congr 1; exact UInt8.toNat_inj.1 (by simpa using he)⟩
                by_cases h7 : l.length < i + 1 + n
                · have HN := Lib.hid hn
                  have H4 := Lib.hid h4
                  have d6 : decide ((l.length : Int) < (i : Int) + 1 + (n : Int)) = true := by simp; omega
                  clear hcell ha hn h4
                  go_enter Tryd.func149, Tryd.ntmps149
                  go_wp2
                  go_ret3
                  refine ⟨tup3_ret (v := 0) ?_ (by rfl), rfl⟩
                  rw [EN.out]
                  unfold getNumN
                  rw [if_neg h1, dif_pos h2, if_neg (by rw [← HN.out]; exact h3), if_neg (by rw [← HN.out]; exact H4.out), if_pos (by rw [← HN.out]; exact h7)]
                · have HN := Lib.hid hn
                  have H4 := Lib.hid h4
                  have HC := Lib.hid hcell
                  have d6 : decide ((l.length : Int) < (i : Int) + 1 + (n : Int)) = false := by simp; omega
                  clear hcell ha hn h4
                  go_enter Tryd.func149, Tryd.ntmps149
                  go_wp2
                  all_goals
                    go_loop [4, 8, 68] (fun v x j => ∃ k : Nat, k ≤ n ∧ j = .int .i64 k ∧ v = .int .u64 (valB ((l.drop (i + 1)).take k))) (fun v x j => n - (intOf j).toNat)
                    case atStart => exact ⟨0, Nat.zero_le _, rfl, rfl⟩
                    case round =>
                      obtain ⟨k, hk, rfl, rfl⟩ := hrel
                      by_cases hlt : k < n
                      · first
                        | (exfalso; omega)
                        | (
                        obtain ⟨b2, o2, e2, hb2⟩ := HC.out (i + 1 + k) (.int .u8 l[i + 1 + k].toNat) (by simp [bcells, show i + 1 + k < l.length by omega])
                        cases e2
                        have hb2' : w.cell? ⟨b, o + (i + 1) + k, none⟩ = some (.int .u8 l[i + 1 + k].toNat) := by rw [Nat.add_assoc]; exact hb2
                        have hb3 : w.cell? ⟨b, o + i + 1 + k, none⟩ = some (.int .u8 l[i + 1 + k].toNat) := by rw [show o + i + 1 + k = o + (i + 1 + k) by omega]; exact hb2
                        go_wp2
                        go_round
                        case rel =>
                          refine ⟨k + 1, by omega, by go_num, ?_⟩
                          rw [valB_take _ _ (by simp; omega), ← or_step _ _ (UInt8.toNat_lt _) (valB_take_lt _ _ (by omega))]
                          try simp
                        case measure => simp [intOf] <;> omega)
                      · have hkn : k = n := by omega
                        go_wp2
                        go_ret3
                        refine ⟨tup3_ret (v := valB ((l.drop (i + 1)).take n)) ?_ ?_, rfl⟩
                        · rw [EN.out]
                          unfold getNumN
                          rw [if_neg h1, dif_pos h2, if_neg (by rw [← HN.out]; exact h3), if_neg (by rw [← HN.out]; exact H4.out), if_neg (by rw [← HN.out]; exact h7), ← HN.out]
                          try simp [hn0.out]
                        · first
                          | (rw [hn0.out]; rfl)
                          | rw [← hkn]
              · have d5 : decide ((i : Int) + 1 < (l.length : Int)) = false := by simp; omega
                have h7 : l.length < i + 1 + n := by omega
                have HN := Lib.hid hn
                have H4 := Lib.hid h4
                have d6 : decide ((l.length : Int) < (i : Int) + 1 + (n : Int)) = true := by simp; omega
                clear hcell ha hn h4
                go_enter Tryd.func149, Tryd.ntmps149
                go_wp2
                go_ret3
                refine ⟨tup3_ret (v := 0) ?_ (by rfl), rfl⟩
                rw [EN.out]
                unfold getNumN
                rw [if_neg h1, dif_pos h2, if_neg (by rw [← HN.out]; exact h3), if_neg (by rw [← HN.out]; exact H4.out), if_pos (by rw [← HN.out]; exact h7)]
      · have d2 : ((i : Int) == (l.length : Int)) = true := by simp; omega
        clear hcell ha
        go_enter Tryd.func149, Tryd.ntmps149
        go_wp2
        go_ret3
        refine ⟨tup3_ret (v := 0) ?_ (by rfl), rfl⟩
        rw [EN.out]
        unfold getNumN
        rw [if_neg h1, dif_neg h2]
end Go.Proofs.YtcmgeccgahakbaaDoor
