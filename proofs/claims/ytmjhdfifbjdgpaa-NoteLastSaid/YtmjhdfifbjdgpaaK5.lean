/- Plain laws on numbers and their bytes; no program. -/
import Derived.Test.YtmjhdfifbjdgpaaK1
import Derived.Test.YtmjhdfifbjdgpaaProg
set_option linter.unusedSimpArgs false
set_option linter.unusedVariables false
namespace Go.Proofs.Ytmjhdfifbjdgpaa

theorem tmod_pos {v n : Int} (h : 1 ≤ n) : 0 ≤ v.tmod n → v.tmod n = v % n := by
  intro h0
  rw [Int.tmod_eq_emod] at *
  split at h0 <;> split <;> try omega
  have := Int.emod_nonneg v (show n ≠ 0 by omega)
  have := Int.emod_lt_of_pos v (show 0 < n by omega)
  omega
theorem tmod_neg {v n : Int} (h : 1 ≤ n) : v.tmod n < 0 → v.tmod n + n = v % n := by
  intro h0
  rw [Int.tmod_eq_emod] at *
  split at h0 <;> split <;> try omega
  have := Int.emod_nonneg v (show n ≠ 0 by omega)
  omega
theorem tmod_lo {v n : Int} (h : 1 ≤ n) : -n < v.tmod n ∧ v.tmod n < n := by
  rw [Int.tmod_eq_emod]
  have := Int.emod_nonneg v (show n ≠ 0 by omega)
  have := Int.emod_lt_of_pos v (show 0 < n by omega)
  split <;> omega

/-- So many bytes of a number, the greatest first. -/
def beB : Nat → Nat → List UInt8
  | 0, _ => []
  | k + 1, x => UInt8.ofNat (x / 256 ^ k) :: beB k x

theorem beB_length (k x : Nat) : (beB k x).length = k := by
  induction k with
  | zero => rfl
  | succ k ih => simp [beB, ih]

theorem beB_get {k x j : Nat} (h : j < k) : (beB k x)[j]? = some (UInt8.ofNat (x / 256 ^ (k - 1 - j))) := by
  induction k generalizing j with
  | zero => omega
  | succ k ih =>
    cases j with
    | zero => simp [beB]
    | succ j =>
      simp only [beB, List.getElem?_cons_succ]
      rw [ih (by omega)]
      congr 4
      omega

theorem byte_shift (x k : Nat) : UInt8.ofNat (((x : Int) / 2 ^ (8 * k) % 256).toNat) = UInt8.ofNat (x / 256 ^ k) := by
  have e : ((x : Int) / 2 ^ (8 * k) % 256).toNat = x / 256 ^ k % 256 := by
    rw [show (2 : Int) ^ (8 * k) = ((256 ^ k : Nat) : Int) by rw [Int.pow_mul]; simp]
    omega
  rw [e]
  apply UInt8.toNat.inj
  simp

/-- How many bits, how many bytes a number takes. -/
def bitsOf (x : Nat) : Nat := if x = 0 then 0 else Nat.log2 x + 1
def nlen (x : Nat) : Nat := (bitsOf x + 7) / 8

theorem bitsOf_lt (x : Nat) : x < 2 ^ bitsOf x := by
  unfold bitsOf
  split
  · omega
  · exact Nat.lt_log2_self
theorem bitsOf_le (x : Nat) (h : x ≠ 0) : 2 ^ (bitsOf x - 1) ≤ x := by
  unfold bitsOf
  rw [if_neg h]
  exact Nat.log2_self_le h
theorem bitsOf_unique {x n : Nat} (h1 : x < 2 ^ n) (h2 : n = 0 ∨ 2 ^ (n - 1) ≤ x) : bitsOf x = n := by
  by_cases hx : x = 0
  · subst hx
    rcases h2 with rfl | h2
    · rfl
    · have : 0 < 2 ^ (n - 1) := Nat.two_pow_pos _
      omega
  · have a := bitsOf_lt x
    have b := bitsOf_le x hx
    have hn : n ≠ 0 := by rintro rfl; simp at h1; exact hx h1
    have h2 : 2 ^ (n - 1) ≤ x := h2.resolve_left hn
    have hb : bitsOf x ≠ 0 := by unfold bitsOf; rw [if_neg hx]; omega
    have c : bitsOf x - 1 < n := (Nat.pow_lt_pow_iff_right (a := 2) (by omega)).1 (Nat.lt_of_le_of_lt b h1)
    have d : n - 1 < bitsOf x := (Nat.pow_lt_pow_iff_right (a := 2) (by omega)).1 (Nat.lt_of_le_of_lt h2 a)
    omega

theorem bitsOf_le64 {x : Nat} (h : x < 18446744073709551616) : bitsOf x ≤ 64 := by
  by_cases hx : x = 0
  · subst hx; simp [bitsOf]
  · have b := bitsOf_le x hx
    have : 2 ^ (bitsOf x - 1) < 2 ^ 64 := Nat.lt_of_le_of_lt b (by simpa using h)
    have := (Nat.pow_lt_pow_iff_right (a := 2) (by omega)).1 this
    omega

/-- A number's bytes: how many they are, and they. -/
def num (x : Nat) : List UInt8 := UInt8.ofNat (nlen x) :: beB (nlen x) x

/-- A text's bytes. -/
def esc : List UInt8 → List UInt8
  | [] => []
  | b :: l => if b = 0 then 0 :: 255 :: esc l else b :: esc l
theorem esc_append (l m : List UInt8) : esc (l ++ m) = esc l ++ esc m := by
  induction l with
  | nil => rfl
  | cons b l ih =>
    simp only [List.cons_append, esc, ih]
    split <;> simp
theorem esc_snoc (l : List UInt8) (b : UInt8) : esc (l ++ [b]) = esc l ++ if b = 0 then [0, 255] else [b] := by
  rw [esc_append]
  congr 1
theorem esc_length_le (l : List UInt8) : (esc l).length ≤ 2 * l.length := by
  induction l with
  | nil => simp [esc]
  | cons b l ih =>
    simp only [esc]
    split <;> simp <;> omega
def txt (l : List UInt8) : List UInt8 := esc l ++ [0, 1]
theorem txt_length_le (l : List UInt8) : (txt l).length ≤ 2 * l.length + 2 := by
  have := esc_length_le l
  simp [txt]
  omega
/-- A whole number's eight bytes (v, as the 64 bits that it is, and 2^63). -/
def int8 (v : Int) : List UInt8 := beB 8 ((v + 9223372036854775808) % 18446744073709551616).toNat
end Go.Proofs.Ytmjhdfifbjdgpaa

/- Appending bytes: the laws at this program's numbers. -/
namespace Go.Proofs.Ytmjhdfifbjdgpaa
open Go Go.RowKit

theorem info_u8 : (Try.prog.info? 5).map (fun i => (i.zero, i.size, i.bytes)) = some (some (.int .u8 0), 1, 1) := by kernel_rfl
theorem und_bytes : Try.prog.underlying 35 = some (.slice 5) := by kernel_rfl
theorem und_u8 : Try.prog.underlying 5 = some (.int .u8) := by kernel_rfl
theorem und_string : Try.prog.underlying 9 = some .string := by kernel_rfl

/-- A row of bytes that begins new from block B on. -/
def OwnB (w : World) (B : Nat) (v : Value) (l : List UInt8) : Prop := w.ownsRow B 5 1 v l.length (bcells l)
theorem OwnB.bytes {w : World} {B : Nat} {v : Value} {l : List UInt8} (h : OwnB w B v l) : BytesIn w v l := SliceIn.of_owns h
theorem OwnB.ext {w w' : World} {B : Nat} {v : Value} {l : List UInt8} (h : OwnB w B v l) (hE : Ext w w') : OwnB w' B v l := ownsRow_ext h hE
theorem OwnB.base {w : World} {B B' : Nat} {v : Value} {l : List UInt8} (h : OwnB w B v l) (hb : B' ≤ B) : OwnB w B' v l := ownsRow_base h hb

theorem byte_of {X : Int} (h0 : 0 ≤ X) (h1 : X < 256) : ((UInt8.ofNat X.toNat).toNat : Int) = X := by
  have : X.toNat < 256 := by omega
  rw [UInt8.toNat_ofNat_of_lt' this]
  omega

/-- A slice of bytes that may be appended to: a row of the call's own, or one without spare room. -/
def Tip (w : World) (B : Nat) (v : Value) (l : List UInt8) : Prop := OwnB w B v l ∨ ∃ ao, v = .slice ao l.length l.length ∧ BytesIn w v l
theorem Tip.own {w : World} {B : Nat} {v : Value} {l : List UInt8} (h : OwnB w B v l) : Tip w B v l := .inl h
theorem Tip.full {w : World} {B : Nat} {ao : Option Addr} {l : List UInt8} (h : BytesIn w (.slice ao l.length l.length) l) : Tip w B (.slice ao l.length l.length) l := .inr ⟨_, rfl, h⟩
theorem Tip.nil (w : World) (B : Nat) : Tip w B (.slice none 0 0) [] := .inl (World.ownsRow_nil w B _ _)
theorem Tip.ext {w w' : World} {B : Nat} {v : Value} {l : List UInt8} (h : Tip w B v l) (hE : Ext w w') : Tip w' B v l :=
  h.imp (fun h => h.ext hE) fun ⟨ao, e, h⟩ => ⟨ao, e, h.ext hE⟩
theorem Tip.bytes {w : World} {B : Nat} {v : Value} {l : List UInt8} (h : Tip w B v l) : BytesIn w v l := h.elim OwnB.bytes fun ⟨_, _, h⟩ => h

theorem cs1 {X : Int} (h0 : 0 ≤ X) (h1 : X < 256) : (#[Value.int .u8 X] : Array Value).toList = bcells [UInt8.ofNat X.toNat] := by
  simp only [bcells, List.map_cons, List.map_nil, byte_of h0 h1]
theorem csb (b : UInt8) : (#[Value.int .u8 (b.toNat : Int)] : Array Value).toList = bcells [b] := rfl

/-- 'append(b, x, ..)' of bytes: the world at hand is w with the new bytes laid. -/
theorem appB {ops : Array Oper} {rest : List Oper} {o : Oper} {a : Act} {Q : Exit → Act → World → Prop} (w : World) (hg : o.guard = none) (s x : Operand)
    (hop : o.op = Op.call { callee := Callee.builtin Builtin.append, args := #[s, x], argTypes := #[35, 35] })
    (w0 : World) (hE : Ext w0 w) (v : Value) (l : List UInt8) (cs : Array Value) (news : List UInt8) (hcs : cs.toList = bcells news) (hm : 0 < news.length) (hs : a.eval s = v) (hT : Tip w w0.heap.size v l)
    (m : Nat) (hx : a.eval x = .slice (some ⟨w.heap.size, 0, none⟩) m m) (hmn : m = news.length) (hb : l.length + news.length ≤ 140737488355328)
    (hK : ∀ v' w', OwnB w' w0.heap.size v' (l ++ news) → Ext w0 w' → wpList Try.prog ops Q rest (a.put o.dst v') w') : wpList Try.prog ops Q (o :: rest) a (w.alloc (.cells cs 5)) := by
  subst hmn
  obtain ⟨i0, hi, hz0, hz1, hz2⟩ := info_parts info_u8
  have hT := hT.ext ((Ext.refl w).alloc (.cells cs 5))
  have hn : (bcells news).length = news.length * 1 := by simp
  have hc : ∀ j u, (bcells news)[j]? = some u → (w.alloc (.cells cs 5)).cell? ((⟨w.heap.size, 0, none⟩ : Addr).add j) = some u := by
    intro j u hj
    rw [Addr.add_lit, Nat.zero_add, cell_of_row _ w.heap.size j cs 5 (0, 0) (heap_alloc_new w _)]
    rw [← hcs] at hj
    simpa using hj
  have h1c : ∀ u ∈ bcells news, u.oneCell' = true := by
    intro u hu
    simp only [bcells, List.mem_map] at hu
    obtain ⟨b, _, rfl⟩ := hu
    rfl
  rcases hT with hown | ⟨ao, rfl, hin⟩
  · refine wpList_append_own _ hg s x 35 hop w0.heap.size 5 i0 (.int .u8 0) 1 1 und_bytes hi hz0 hz1 hz2 rfl (by decide) v l.length (bcells l) hs hown ⟨w.heap.size, 0, none⟩ news.length news.length (bcells news) hx hn hc h1c (by unfold maxLen; omega) (by omega) (by have := hE.le; simp; omega) ?_
    intro v' w' h2 h3 _
    refine hK v' w' ?_ (Ext.grownOwn (hE.alloc _) hown (Nat.le_refl _) h3)
    unfold OwnB
    rw [List.length_append, bcells_append]
    exact h2
  · refine wpList_append_fresh _ hg s x 35 hop 5 i0 (.int .u8 0) 1 1 und_bytes hi hz0 hz1 hz2 rfl (by decide) ao l.length (bcells l) hs hin (by simp) ⟨w.heap.size, 0, none⟩ news.length news.length (bcells news) hx hn hc h1c hm (by unfold maxLen; omega) (by omega) ?_
    intro v' w' h2 h3
    refine hK v' w' ?_ ((hE.alloc _).grown h3 (by intro k hk; cases hk))
    unfold OwnB
    rw [List.length_append, bcells_append]
    exact ownsRow_base h2 (by have := hE.le; simp; omega)
end Go.Proofs.Ytmjhdfifbjdgpaa

/- A text of so many noughts: make, convert. -/
namespace Go.Proofs.Ytmjhdfifbjdgpaa
open Go Go.RowKit

theorem info_b8z : Try.prog.info? 5 = some (Try.prog.info? 5).get! ∧ (Try.prog.info? 5).get!.zero = some (.int .u8 0) ∧ (Try.prog.info? 5).get!.size = 1 ∧ (Try.prog.info? 5).get!.bytes = 1 := ⟨by kernel_rfl, by kernel_rfl, by kernel_rfl, by kernel_rfl⟩
theorem made_zeros (N : Nat) : (madeCells (Value.int .u8 0).cells (N * 1)).toList = bcells (List.replicate N 0) := by
  apply List.ext_getElem?
  intro j
  simp only [madeCells, Nat.mul_one, bcells]
  by_cases hj : j < N
  · simp [hj, Value.cells, Nat.mod_one]
  · rw [List.getElem?_eq_none (by simp; omega), List.getElem?_eq_none (by simp; omega)]
/-- 'make([]byte, N)'. -/
theorem run_zeros (w : World) (N : Nat) (hN : N ≤ 16777216) : ∃ w', (Instr.makeSlice 35 (.int .i64 (N : Int)) (.int .i64 (N : Int))).run Try.prog w = .ok (.slice (some ⟨w.heap.size, 0, none⟩) N N) w' ∧
    w'.ownsRow w.heap.size 5 1 (.slice (some ⟨w.heap.size, 0, none⟩) N N) N (bcells (List.replicate N 0)) ∧ w.grownBy w' none := by
  obtain ⟨w4, he, hown, hg⟩ := run_makeSlice_full w w.heap.size 35 5 _ _ 1 und_bytes info_b8z.1 info_b8z.2.1 info_b8z.2.2.1 .i64 .i64 N (by omega) (by rw [info_b8z.2.2.2]; omega) (by unfold maxLen; omega) (Nat.le_refl _)
  rw [made_zeros] at hown
  exact ⟨w4, he, hown, hg⟩
/-- The same, and the text that it is: facts for the walk. -/
theorem run_zero_text (w : World) (N : Nat) (hN : N ≤ 16777216) : ∃ w', (Instr.makeSlice 35 (.int .i64 (N : Int)) (.int .i64 (N : Int))).run Try.prog w = .ok (.slice (some ⟨w.heap.size, 0, none⟩) N N) w' ∧
    (convert 35 9 (.slice (some ⟨w.heap.size, 0, none⟩) N N)).run Try.prog w' = .ok (.string (str (List.replicate N 0))) w' ∧ Ext w w' := by
  obtain ⟨w4, he, hown, hg⟩ := run_zeros w N hN
  refine ⟨w4, he, ?_, (Ext.refl w).grown hg nofun⟩
  refine run_convert_bytesIn _ 35 9 5 und_bytes und_u8 und_string ?_
  have := SliceIn.of_owns hown
  unfold BytesIn
  rw [List.length_replicate]
  exact this
section
variable {ops : Array Oper} {Q : Exit → Act → World → Prop} {a : Act} {w : World} {rest : List Oper} {o : Oper}
theorem yields_zeros (x y : Operand) (hop : o.op = Op.makeSlice 35 x y) {N : Nat} (hx : a.eval x = .int .i64 (N : Int)) (hy : a.eval y = .int .i64 (N : Int)) (hN : N ≤ 16777216) {R : Value → World → Prop}
    (hR : ∀ v' w', OwnB w' w.heap.size v' (List.replicate N 0) → Ext w w' → R v' w') : yields Try.prog o a w R := by
  obtain ⟨w', he, hown, hg⟩ := run_zeros w N hN
  unfold yields execOp
  simp only [hop, hx, hy, Sem.run_bind, he, Result.andThen_ok, Sem.run_pure]
  exact hR _ w' (by unfold OwnB; rw [List.length_replicate]; exact hown) ((Ext.refl w).grown hg nofun)
theorem wpList_zeros (hw : Region.wanted o (yielded ops a.tmps) = true) (x y : Operand) (hop : o.op = Op.makeSlice 35 x y) {N : Nat} (hx : a.eval x = .int .i64 (N : Int)) (hy : a.eval y = .int .i64 (N : Int)) (hN : N ≤ 16777216)
    (hK : ∀ v' w', OwnB w' w.heap.size v' (List.replicate N 0) → Ext w w' → wpList Try.prog ops Q rest (a.put o.dst v') w') : wpList Try.prog ops Q (o :: rest) a w := by
  unfold wpList
  rw [if_pos hw]
  exact .inl (yields_wp (yields_zeros (R := fun v w' => wpList Try.prog ops Q rest (a.put o.dst v) w') x y hop hx hy hN hK) fun v w' h => h)
end
end Go.Proofs.Ytmjhdfifbjdgpaa

/- Place: any number as one below another. -/
namespace Go.Proofs.Ytmjhdfifbjdgpaa
open Go Go.RowKit

set_option maxHeartbeats 400000 in
theorem place_any (v n : Int) (h : 1 ≤ n) (hn : n ≤ 9223372036854775807) (w : World) :
    Calls Try.prog 9 #[.int .i64 v, .int .i64 n] w fun e w' => e = .returned (.int .i64 (v % n)) ∧ w = w' := by
  have hlo := (tmod_lo (v := v) h).1
  have hhi := (tmod_lo (v := v) h).2
  by_cases h0 : v.tmod n < 0
  · have HE := Lib.hid (tmod_neg h h0)
    go_enter Try.func9, Try.ntmps9
    go_wp2
    go_ret
    exact ⟨ret_int HE.out, rfl⟩
  · have h0' : 0 ≤ v.tmod n := by omega
    have HE := Lib.hid (tmod_pos h h0')
    go_enter Try.func9, Try.ntmps9
    go_wp2
    go_ret
    exact ⟨ret_int HE.out, rfl⟩

end Go.Proofs.Ytmjhdfifbjdgpaa
