/- Mutations in memory: a table's name, a partition; 'append' to a list of them of one's own. -/
import Derived.Test.YtimbikbbbfpeeaaGreatDoorP4
import Derived.Test.YtimbikbbbfpeeaaGreatDoorP3
set_option linter.unusedSimpArgs false
set_option linter.unusedVariables false
namespace Go.Proofs.YtimbikbbbfpeeaaGreatDoor
open Go Go.RowKit

structure Mt where
  table : ByteArray
  pa : Pa
theorem info_Mut : (Tryz.prog.info? 54).map (fun i => (i.zero, i.size, i.bytes)) = some (some (.agg #[.string ⟨#[]⟩, .string ⟨#[]⟩, .int .i64 0, .slice none 0 0]), 4, 64) := by kernel_rfl
theorem und_Muts : Tryz.prog.underlying 34 = some (.slice 54) := by kernel_rfl
def mt4 (m : Mt) : Array Value := #[.string m.table, .string m.pa.key, .int .i64 m.pa.gone, m.pa.rv]
def mtCells (l : List Mt) : List Value := l.flatMap fun m => (mt4 m).toList
theorem mtCells_length (l : List Mt) : (mtCells l).length = l.length * 4 := by
  induction l with
  | nil => rfl
  | cons c l ih => simp only [mtCells, List.flatMap_cons, List.length_append] at ih ⊢; rw [ih]; simp [mt4]; omega
theorem mtCells_append (l m : List Mt) : mtCells (l ++ m) = mtCells l ++ mtCells m := by simp [mtCells]
theorem mtCells_get : ∀ (l : List Mt) (k : Nat) (h : k < l.length) (j : Nat), j < 4 → (mtCells l)[k * 4 + j]? = (mt4 l[k])[j]?
  | c :: l, 0, _, j, hj => by
    obtain rfl | rfl | rfl | rfl : j = 0 ∨ j = 1 ∨ j = 2 ∨ j = 3 := by omega
    all_goals simp [mtCells, mt4]
  | c :: l, k + 1, h, j, hj => by
    have ih := mtCells_get l k (by simpa using h) j hj
    have e : (k + 1) * 4 + j = k * 4 + j + 4 := by omega
    have e2 : mtCells (c :: l) = .string c.table :: .string c.pa.key :: .int .i64 c.pa.gone :: c.pa.rv :: mtCells l := by simp [mtCells, mt4]
    rw [e, e2]
    simp only [List.getElem_cons_succ]
    simpa using ih
/-- Mutations in memory. -/
structure MtsIn (w : World) (v : Value) (l : List Mt) : Prop where
  sl : SliceIn w v l.length (mtCells l)
  rows : ∀ m ∈ l, RowsIn w m.pa.rv m.pa.ps
theorem MtsIn.ext {w w' : World} (hE : Ext w w') {v : Value} {l : List Mt} (h : MtsIn w v l) : MtsIn w' v l := ⟨h.sl.ext hE, fun m hm => (h.rows m hm).ext hE⟩
theorem MtsIn.nil (w : World) : MtsIn w (.slice none 0 0) [] := ⟨SliceIn.nil w, nofun⟩
structure MtAt (w : World) (b o : Nat) (m : Mt) : Prop where
  c0 : w.cell? ⟨b, o, none⟩ = some (.string m.table)
  c1 : w.cell? ⟨b, o + 1, none⟩ = some (.string m.pa.key)
  c2 : w.cell? ⟨b, o + 2, none⟩ = some (.int .i64 m.pa.gone)
  c3 : w.cell? ⟨b, o + 3, none⟩ = some m.pa.rv
theorem MtAt.ext {w w' : World} (hE : Ext w w') {b o : Nat} {m : Mt} (h : MtAt w b o m) : MtAt w' b o m := ⟨hE.cell h.c0, hE.cell h.c1, hE.cell h.c2, hE.cell h.c3⟩
theorem MtsIn.get {w : World} {v : Value} {l : List Mt} (h : MtsIn w v l) : ∃ a c, v = .slice a l.length c ∧ l.length ≤ c ∧ c ≤ 9223372036854775807 ∧ ∀ k (hk : k < l.length), ∃ b o, a = some ⟨b, o, none⟩ ∧ MtAt w b (o + k * 4) l[k] := by
  obtain ⟨a, c, rfl, hc, hcm, ha, hcell⟩ := h.sl
  unfold maxLen at hcm
  refine ⟨a, c, rfl, hc, by omega, fun k hk => ?_⟩
  have g := fun j (hj : j < 4) => mtCells_get l k hk j hj
  obtain ⟨b, o, rfl, h0⟩ := hcell (k * 4 + 0) _ (g 0 (by decide))
  obtain ⟨b1, o1, e1, h1⟩ := hcell (k * 4 + 1) _ (g 1 (by decide))
  cases e1
  obtain ⟨b1, o1, e1, h2⟩ := hcell (k * 4 + 2) _ (g 2 (by decide))
  cases e1
  obtain ⟨b1, o1, e1, h3⟩ := hcell (k * 4 + 3) _ (g 3 (by decide))
  cases e1
  exact ⟨b, o, rfl, h0, by rw [Nat.add_assoc]; exact h1, by rw [Nat.add_assoc]; exact h2, by rw [Nat.add_assoc]; exact h3⟩
/-- Mutations in blocks of their own types. -/
structure MtsT (w : World) (v : Value) (l : List Mt) : Prop where
  tin : TIn w 54 v l.length (mtCells l)
  rows : ∀ m ∈ l, RowsT w m.pa.rv m.pa.ps
theorem MtsT.ext {w w' : World} (hE : Ext w w') {v : Value} {l : List Mt} (h : MtsT w v l) : MtsT w' v l := ⟨h.tin.ext hE, fun m hm => (h.rows m hm).ext hE⟩
theorem MtsT.mts {w : World} {v : Value} {l : List Mt} (h : MtsT w v l) : MtsIn w v l := ⟨h.tin.slice, fun m hm => (h.rows m hm).rows⟩
theorem mtCells_one (l : List Mt) (h : ∀ p ∈ l, ∃ a n c, p.pa.rv = .slice a n c) : ∀ u ∈ mtCells l, u.oneCell' = true := by
  intro u hu
  simp only [mtCells, List.mem_flatMap] at hu
  obtain ⟨p, hp, hu⟩ := hu
  obtain ⟨a, n, c, e⟩ := h p hp
  simp only [mt4, e, List.mem_cons, List.not_mem_nil, or_false] at hu
  rcases hu with rfl | rfl | rfl | rfl <;> rfl
theorem appMts {ops : Array Oper} {rest : List Oper} {o : Oper} {a : Act} {Q : Exit → Act → World → Prop} (w : World) (hg : o.guard = none) (s x : Operand)
    (hop : o.op = Op.call { callee := Callee.builtin Builtin.append, args := #[s, x], argTypes := #[34, 34] })
    (B : Nat) (hB : B ≤ w.heap.size) (v : Value) (l : List Mt) (hown : w.ownsRow B 54 4 v l.length (mtCells l)) (hs : a.eval s = v) (u : Value) (m : List Mt) (hin : SliceIn w u m.length (mtCells m)) (hsh : ∀ p ∈ m, ∃ a n c, p.pa.rv = .slice a n c) (hx : a.eval x = u) (hb : l.length + m.length ≤ 1000000)
    (hK : ∀ v' w', w'.ownsRow B 54 4 v' (l ++ m).length (mtCells (l ++ m)) → w.grownBy w' v.ownBlock → wpList Tryz.prog ops Q rest (a.put o.dst v') w') : wpList Tryz.prog ops Q (o :: rest) a w := by
  obtain ⟨i0, hi, hz0, hz1, hz2⟩ := info_parts info_Mut
  obtain ⟨ao, c, rfl, hc, hcm, ha, hcell⟩ := hin
  have hone := mtCells_one m hsh
  cases ao with
  | none =>
    have hc0 := ha rfl
    obtain rfl : m = [] := List.eq_nil_of_length_eq_zero (by omega)
    subst hc0
    refine wpList_append_own_none hg s x 34 hop B 54 i0 4 und_Muts hi v l.length (mtCells l) hs hown hx (hK _ _ (by rw [List.append_nil]; exact hown) ⟨rfl, rfl, rfl, Nat.le_refl _, fun _ _ _ => rfl⟩)
  | some ad =>
    refine wpList_append_own _ hg s x 34 hop B 54 i0 _ 4 64 und_Muts hi hz0 hz1 hz2 rfl (by decide) v l.length (mtCells l) hs hown ad m.length c (mtCells m) hx (mtCells_length m) ?_ hone (by unfold maxLen; omega) (by omega) hB ?_
    · intro j u hj
      obtain ⟨b, o, e, h⟩ := hcell j u hj
      cases e
      rw [Addr.add_lit]
      exact h
    · intro v' w' h2 h3 _
      refine hK v' w' ?_ h3
      rw [mtCells_append, List.length_append]
      exact h2
theorem mts_one (w : World) (m : Mt) (T : TypeId) : SliceIn (w.alloc (.cells (mt4 m) T)) (.slice (some ⟨w.heap.size, 0, none⟩) 1 1) 1 (mtCells [m]) := by
  have : mtCells [m] = (mt4 m).toList := by simp [mtCells]
  rw [this]
  exact SliceIn.made w (mt4 m) T 1 (by unfold maxLen; decide)
end Go.Proofs.YtimbikbbbfpeeaaGreatDoor

/- Partitions, mutations as plain data. -/
namespace Go.Proofs.YtimbikbbbfpeeaaGreatDoor
open Go Go.RowKit

/-- A partition: its key, what is gone, its rows. -/
structure Pt where
  key : ByteArray
  gone : Int
  rows : List Ro
/-- A mutation, whatever its memory. -/
structure Mq where
  table : ByteArray
  pt : Pt
def Mt.q (m : Mt) : Mq := ⟨m.table, ⟨m.pa.key, m.pa.gone, m.pa.ps.map (·.1)⟩⟩
end Go.Proofs.YtimbikbbbfpeeaaGreatDoor

/- Plain laws on numbers and their bytes; no program. -/
namespace Go.Proofs.YtimbikbbbfpeeaaGreatDoor

theorem tmod_pos {v n : Int} (h : 1 ≤ n) : 0 ≤ v.tmod n → v.tmod n = v % n := by
  intro h0
  rw [Int.tmod_eq_emod] at *
  split at h0 <;> split <;> try omega
  have := Int.emod_nonneg v (show n ≠ 0 by omega)
  have := Int.emod_lt_of_pos v (show 0 < n by omega)
  omega
theorem tmod_neg {v n : Int} (h : 1 ≤ n) : v.tmod n < 0 → v.tmod n + n = v % n := by
  intro h0
  rw [Int.tmod_eq_emod] at *
  split at h0 <;> split <;> try omega
  have := Int.emod_nonneg v (show n ≠ 0 by omega)
  omega
theorem tmod_lo {v n : Int} (h : 1 ≤ n) : -n < v.tmod n ∧ v.tmod n < n := by
  rw [Int.tmod_eq_emod]
  have := Int.emod_nonneg v (show n ≠ 0 by omega)
  have := Int.emod_lt_of_pos v (show 0 < n by omega)
  split <;> omega

/-- So many bytes of a number, the greatest first. -/
def beB : Nat → Nat → List UInt8
  | 0, _ => []
  | k + 1, x => UInt8.ofNat (x / 256 ^ k) :: beB k x

theorem beB_length (k x : Nat) : (beB k x).length = k := by
  induction k with
  | zero => rfl
  | succ k ih => simp [beB, ih]

theorem beB_get {k x j : Nat} (h : j < k) : (beB k x)[j]? = some (UInt8.ofNat (x / 256 ^ (k - 1 - j))) := by
  induction k generalizing j with
  | zero => omega
  | succ k ih =>
    cases j with
    | zero => simp [beB]
    | succ j =>
      simp only [beB, List.getElem?_cons_succ]
      rw [ih (by omega)]
      congr 4
      omega

theorem byte_shift (x k : Nat) : UInt8.ofNat (((x : Int) / 2 ^ (8 * k) % 256).toNat) = UInt8.ofNat (x / 256 ^ k) := by
  have e : ((x : Int) / 2 ^ (8 * k) % 256).toNat = x / 256 ^ k % 256 := by
    rw [show (2 : Int) ^ (8 * k) = ((256 ^ k : Nat) : Int) by rw [Int.pow_mul]; simp]
    omega
  rw [e]
  apply UInt8.toNat.inj
  simp

/-- How many bits, how many bytes a number takes. -/
def bitsOf (x : Nat) : Nat := if x = 0 then 0 else Nat.log2 x + 1
def nlen (x : Nat) : Nat := (bitsOf x + 7) / 8

theorem bitsOf_lt (x : Nat) : x < 2 ^ bitsOf x := by
  unfold bitsOf
  split
  · omega
  · exact Nat.lt_log2_self
theorem bitsOf_le (x : Nat) (h : x ≠ 0) : 2 ^ (bitsOf x - 1) ≤ x := by
  unfold bitsOf
  rw [if_neg h]
  exact Nat.log2_self_le h
theorem bitsOf_unique {x n : Nat} (h1 : x < 2 ^ n) (h2 : n = 0 ∨ 2 ^ (n - 1) ≤ x) : bitsOf x = n := by
  by_cases hx : x = 0
  · subst hx
    rcases h2 with rfl | h2
    · rfl
    · have : 0 < 2 ^ (n - 1) := Nat.two_pow_pos _
      omega
  · have a := bitsOf_lt x
    have b := bitsOf_le x hx
    have hn : n ≠ 0 := by rintro rfl; simp at h1; exact hx h1
    have h2 : 2 ^ (n - 1) ≤ x := h2.resolve_left hn
    have hb : bitsOf x ≠ 0 := by unfold bitsOf; rw [if_neg hx]; omega
    have c : bitsOf x - 1 < n := (Nat.pow_lt_pow_iff_right (a := 2) (by omega)).1 (Nat.lt_of_le_of_lt b h1)
    have d : n - 1 < bitsOf x := (Nat.pow_lt_pow_iff_right (a := 2) (by omega)).1 (Nat.lt_of_le_of_lt h2 a)
    omega

theorem bitsOf_le64 {x : Nat} (h : x < 18446744073709551616) : bitsOf x ≤ 64 := by
  by_cases hx : x = 0
  · subst hx; simp [bitsOf]
  · have b := bitsOf_le x hx
    have : 2 ^ (bitsOf x - 1) < 2 ^ 64 := Nat.lt_of_le_of_lt b (by simpa using h)
    have := (Nat.pow_lt_pow_iff_right (a := 2) (by omega)).1 this
    omega

/-- A number's bytes: how many they are, and they. -/
def num (x : Nat) : List UInt8 := UInt8.ofNat (nlen x) :: beB (nlen x) x

/-- A text's bytes. -/
def esc : List UInt8 → List UInt8
  | [] => []
  | b :: l => if b = 0 then 0 :: 255 :: esc l else b :: esc l
theorem esc_append (l m : List UInt8) : esc (l ++ m) = esc l ++ esc m := by
  induction l with
  | nil => rfl
  | cons b l ih =>
    simp only [List.cons_append, esc, ih]
    split <;> simp
theorem esc_snoc (l : List UInt8) (b : UInt8) : esc (l ++ [b]) = esc l ++ if b = 0 then [0, 255] else [b] := by
  rw [esc_append]
  congr 1
theorem esc_length_le (l : List UInt8) : (esc l).length ≤ 2 * l.length := by
  induction l with
  | nil => simp [esc]
  | cons b l ih =>
    simp only [esc]
    split <;> simp <;> omega
def txt (l : List UInt8) : List UInt8 := esc l ++ [0, 1]
theorem txt_length_le (l : List UInt8) : (txt l).length ≤ 2 * l.length + 2 := by
  have := esc_length_le l
  simp [txt]
  omega
/-- A whole number's eight bytes (v, as the 64 bits that it is, and 2^63). -/
def int8 (v : Int) : List UInt8 := beB 8 ((v + 9223372036854775808) % 18446744073709551616).toNat
end Go.Proofs.YtimbikbbbfpeeaaGreatDoor
