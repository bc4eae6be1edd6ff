/- Rows by numbers may be; what spoils one. -/
import Derived.Test.YtkiodandnjbhoaaDoorLRow2
import Derived.Test.YtkiodandnjbhoaaDoorRowAwake
namespace Go.Proofs.YtkiodandnjbhoaaDoor
open Go Go.RowKit

theorem cellN_ok (n : Int) (h0 : 0 ≤ n) : checkC (cellN n).val (cellN n).dead (cellN n).at_ (cellN n).fin = true ∧ 0 < (cellN n).at_ := by
  have xs : ∀ i : Nat, i < 3 → ((⟨#[120, 121, 122]⟩ : ByteArray).extract i (i + 1)).size = 1 := by decide
  unfold cellN
  split
  · unfold checkC stampB
    have h1 : ¬ 1 + n % 7 = 0 := by omega
    simp [h1]
    omega
  · have e1 : (n / 28 % 3 + 1).toNat = (n / 28 % 3).toNat + 1 := by omega
    have e2 := xs (n / 28 % 3).toNat (by omega)
    rw [← e1] at e2
    have h1 : ¬ 1 + n % 7 = 0 := by omega
    unfold checkC stampB
    simp [h1, e2]
    split <;> omega
def lastN (p : Option ByteArray) : List Co → Option ByteArray
  | [] => p
  | c :: l => lastN (some c.name) l
theorem colsB_snoc (c : Co) : ∀ (l : List Co) (p : Option ByteArray), colsB p (l ++ [c]) = (colsB p l && (lowB c.name && ordB (lastN p l) c.name && checkC c.cell.val c.cell.dead c.cell.at_ c.cell.fin && decide (0 < c.cell.at_)))
  | [], p => by simp [colsB, lastN]
  | d :: l, p => by
    rw [List.cons_append, colsB, colsB_snoc c l, colsB, lastN]
    simp only [Bool.and_assoc]
theorem lastN_snoc (c : Co) : ∀ (l : List Co) (p : Option ByteArray), lastN p (l ++ [c]) = some c.name
  | [], p => rfl
  | d :: l, p => by rw [List.cons_append, lastN, lastN_snoc c l]
theorem nm_less (j k : Nat) (h : j < k) (hk : k < 4) : Op.bytesLess (nmK j).toList (nmK k).toList = true := by
  obtain ⟨rfl, rfl⟩ | ⟨rfl, rfl⟩ | ⟨rfl, rfl⟩ | ⟨rfl, rfl⟩ | ⟨rfl, rfl⟩ | ⟨rfl, rfl⟩ : (j = 0 ∧ k = 1) ∨ (j = 0 ∧ k = 2) ∨ (j = 0 ∧ k = 3) ∨ (j = 1 ∧ k = 2) ∨ (j = 1 ∧ k = 3) ∨ (j = 2 ∧ k = 3) := by omega
  all_goals (simp only [nmK, ByteArray.toList_eq]; decide)
theorem nm_low (k : Nat) : Low (nmK k) ∧ lowB (nmK k) = true := by
  match k with
  | 0 => exact ⟨⟨by decide, by decide⟩, by decide⟩
  | 1 => exact ⟨⟨by decide, by decide⟩, by decide⟩
  | 2 => exact ⟨⟨by decide, by decide⟩, by decide⟩
  | k + 3 =>
    have e : Low (⟨#[100]⟩ : ByteArray) ∧ lowB ⟨#[100]⟩ = true := ⟨⟨by decide, by decide⟩, by decide⟩
    exact e
theorem gen_cols {k : Nat} {l : List Co} (h : GenCols k l) : k ≤ 4 → colsB none l = true ∧ (lastN none l = none ∨ ∃ j, j < k ∧ lastN none l = some (nmK j)) ∧ ∀ c ∈ l, Low c.name := by
  induction h with
  | nil => intro _; exact ⟨rfl, .inl rfl, fun c h => by cases h⟩
  | skip _ ih =>
    intro hk
    obtain ⟨h1, h2, h3⟩ := ih (by omega)
    exact ⟨h1, h2.imp id fun ⟨j, hj, e⟩ => ⟨j, by omega, e⟩, h3⟩
  | @put k l n _ hn ih =>
    intro hk
    obtain ⟨h1, h2, h3⟩ := ih (by omega)
    obtain ⟨c1, c2⟩ := cellN_ok n hn
    refine ⟨?_, .inr ⟨k, by omega, lastN_snoc _ l none⟩, ?_⟩
    · rw [colsB_snoc, h1]
      have ho : ordB (lastN none l) (nmK k) = true := by
        rcases h2 with e | ⟨j, hj, e⟩
        · rw [e]; rfl
        · rw [e]; exact nm_less j k hj (by omega)
      simp only [ho, c1, (nm_low k).2, Bool.true_and]
      simpa using c2
    · intro c hc
      rcases List.mem_append.1 hc with hc | hc
      · exact h3 c hc
      · obtain rfl : c = ⟨nmK k, cellN n⟩ := by simpa using hc
        exact (nm_low k).1
theorem gen_row {r : Ro} (h : GenRow r) (hk : r.key.size ≤ 400) : rowB r = true ∧ headB r = true ∧ (∀ c ∈ r.cols, Low c.name) ∧ colsB none r.cols = true ∧ r.cols.length ≤ 4 := by
  obtain ⟨h1, _, h3⟩ := gen_cols h.cols (Nat.le_refl 4)
  have hl := h.cols.len
  have hh : headB r = true := by
    obtain ⟨⟨lv, ld, ll⟩, ⟨g0, g1⟩, s0, _⟩ := h
    have e : r.live.val.toList = [] := by rw [lv]; simp [ByteArray.toList_eq]
    have hc : checkC r.live.val r.live.dead r.live.at_ r.live.fin = true := by
      rw [ld]
      unfold checkC stampB
      have hv : r.live.val.size ≤ 100 := by rw [lv]; decide
      rcases ll with ⟨a, b⟩ | ⟨a, b, c, d⟩
      · rw [a, b, e]; simp
      · have : ¬ r.live.at_ = 0 := by omega
        simp [this, hv]
        omega
    unfold headB
    rw [hc, ld, e, s0]
    unfold stampB
    simp
    omega
  exact ⟨by unfold rowB; rw [hh, h1]; rfl, hh, h3, h1, hl⟩
theorem low_get {l : List Co} (h : ∀ c ∈ l, Low c.name) : ∀ k (hk : k < l.length), Low (l[k]'hk).name := fun k hk => h _ (List.getElem_mem hk)

/-! ### What spoils a row -/
def spA : Co := ⟨⟨#[97]⟩, ⟨⟨#[]⟩, false, 1, 0⟩⟩
def spE : Co := ⟨⟨#[]⟩, ⟨⟨#[]⟩, false, 1, 0⟩⟩
def spZ : Co := ⟨⟨#[122]⟩, zeroCl⟩
theorem sp0 (l : List Co) : colsB none (l ++ [spA, spA]) = false := by
  rw [show l ++ [spA, spA] = (l ++ [spA]) ++ [spA] by simp, colsB_snoc, lastN_snoc]
  have : ordB (some spA.name) spA.name = false := by simp [ordB, spA, ByteArray.toList_eq]; decide
  rw [this]
  simp
theorem sp1 (l : List Co) : colsB none ([spE] ++ l) = false := by
  simp [colsB, spE, lowB, ByteArray.size]
theorem sp2 (l : List Co) : colsB none (l ++ [spZ]) = false := by
  rw [colsB_snoc]
  simp [spZ, zeroCl]
theorem rowB_cols {r : Ro} (h : colsB none r.cols = false) : rowB r = false := by unfold rowB; rw [h]; simp
theorem rowB_head {r : Ro} (h : headB r = false) : rowB r = false := by unfold rowB; rw [h]; rfl
end Go.Proofs.YtkiodandnjbhoaaDoor
