/- 'append' to a list of columns of one's own; row.Seen. -/
import Derived.Test.YtimbikbbbfpeeaaGreatDoorP8
import Derived.Test.YtimbikbbbfpeeaaGreatDoorP3
import Derived.Test.YtimbikbbbfpeeaaGreatDoorP7
import Derived.Test.YtimbikbbbfpeeaaGreatDoorP4
import Derived.Test.YtimbikbbbfpeeaaGreatDoorP1
import Derived.ProofKit
import Derived.ChangeSlices
import Derived.WideShapes
set_option linter.unusedSimpArgs false
set_option linter.unusedVariables false


/- row.Join's two closures over columns: which comes first, what two are together. (what a smaller cut has) -/
namespace Go.Proofs.YtimbikbbbfpeeaaGreatDoor
open Go Go.RowKit
attribute [local go_sem] yields yUpon co5

/-- Two lists in order, those that stand for the same put together. -/
def mergeG {α : Type} (cmp : α → α → Int) (join : α → α → α) : List α → List α → List α
  | [], m => m
  | a :: l, [] => a :: l
  | a :: l, b :: m => if cmp a b < 0 then a :: mergeG cmp join l (b :: m) else if 0 < cmp a b then b :: mergeG cmp join (a :: l) m else join a b :: mergeG cmp join l m
termination_by l m => l.length + m.length
theorem mergeG_nil_left {α : Type} (cmp : α → α → Int) (join : α → α → α) (m : List α) : mergeG cmp join [] m = m := by unfold mergeG; rfl
theorem mergeG_nil_right {α : Type} (cmp : α → α → Int) (join : α → α → α) (l : List α) : mergeG cmp join l [] = l := by cases l <;> (unfold mergeG; rfl)
theorem mergeG_lt {α : Type} {cmp : α → α → Int} {join : α → α → α} {a b : α} {l m : List α} (h : cmp a b < 0) : mergeG cmp join (a :: l) (b :: m) = a :: mergeG cmp join l (b :: m) := by conv => lhs; unfold mergeG; rw [if_pos h]
theorem mergeG_gt {α : Type} {cmp : α → α → Int} {join : α → α → α} {a b : α} {l m : List α} (h : 0 < cmp a b) : mergeG cmp join (a :: l) (b :: m) = b :: mergeG cmp join (a :: l) m := by conv => lhs; unfold mergeG; rw [if_neg (by omega), if_pos h]
theorem mergeG_eq {α : Type} {cmp : α → α → Int} {join : α → α → α} {a b : α} {l m : List α} (h : cmp a b = 0) : mergeG cmp join (a :: l) (b :: m) = join a b :: mergeG cmp join l m := by conv => lhs; unfold mergeG; rw [if_neg (by omega), if_neg (by omega)]
theorem mergeG_len {α : Type} (cmp : α → α → Int) (join : α → α → α) (l m : List α) : (mergeG cmp join l m).length ≤ l.length + m.length := by
  fun_induction mergeG cmp join l m <;> simp at * <;> omega

def keyC (a b : Co) : Int := cmpB a.name.data.toList b.name.data.toList
def joinCo (a b : Co) : Co := ⟨a.name, joinCl a.cell b.cell⟩
def mergeCo (l m : List Co) : List Co := mergeG keyC joinCo l m
end Go.Proofs.YtimbikbbbfpeeaaGreatDoor

/- A slice of integers that comes in, read. -/
namespace Go.Proofs.YtimbikbbbfpeeaaGreatDoor
open Go Go.RowKit Go.ChangeShapes Go.WideShapes Go.ChangeAt

/-- The cells of a list of integers. -/
def kcells (k : IntKind) (l : List Int) : List Value := l.map (Value.int k)
@[simp] theorem kcells_length (k : IntKind) (l : List Int) : (kcells k l).length = l.length := by simp [kcells]
theorem kcells_get (k : IntKind) (l : List Int) (i : Nat) : (kcells k l)[i]? = l[i]?.map (Value.int k) := by simp [kcells]
/-- v is a slice of integers that reads as l. -/
def IntsIn (w : World) (v : Value) (k : IntKind) (l : List Int) : Prop := SliceIn w v l.length (kcells k l)
theorem IntsIn.ext {w w' : World} (hE : Ext w w') {v : Value} {k : IntKind} {l : List Int} (h : IntsIn w v k l) : IntsIn w' v k l := SliceIn.ext hE h

theorem read_ints {P : Program} {H : Type} {enc : TypeId × Value → H} {W : World} {base : Nat} {t e : TypeId} {k : IntKind} {v : Value} {d : DataW H} {p : List MemPlace} (ht : P.underlying t = some (.slice e)) (he : P.underlying e = some (.int k)) (hc : P.cellsOf e = 1)
    (hv : Value.okWide P W .any base t v) (h : DataW.Trod enc P W 0 (fun _ => true) true t v d p) : ∃ l : List Int, IntsIn W v k l ∧ ∀ n ∈ l, (Lit.int k n).wf = true := by
  obtain ⟨a, len, cap, rfl⟩ := okWide_slice ht hv
  obtain ⟨fuel, hf⟩ := h
  rcases open_ints ht he hc hf with ⟨hcs, _⟩ | ⟨x, l, c, zs, hcs, _, hl, hm, hz, _, hcell, hwz⟩
  · simp [Value.cells] at hcs
    obtain ⟨rfl, rfl, rfl⟩ := hcs
    exact ⟨[], SliceIn.nil W, by simp⟩
  · simp [Value.cells] at hcs
    obtain ⟨rfl, rfl, rfl⟩ := hcs
    have hz' : zs.length = cap := by simpa using hz
    refine ⟨zs.take len, ?_, fun n hn => hwz n (List.mem_of_mem_take hn)⟩
    have hlen : (zs.take len).length = len := by simp; omega
    unfold IntsIn
    rw [hlen]
    refine ⟨some x, cap, rfl, hl, hm, nofun, fun j u hj => ?_⟩
    rw [kcells_get, List.getElem?_take] at hj
    split at hj
    · rename_i hlt
      have hjz : j < zs.length := by omega
      have hc := hcell j hjz
      have h0 := hcell 0 (by omega)
      obtain ⟨b, o, s⟩ := x
      have hs : s = none := by
        cases s with
        | none => rfl
        | some s =>
          simp only [Addr.add, if_pos] at h0
          unfold World.cell? at h0
          split at h0 <;> simp at h0
      subst hs
      refine ⟨b, o, rfl, ?_⟩
      rw [Addr.add_lit] at hc
      rw [hc, List.getD_eq_getElem?_getD]
      rw [List.getElem?_eq_getElem hjz] at hj ⊢
      simp at hj ⊢
      exact hj
    · cases hj
end Go.Proofs.YtimbikbbbfpeeaaGreatDoor
