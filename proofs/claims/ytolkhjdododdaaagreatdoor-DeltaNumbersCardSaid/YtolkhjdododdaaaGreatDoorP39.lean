/- The reference's rows: Is; its partitions: Seen. (what a smaller cut has) -/
import Derived.Test.YtolkhjdododdaaaGreatDoorP38
import Derived.Test.YtolkhjdododdaaaGreatDoorP24
import Derived.Test.YtolkhjdododdaaaGreatDoorP36
import Derived.Test.YtolkhjdododdaaaGreatDoorP23
import Derived.Test.YtolkhjdododdaaaGreatDoorP35
import Derived.Test.YtolkhjdododdaaaGreatDoorP9
import Derived.Test.YtolkhjdododdaaaGreatDoorP20
import Derived.Test.YtolkhjdododdaaaGreatDoorP37
set_option linter.unusedSimpArgs false
set_option linter.unusedVariables false
namespace Go.Proofs.YtolkhjdododdaaaGreatDoor
open Go Go.RowKit
attribute [local go_sem] yields yUpon
/-- Each column's name is its own. -/
def DistN (l : List Co) : Prop := ∀ (k : Nat) (h : k < l.length), cellOf l l[k].name = l[k].cell
end Go.Proofs.YtolkhjdododdaaaGreatDoor

/- What passes the reference's Check rises (plain). -/
namespace Go.Proofs.YtolkhjdododdaaaGreatDoor
open Go Go.RowKit

end Go.Proofs.YtolkhjdododdaaaGreatDoor

/- Partitions by numbers: keys rise; what joins make of them is such a partition. -/
namespace Go.Proofs.YtolkhjdododdaaaGreatDoor
open Go Go.RowKit

theorem ik_lt {i j : Nat} (h : i < j) (hj : j < 1000) : cmpB (ik i).data.toList (ik j).data.toList < 0 := by
 show cmpB (int8 i) (int8 j) < 0
 rw [cmpB_less, less_int8 _ _ (by omega) (by omega) (by omega) (by omega), if_pos (by simp; omega)]
 decide
theorem GenRows.key {k : Nat} {l : List Ro} (h : GenRows k l) : ∀ r ∈ l, ∃ i, i < k ∧ r.key = ik i := by
 induction h with
 | nil => nofun
 | skip _ ih => exact fun r hr => let ⟨i, hi, e⟩ := ih r hr; ⟨i, by omega, e⟩
 | put _ _ e ih =>
  intro r hr
  rcases List.mem_append.1 hr with hr | hr
  ·obtain ⟨i, hi, e⟩ := ih r hr
   exact ⟨i, by omega, e⟩
  ·rw [List.mem_singleton.1 hr]
   exact ⟨_, by omega, e⟩
theorem GenRows.row {k : Nat} {l : List Ro} (h : GenRows k l) : ∀ r ∈ l, GenRow r := by
 induction h with
 | nil => nofun
 | skip _ ih => exact ih
 | put _ hr _ ih =>
  intro r h
  rcases List.mem_append.1 h with h | h
  ·exact ih r h
  ·rw [List.mem_singleton.1 h]; exact hr
theorem GenRows.up {k : Nat} {l : List Ro} (h : GenRows k l) (hk : k ≤ 1000) : Up kRo l := by
 induction h with
 | nil => exact List.Pairwise.nil
 | skip _ ih => exact ih (by omega)
 | put hl _ e ih =>
  refine List.pairwise_append.2 ⟨ih (by omega), List.pairwise_singleton .., fun a ha b hb => ?_⟩
  obtain ⟨i, hi, e'⟩ := hl.key a ha
  rw [List.mem_singleton.1 hb]
  unfold kRo
  rw [e, e']
  exact ik_lt hi (by omega)
/-- A partition's rows by numbers, or of joins of such. -/
structure NumRs (l : List Ro) : Prop where
 up : Up kRo l
 row : ∀ r ∈ l, NumRow r
 key : ∀ r ∈ l, ∃ i, i < 4 ∧ r.key = ik i
theorem GenRows.num {l : List Ro} (h : GenRows 4 l) : NumRs l := ⟨h.up (by decide), fun r hr => (h.row r hr).num, h.key⟩
theorem NumRs.good {l : List Ro} (h : NumRs l) : GoodRs l := ⟨h.up, fun r hr => (h.row r hr).up⟩
theorem NumRs.merge {l m : List Ro} (hl : NumRs l) (hm : NumRs m) : NumRs (mergeRo l m) := by
 refine ⟨hl.up.merge kRo_join hm.up, fun r hr => ?_, fun r hr => ?_⟩
 ·rcases mem_mergeRs hr with (h | h) | ⟨a, ha, b, hb, _, rfl⟩
  ·exact hl.row r h
  ·exact hm.row r h
  ·exact (hl.row a ha).join (hm.row b hb)
 ·rcases mem_mergeRs hr with (h | h) | ⟨a, ha, b, hb, _, rfl⟩
  ·exact hl.key r h
  ·exact hm.key r h
  ·exact hl.key a ha
theorem NumRs.len {l : List Ro} (h : NumRs l) : l.length ≤ 4 :=
 h.up.len (K := [(ik 0).data.toList, (ik 1).data.toList, (ik 2).data.toList, (ik 3).data.toList]) fun c hc => by
  obtain ⟨j, hj, e⟩ := h.key c hc
  unfold kRo
  rw [e]
  obtain rfl | rfl | rfl | rfl : j = 0 ∨ j = 1 ∨ j = 2 ∨ j = 3 := by omega
  all_goals simp
theorem NumRs.few {l : List Ro} (h : NumRs l) : FewCols l := fun r hr => by have := (h.row r hr).len; omega
theorem NumRs.nil : NumRs [] := ⟨List.Pairwise.nil, nofun, nofun⟩
end Go.Proofs.YtolkhjdododdaaaGreatDoor

/- Steps put into a view: bounds, and the law of them all (plain). -/
namespace Go.Proofs.YtolkhjdododdaaaGreatDoor
open Go Go.RowKit

theorem num_ok {g : Int} {l : List Ro} (hg : 0 ≤ g) (h : NumRs l) : OkD (g, l) := ⟨h.good, fun r hr c hc => ((h.row r hr).cols c hc).2.2, hg⟩
theorem nil_ok : OkD (0, []) := ⟨⟨List.Pairwise.nil, nofun⟩, nofun, Int.le_refl _⟩
/-- How much a view is that N deltas were put into. -/
structure BndV (V : Vi) (N : Nat) : Prop where
 len : V.length ≤ N
 rows : ∀ q ∈ V, q.2.length ≤ N
 cols : ∀ q ∈ V, ∀ r ∈ q.2, r.cols.length ≤ 20 * N
theorem BndV.put {V : Vi} {N : Nat} {d : ByteArray × Ro} (h : BndV V N) (hd : d.2.cols.length ≤ 20) : BndV (putV V d) (N + 1) := by
 refine ⟨?_, fun q hq => ?_, fun q hq r hr => ?_⟩
 ·rcases putV_keys V d with ⟨k, h1, _, _⟩ | ⟨h1, _⟩
  ·have := congrArg List.length h1
   simp only [List.length_map] at this
   have := h.len
   omega
  ·have := congrArg List.length h1
   simp only [List.length_map, List.length_append, List.length_cons, List.length_nil] at this
   have := h.len
   omega
 ·rcases mem_putV hq with ⟨h1, _⟩ | rfl | ⟨rs, h1, rfl⟩
  ·exact Nat.le_succ_of_le (h.rows q h1)
  ·show 1 ≤ N + 1
   omega
  ·have := mergeG_len keyR joinRo rs [d.2]
   have h2 := h.rows _ h1
   show (mergeRo rs [d.2]).length ≤ _
   unfold mergeRo
   simp only [List.length_cons, List.length_nil] at this h2
   omega
 ·rcases mem_putV hq with ⟨h1, _⟩ | rfl | ⟨rs, h1, rfl⟩
  ·have := h.cols q h1 r hr; omega
  ·rw [List.mem_singleton.1 hr]; omega
  ·rcases mem_mergeRs hr with (hm | hm) | ⟨a, ha, b, hb, _, rfl⟩
   ·have := h.cols _ h1 r hm; omega
   ·rw [List.mem_singleton.1 hm]; omega
   ·have h2 := h.cols _ h1 a ha
    rw [List.mem_singleton.1 hb]
    have := mergeG_len keyC joinCo a.cols d.2.cols
    show (mergeCo a.cols d.2.cols).length ≤ _
    unfold mergeCo
    omega
theorem VInv.puts {D P : List (ByteArray × Ro)} {V : Vi} (hD : ∀ e ∈ D, Up kCo e.2.cols) : ∀ (l : List (ByteArray × Ro)) (P : List (ByteArray × Ro)) (V : Vi), (∀ e ∈ P, e ∈ D) → (∀ d ∈ l, d ∈ D) → VInv D P V → VInv D (P ++ l) (l.foldl putV V)
 | [], P, V, _, _, h => by rw [List.append_nil]; exact h
 | d :: l, P, V, hP, hl, h => by
  have h1 := VInv.put hD hP (hl d (List.mem_cons_self ..)) h
  have h2 := VInv.puts (P := P) (V := V) hD l (P ++ [d]) (putV V d) (fun e he => by
   rcases List.mem_append.1 he with h | h
   ·exact hP e h
   ·rw [List.mem_singleton.1 h]; exact hl d (List.mem_cons_self ..)) (fun e he => hl e (List.mem_cons_of_mem _ he)) h1
  rw [List.append_assoc] at h2
  exact h2
section
variable {x : Vw} {ns : List ByteArray} {pk : ByteArray}
theorem stepD_len (g : Int) (r : Ro) (m m' : Option (ByteArray × Ro)) : (stepD x g r m m').length ≤ 2 := by
 cases m with
 | none => cases m' <;> simp [stepD]
 | some p =>
  cases m' with
  | none => simp [stepD]
  | some q =>
   rw [stepD_some]
   split
   ·split <;> simp
   ·simp
theorem step_len (p p' : Dp) : (stepL x ns pk p p').length ≤ 2 * p'.2.length := by
 unfold stepL
 obtain ⟨g, l⟩ := p'
 show (deltaRs x ns pk p.1 pk g p.2 l).length ≤ 2 * l.length
 induction l with
 | nil => simp [deltaRs]
 | cons r l ih =>
  have := stepD_len (x := x) g r (mirOf x ns pk p.1 (rowOf p.2 r.key)) (mirOf x ns pk g r)
  unfold deltaRs
  simp only [List.length_append, List.length_cons]
  omega
theorem inv_up {p : Dp} {D : List (ByteArray × Ro)} (hk : ∀ k, KInv x ns pk p D k) (hkeys : ∀ d ∈ D, ∃ r ∈ p.2, d.2.key = vkey pk r.key) : ∀ e ∈ D, Up kCo e.2.cols := fun e he => by
 obtain ⟨r, _, hr⟩ := hkeys e he
 obtain ⟨a, s⟩ := e
 exact ((hk r.key).each a s he hr).up
/-- What holds of a view on its way. -/
structure OnWay (V : Vi) (N : Nat) : Prop where
 good : ∀ q ∈ V, GoodRs q.2
 bnd : BndV V N
end
end Go.Proofs.YtolkhjdododdaaaGreatDoor
