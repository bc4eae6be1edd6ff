/- maps.Clone at a store's maps: the library's contract laid at this program. -/
import Derived.Shelf.SlMaps.Clone
import Derived.Ground.SlmcProg
import Derived.Test.YtimbikbbbfpeeaaGreatDoorP2
import Derived.Test.YtimbikbbbfpeeaaGreatDoorP4
import Derived.Deep.Heap
import Derived.Laws.Entries
import Derived.Test.YtimbikbbbfpeeaaGreatDoorP16
import Derived.Test.YtimbikbbbfpeeaaGreatDoorP1
set_option linter.unusedSimpArgs false
set_option linter.unusedVariables false
namespace Go.Proofs
open Go.Shelf
def Tryz.cloneT_ren : Go.Shelf.Ren := ⟨fun | 5 => 127 | 7 => 178 | n => n, fun | 0 => 0 | 3 => 94 | 4 => 4 | 20 => 20 | 23 => 73 | 25 => 9 | n => n, fun | n => n⟩
theorem Tryz.cloneT : Go.Proofs.SlLaysW.n5 Tryz.prog Tryz.cloneT_ren := {
  mixed := by kernel_rfl
  f5 := ⟨Tryz.f127.name, by decide, Tryz.func127.trans (congrArg some (by kernel_rfl))⟩
  f7 := Tryz.func178.trans (congrArg some (by kernel_rfl))
  t4 := Tryz.underlying4
  a4 := Tryz.isAgg4
  z4 := Tryz.sizeOf4
  v4 := Tryz.zeroValue4
  t20 := Tryz.underlying20
  a20 := Tryz.isAgg20
  z20 := Tryz.sizeOf20
  v20 := Tryz.zeroValue20
  t23 := Tryz.underlying73
  a23 := Tryz.isAgg73
  z23 := Tryz.sizeOf73
  v23 := Tryz.zeroValue73 }
def Tryz.cloneP_ren : Go.Shelf.Ren := ⟨fun | 5 => 128 | 7 => 178 | n => n, fun | 0 => 0 | 3 => 52 | 4 => 4 | 20 => 20 | 23 => 96 | 25 => 9 | n => n, fun | n => n⟩
theorem Tryz.cloneP : Go.Proofs.SlLaysW.n5 Tryz.prog Tryz.cloneP_ren := {
  mixed := by kernel_rfl
  f5 := ⟨Tryz.f128.name, by decide, Tryz.func128.trans (congrArg some (by kernel_rfl))⟩
  f7 := Tryz.func178.trans (congrArg some (by kernel_rfl))
  t4 := Tryz.underlying4
  a4 := Tryz.isAgg4
  z4 := Tryz.sizeOf4
  v4 := Tryz.zeroValue4
  t20 := Tryz.underlying20
  a20 := Tryz.isAgg20
  z20 := Tryz.sizeOf20
  v20 := Tryz.zeroValue20
  t23 := Tryz.underlying96
  a23 := Tryz.isAgg96
  z23 := Tryz.sizeOf96
  v23 := Tryz.zeroValue96 }
end Go.Proofs
namespace Go.Proofs.YtimbikbbbfpeeaaGreatDoor
open Go Go.RowKit Go.Maps Go.Shelf

theorem ck_tabs {L : Sm} {m : Nat} (w : World) (h : SMapAt w m L) :
    Calls Tryz.prog 127 #[.map (some m)] w fun e w' => (e = .returned (.map (some w.heap.size)) ∧ Ext w w') ∧ SMapAt w' w.heap.size L ∧ w'.heap.size = w.heap.size + 1 := by
  obtain ⟨⟨es, clock, hb, Ft, hs, hD⟩, hr⟩ := h
  refine (AnyW.maps_Clone (ρ := Tryz.cloneT_ren) Tryz.cloneT m es clock w hb).mono ?_
  rintro e w' ⟨rfl, rfl⟩
  exact ⟨⟨rfl, (Ext.refl w).alloc _⟩, ⟨⟨es, clock, heap_alloc_new w _, Ft, hs, hD⟩, hr⟩, by simp⟩
theorem ck_parts {L : Sm} {m : Nat} (w : World) (h : SMapAt w m L) :
    Calls Tryz.prog 128 #[.map (some m)] w fun e w' => (e = .returned (.map (some w.heap.size)) ∧ Ext w w') ∧ SMapAt w' w.heap.size L ∧ w'.heap.size = w.heap.size + 1 := by
  obtain ⟨⟨es, clock, hb, Ft, hs, hD⟩, hr⟩ := h
  refine (AnyW.maps_Clone (ρ := Tryz.cloneP_ren) Tryz.cloneP m es clock w hb).mono ?_
  rintro e w' ⟨rfl, rfl⟩
  exact ⟨⟨rfl, (Ext.refl w).alloc _⟩, ⟨⟨es, clock, heap_alloc_new w _, Ft, hs, hD⟩, hr⟩, by simp⟩
end Go.Proofs.YtimbikbbbfpeeaaGreatDoor

/- As XRegionE, where some operations make variables: in whatever order, these are apart. -/
namespace Go.Proofs.YtimbikbbbfpeeaaGreatDoor
open Go

/-- The slots of those variables hold values that are apart. -/
def Apart (al : List (Nat × Tmp)) (a : Act) : Prop := ∀ p ∈ al, ∀ q ∈ al, p ≠ q → a.tmps.getD p.2 undef ≠ a.tmps.getD q.2 undef
/-- What is to be shown where they are. -/
def Q1 (al : List (Nat × Tmp)) (Q : Exit → Act → World → Prop) : Exit → Act → World → Prop
  | .normal, a, w => Apart al a → Q .normal a w
  | c, a, w => Q c a w
theorem letsOut_Q1 {al : List (Nat × Tmp)} {Q : Exit → Act → World → Prop} : LetsOut (Q1 al Q) = LetsOut Q := rfl
theorem put_other {a : Act} {e : Tmp} {v : Value} {o : Option Tmp} (h : o ≠ some e) : (a.put o v).tmps.getD e undef = a.tmps.getD e undef := by
  cases o with
  | none => rfl
  | some d =>
    have hne : d ≠ e := fun he => h (by rw [he])
    show (a.tmps.setIfInBounds d v).getD e undef = _
    simp [Array.getElem?_setIfInBounds_ne hne]
theorem put_same {a : Act} {d : Tmp} {v : Value} (h : d < a.tmps.size) : (a.put (some d) v).tmps.getD d undef = v := by
  show (a.tmps.setIfInBounds d v).getD d undef = v
  simp [Array.getD, h]
theorem put_size {a : Act} {o : Option Tmp} {v : Value} : (a.put o v).tmps.size = a.tmps.size := by
  cases o with
  | none => rfl
  | some d => show (a.tmps.setIfInBounds d v).size = _; simp
section
variable (P : Program) (ops : Array Oper) (al : List (Nat × Tmp))
/-- Each of them makes a variable, no other operation writes its slot. -/
structure AlOK : Prop where
  op : ∀ p ∈ al, ∃ o cs, ops[p.1]? = some o ∧ o.dst = some p.2 ∧ o.guard = none ∧ ∀ (a : Act) (w : World), (execOp a.eval o).run P w = .ok (.value (.pointer (some ⟨w.heap.size, 0, none⟩))) (w.alloc cs)
  own : ∀ p ∈ al, ∀ i o, ops[i]? = some o → o.dst = some p.2 → i = p.1
structure JD (listed : Array Bool) (a : Act) (w : World) : Prop where
  at_ : ∀ p ∈ al, listed.getD p.1 false = true → ∃ b, a.tmps.getD p.2 undef = .pointer (some ⟨b, 0, none⟩) ∧ b < w.heap.size
  ne : ∀ p ∈ al, ∀ q ∈ al, p ≠ q → listed.getD p.1 false = true → listed.getD q.1 false = true → a.tmps.getD p.2 undef ≠ a.tmps.getD q.2 undef
  size : ∀ p ∈ al, p.2 < a.tmps.size
end
section
variable {P : Program} {ops : Array Oper} {al : List (Nat × Tmp)}
theorem getD_set_at {listed : Array Bool} {i j : Nat} (h : (listed.setIfInBounds i true).getD j false = true) : j = i ∨ listed.getD j false = true := by
  by_cases e : i = j
  · exact .inl e.symm
  · rw [getD_set_ne false e] at h
    exact .inr h
/-- Another operation. -/
theorem JD.other {listed : Array Bool} {a : Act} {w w' : World} {i : Nat} {o : Oper} {v : Value} (hA : AlOK P ops al) (hi : ops[i]? = some o) (hn : ∀ p ∈ al, p.1 ≠ i) (hs : w.heap.size ≤ w'.heap.size) (h : JD al listed a w) : JD al (listed.setIfInBounds i true) (a.put o.dst v) w' := by
  have hd : ∀ p ∈ al, o.dst ≠ some p.2 := fun p hp e => hn p hp (hA.own p hp i o hi e).symm
  have hl : ∀ p ∈ al, (listed.setIfInBounds i true).getD p.1 false = true → listed.getD p.1 false = true := fun p hp hl => (getD_set_at hl).resolve_left (hn p hp)
  refine ⟨fun p hp hp' => ?_, fun p hp q hq hne hp' hq' => ?_, fun p hp => by rw [put_size]; exact h.size p hp⟩
  · obtain ⟨b, e, hb⟩ := h.at_ p hp (hl p hp hp')
    exact ⟨b, by rw [put_other (hd p hp)]; exact e, by omega⟩
  · rw [put_other (hd p hp), put_other (hd q hq)]
    exact h.ne p hp q hq hne (hl p hp hp') (hl q hq hq')
/-- One of them. -/
theorem JD.mine {listed : Array Bool} {a : Act} {w : World} {p0 : Nat × Tmp} (hp0 : p0 ∈ al) {o : Oper} (hA : AlOK P ops al) (hi : ops[p0.1]? = some o) (ho : o.dst = some p0.2) {cs : Obj} (hun : listed.getD p0.1 true = false) (h : JD al listed a w) : JD al (listed.setIfInBounds p0.1 true) (a.put o.dst (.pointer (some ⟨w.heap.size, 0, none⟩))) (w.alloc cs) := by
  have hun' : listed.getD p0.1 false = true → False := fun e => by
    rcases Nat.lt_or_ge p0.1 listed.size with h' | h'
    · simp [Array.getD, h'] at hun e; rw [hun] at e; cases e
    · simp [Array.getD, Nat.not_lt.2 h'] at e
  have huni : ∀ p ∈ al, p ≠ p0 → o.dst ≠ some p.2 := fun p hp hne e => by
    obtain ⟨o', _, ho', hd', _⟩ := hA.op p hp
    have e1 := hA.own p hp _ o hi e
    rw [e1] at hi
    rw [ho'] at hi
    cases hi
    rw [hd'] at ho
    exact hne (Prod.ext e1.symm (Option.some.inj ho))
  have hsz : (w.alloc cs).heap.size = w.heap.size + 1 := Deep.nblk_alloc _ _
  have hl : ∀ p ∈ al, p ≠ p0 → (listed.setIfInBounds p0.1 true).getD p.1 false = true → listed.getD p.1 false = true := fun p hp hne hl => (getD_set_at hl).resolve_left fun e => by
    obtain ⟨o', _, ho', hd', _⟩ := hA.op p hp
    rw [e] at ho'
    rw [ho'] at hi
    cases hi
    rw [hd'] at ho
    exact hne (Prod.ext e (Option.some.inj ho))
  have h0 : (a.put o.dst (.pointer (some ⟨w.heap.size, 0, none⟩))).tmps.getD p0.2 undef = .pointer (some ⟨w.heap.size, 0, none⟩) := by rw [ho]; exact put_same (h.size p0 hp0)
  refine ⟨fun p hp hp' => ?_, fun p hp q hq hne hp' hq' => ?_, fun p hp => by rw [put_size]; exact h.size p hp⟩
  · by_cases e : p = p0
    · subst e
      exact ⟨_, h0, by omega⟩
    · obtain ⟨b, e', hb⟩ := h.at_ p hp (hl p hp e hp')
      exact ⟨b, by rw [put_other (huni p hp e)]; exact e', by omega⟩
  · by_cases e : p = p0
    · subst e
      have hq0 : q ≠ p := fun e => hne e.symm
      obtain ⟨b, e', hb⟩ := h.at_ q hq (hl q hq hq0 hq')
      rw [h0, put_other (huni q hq hq0), e']
      intro e2
      injection e2 with e2
      injection e2 with e2
      injection e2 with e2
      omega
    · by_cases e2 : q = p0
      · subst e2
        obtain ⟨b, e', hb⟩ := h.at_ p hp (hl p hp e hp')
        rw [h0, put_other (huni p hp e), e']
        intro e2
        injection e2 with e2
        injection e2 with e2
        injection e2 with e2
        omega
      · rw [put_other (huni p hp e), put_other (huni q hq e2)]
        exact h.ne p hp q hq hne (hl p hp e hp') (hl q hq e2 hq')
/-- An operation that does not write those slots. -/
theorem wpOp_Q1 {Q : Exit → Act → World → Prop} {i : Nat} {K K' : Act → World → Prop} {a : Act} {w : World} (hK : ∀ a' w', Apart al a' → K a' w' → K' a' w') (hd : ∀ o, ops[i]? = some o → ∀ p ∈ al, o.dst ≠ some p.2) (hA : Apart al a) (h2 : wpOp P ops (Q1 al Q) i K a w) : wpOp P ops Q i K' a w := by
  unfold wpOp at h2 ⊢
  split
  · rename_i ho
    simp only [ho] at h2
    exact hK _ _ hA h2
  · rename_i o ho
    simp only [ho] at h2
    have hap : ∀ v (a' : Act), a'.tmps = a.tmps → Apart al (a'.put o.dst v) := fun v a' e p hp q hq hne => by
      rw [put_other (hd o ho p hp), put_other (hd o ho q hq), e]
      exact hA p hp q hq hne
    split
    · rename_i hw
      rw [if_pos hw] at h2
      rcases h2 with h2 | h2
      · left
        unfold Oper.wp at h2 ⊢
        generalize (execOp a.eval o).run P w = r at *
        cases r with
        | ok n w' =>
          cases n <;> simp only [Oper.upon] at h2 ⊢
          case value v => exact hK _ _ (hap v a rfl) h2
          case skip => exact hK _ _ (hap _ a rfl) h2
          case defer d => exact hK _ _ (hap _ _ rfl) h2
          case enter f args =>
            refine h2.mono fun e w'' h3 => ?_
            cases e with
            | returned v => exact hK _ _ (hap v a rfl) h3
            | panicked c => exact h3
            | outgrown => exact h3
          case row f args => exact h2.mono fun v w'' h3 => hK _ _ (hap v a rfl) h3
          all_goals exact h2
        | halt hh w' =>
          cases hh <;> simp only [Oper.upon] at h2 ⊢ <;> exact h2
      · exact .inr h2
    · rename_i hw
      rw [if_neg hw] at h2
      exact hK _ _ (hap _ a rfl) h2
/-- The last operations do not write those slots. -/
theorem wpAny_Q1 {Q : Exit → Act → World → Prop} : ∀ (fuel : Nat) (listed : Array Bool) (a : Act) (w : World), (∀ j o, ops[j]? = some o → listed.getD j true = false → ∀ p ∈ al, o.dst ≠ some p.2) → Apart al a → wpAny P .any ops (Q1 al Q) fuel listed a w → wpAny P .any ops Q fuel listed a w
  | 0, _, _, _, _, hA, h => ⟨h.1, h.2 hA⟩
  | fuel + 1, listed, a, w, hd, hA, h => ⟨fun h0 => h.1 h0 hA, fun i hi =>
      wpOp_Q1 (fun a' w' hA' h' => wpAny_Q1 fuel _ a' w' (fun j o hj hl => hd j o hj (unl_set hl).2) hA' h') (fun o ho => hd i o ho (mem_ready.1 hi).1) hA (h.2 i hi)⟩
/-- Each operation waits for earlier ones alone. -/
def backB (ops : Array Oper) : Bool := (List.range ops.size).all fun j => match ops[j]? with
  | some o => o.after.all fun e => !Region.binds .any e || decide (e.on < j)
  | none => true
theorem all_listed {listed : Array Bool} (hb : backB ops = true) (hsz : listed.size = ops.size) (h : Region.ready .any ops listed = []) : ∀ j, j < ops.size → listed.getD j false = true := by
  intro j
  induction j using Nat.strongRecOn with
  | ind j ih =>
    intro hj
    by_cases hl : listed.getD j false = true
    · exact hl
    · exfalso
      have hj' : j < listed.size := by omega
      have hun : listed.getD j true = false := by
        simp [Array.getD, hj'] at hl ⊢
        exact hl
      have ho : ops[j]? = some ops[j] := Array.getElem?_eq_getElem hj
      have hm : j ∈ Region.ready .any ops listed := mem_ready.2 ⟨hun, _, ho, fun e he hbd => by
        have h1 := List.all_eq_true.1 hb j (List.mem_range.2 hj)
        simp only [ho] at h1
        have h2 := (Array.all_eq_true'.1 h1) e he
        have h3 : e.on < j := by simpa [hbd] using h2
        exact ih e.on h3 (by omega)⟩
      rw [h] at hm
      cases hm
end
section
variable {P : Program} {ops : Array Oper} {al : List (Nat × Tmp)} {C : World → Prop} {E : Nat → World → World → Prop} {T : Nat → Option (List Value → Value → World → Prop)} {n : Nat} {Q : Exit → Act → World → Prop}
theorem wpOp_of_RED (hT : ∀ i Φ, T i = some Φ → ∀ A k v w w', k ≠ i → E k w w' → Φ A v w → Φ A v w') (hS : ∀ i w w', E i w w' → w.heap.size ≤ w'.heap.size) (hA : AlOK P ops al) (hTal : ∀ p ∈ al, T p.1 ≠ none)
    {i : Nat} {listed : Array Bool} (hi : i ∈ Region.ready .any ops listed) {K : Act → Facts → Prop} {K' : Act → World → Prop} {Q' : Exit → Act → World → Prop} {a : Act} {G : Facts} {w : World}
    (hG : ∀ j k w w', j ≠ k → E k w w' → G j w → G j w') (hC : C w) (hw : ∀ j, G j w) (hfi : Fresh G i) (hJ : JD al listed a w)
    (h : ∀ a' G' w', (∀ j k w w', j ≠ k → E k w w' → G' j w → G' j w') → (∀ j, j ≠ i → Fresh G j → Fresh G' j) → C w' → (∀ j, G' j w') → JD al (listed.setIfInBounds i true) a' w' → K a' G' → K' a' w') (hr : rOpE P ops C E T i K a G) : wpOp P ops Q' i K' a w := by
  obtain ⟨hun, o, ho, _⟩ := mem_ready.1 hi
  unfold rOpE at hr
  unfold wpOp
  simp only [ho] at hr ⊢
  have stay : ∀ (φ : World → Prop), (∀ k w w', k ≠ i → E k w w' → φ w → φ w') → ∀ j k w w', j ≠ k → E k w w' → (G.upd i φ) j w → (G.upd i φ) j w' :=
    fun φ hφ j k w w' hne hE hh => ⟨hG j k _ _ hne hE hh.1, fun hji => hφ k _ _ (fun e => hne (hji.trans e.symm)) hE (hh.2 hji)⟩
  have fresh : ∀ (φ : World → Prop), ∀ j, j ≠ i → Fresh G j → Fresh (G.upd i φ) j := fun φ j hne hf w => ⟨hf w, fun e => absurd e hne⟩
  obtain ⟨V, φ, hO, hn⟩ := hr
  rcases hO with ⟨hwt, rfl, rfl⟩ | ⟨hwt, need, _, hO⟩
  · rw [if_neg (by rw [hwt]; simp)]
    have hf : ∀ j, (G.upd i (fun _ => True)) j w := fun j => ⟨hw j, fun _ => trivial⟩
    have hnot : ∀ p ∈ al, p.1 ≠ i := fun p hp e => by
      obtain ⟨o', _, ho', _, hg, _⟩ := hA.op p hp
      rw [e, ho] at ho'
      cases ho'
      unfold Region.wanted at hwt
      rw [hg] at hwt
      cases hwt
    exact h _ _ _ (stay _ (fun _ _ _ _ _ h => h)) (fresh _) hC hf (hJ.other hA ho hnot (Nat.le_refl _)) (hn undef rfl ⟨w, hC, hf⟩)
  · rw [if_pos hwt]
    left
    rcases hO with ⟨hTi, u, hy, rfl, rfl⟩ | ⟨Φ, hTi, hy, rfl, rfl⟩
    · have hf : ∀ j, (G.upd i (fun _ => True)) j w := fun j => ⟨hw j, fun _ => trivial⟩
      have hnot : ∀ p ∈ al, p.1 ≠ i := fun p hp e => hTal p hp (by rw [e]; exact hTi)
      exact quietAt_wp (hy w hC fun j _ => hw j) (h _ _ _ (stay _ (fun _ _ _ _ _ h => h)) (fresh _) hC hf (hJ.other hA ho hnot (Nat.le_refl _)) (hn u rfl ⟨w, hC, hf⟩))
    · have hy' := hy w hC fun j _ => hw j
      by_cases hmem : ∃ p ∈ al, p.1 = i
      · obtain ⟨p0, hp0, rfl⟩ := hmem
        obtain ⟨o', cs, ho', hd', _, hrun⟩ := hA.op p0 hp0
        rw [ho] at ho'
        cases ho'
        unfold yields at hy'
        rw [hrun a w] at hy'
        obtain ⟨hC', hE, hΦ⟩ := hy'
        have hf : ∀ j, (G.upd p0.1 (Φ (look o a) (.pointer (some ⟨w.heap.size, 0, none⟩)))) j (w.alloc cs) := fun j => ⟨if e : j = p0.1 then e ▸ hfi _ else hG j p0.1 _ _ e hE (hw j), fun _ => hΦ⟩
        unfold Oper.wp
        rw [hrun a w]
        exact h _ _ _ (stay _ (fun k w1 w2 hne h1 h2 => hT p0.1 Φ hTi _ k _ w1 w2 hne h1 h2)) (fresh _) hC' hf (hJ.mine hp0 hA ho hd' hun) (hn _ trivial ⟨_, hC', hf⟩)
      · refine yields_wp hy' fun u w' ⟨hC', hE, hΦ⟩ => ?_
        have hf : ∀ j, (G.upd i (Φ (look o a) u)) j w' := fun j => ⟨if e : j = i then e ▸ hfi w' else hG j i _ _ e hE (hw j), fun _ => hΦ⟩
        exact h _ _ _ (stay _ (fun k w1 w2 hne h1 h2 => hT i Φ hTi _ k u w1 w2 hne h1 h2)) (fresh _) hC' hf (hJ.other hA ho (fun p hp e => hmem ⟨p, hp, e⟩) (hS i _ _ hE)) (hn u trivial ⟨w', hC', hf⟩)

theorem JD.apart {listed : Array Bool} {a : Act} {w : World} (h : JD al listed a w) (hl : ∀ p ∈ al, listed.getD p.1 false = true) : Apart al a := fun p hp q hq hne => h.ne p hp q hq hne (hl p hp) (hl q hq)
theorem wpAny_of_RED (hT : ∀ i Φ, T i = some Φ → ∀ A k v w w', k ≠ i → E k w w' → Φ A v w → Φ A v w') (hS : ∀ i w w', E i w w' → w.heap.size ≤ w'.heap.size) (hA : AlOK P ops al) (hTal : ∀ p ∈ al, T p.1 ≠ none) (hn : tailB ops n = true) (hb : backB ops = true) (hnal : ∀ p ∈ al, p.1 < n) :
    ∀ (fuel : Nat) (listed : Array Bool) (a : Act) (G : Facts) (w : World), Down ops listed → listed.size = ops.size → (∀ j k w w', j ≠ k → E k w w' → G j w → G j w') → (∀ j, listed.getD j true = false → Fresh G j) → C w → (∀ j, G j w) → JD al listed a w → wpAnyRE P ops C E T n (Q1 al Q) fuel listed a G → wpAny P .any ops Q fuel listed a w := by
  have hlt : ∀ p ∈ al, p.1 < ops.size := fun p hp => by
    obtain ⟨o, _, ho, _⟩ := hA.op p hp
    exact (Array.getElem?_eq_some_iff.1 ho).1
  intro fuel
  induction fuel with
  | zero =>
    intro listed a G w hd hsz hG hF hC hw hJ h
    exact ⟨h.1, h.2 w hC hw (hJ.apart fun p hp => all_listed hb hsz h.1 _ (hlt p hp))⟩
  | succ fuel ih =>
    intro listed a G w hd hsz hG hF hC hw hJ h
    refine ⟨fun h0 => h.1 h0 w hC hw (hJ.apart fun p hp => all_listed hb hsz h0 _ (hlt p hp)), fun i hi => ?_⟩
    have h2 := h.2 i hi
    by_cases hin : i = n
    · rw [if_pos hin] at h2
      subst hin
      have hap := hJ.apart fun p hp => tail_all hd hn (Nat.le_refl _) hi _ (hnal p hp)
      have hdst : ∀ j o, ops[j]? = some o → listed.getD j true = false → ∀ p ∈ al, o.dst ≠ some p.2 := fun j o hj hl p hp e => by
        have e1 := hA.own p hp j o hj e
        have e2 := tail_all hd hn (Nat.le_refl _) hi _ (hnal p hp)
        rw [← e1] at e2
        rcases Nat.lt_or_ge j listed.size with h' | h'
        · simp [Array.getD, h'] at hl e2; rw [hl] at e2; cases e2
        · simp [Array.getD, Nat.not_lt.2 h'] at e2
      exact wpOp_Q1 (fun a' w' hA' h' => wpAny_Q1 fuel _ a' w' (fun j o hj hl => hdst j o hj (unl_set hl).2) hA' h') (fun o ho => hdst i o ho (mem_ready.1 hi).1) hap (h2 w hC hw)
    · rw [if_neg hin] at h2
      exact wpOp_of_RED hT hS hA hTal hi hG hC hw (hF i (mem_ready.1 hi).1) hJ (fun a' G' w' hG' hF' hC' hw' hJ' hk => ih _ a' G' w' (hd.set hi) (by simpa using hsz) hG' (fun j hj => hF' j (unl_set hj).1 (hF j (unl_set hj).2)) hC' hw' hJ' hk) h2

def allocB : Op → Option TypeId
  | .alloc t => some t
  | _ => none
theorem allocB_some {o : Op} {t : TypeId} (h : allocB o = some t) : o = .alloc t := by
  cases o <;> simp [allocB] at h
  rw [h]
/-- Each of them makes a variable of this type; no other operation writes its slot. -/
def alB (ops : Array Oper) (T : TypeId) (al : List (Nat × Tmp)) : Bool :=
  (al.all fun p => match ops[p.1]? with
    | some o => allocB o.op == some T && o.dst == some p.2 && o.guard.isNone
    | none => false) && al.all fun p => (List.range ops.size).all fun i => match ops[i]? with
    | some o => !(o.dst == some p.2) || i == p.1
    | none => true
theorem AlOK.of {T : TypeId} {i : TypeInfo} {z : Value} (hi : P.info? T = some i) (hz : i.zero = some z) (h : alB ops T al = true) : AlOK P ops al := by
  unfold alB at h
  rw [Bool.and_eq_true] at h
  obtain ⟨h1, h2⟩ := h
  refine ⟨fun p hp => ?_, fun p hp j o hj hd => ?_⟩
  · have h := List.all_eq_true.1 h1 p hp
    cases ho : ops[p.1]? with
    | none => rw [ho] at h; cases h
    | some o =>
      rw [ho] at h
      simp only [Bool.and_eq_true, beq_iff_eq, Option.isNone_iff_eq_none] at h
      obtain ⟨⟨ha, hd⟩, hg⟩ := h
      refine ⟨o, .cells z.cells T, rfl, hd, hg, fun a w => ?_⟩
      unfold execOp
      rw [allocB_some ha]
      simp [Instr.alloc, zeroValue, typeInfo, hi, hz, newVar, newRow, go_sem]
  · have h := List.all_eq_true.1 h2 p hp
    have hlt : j < ops.size := (Array.getElem?_eq_some_iff.1 hj).1
    have h := List.all_eq_true.1 h j (List.mem_range.2 hlt)
    rw [hj] at h
    simp only [hd, beq_self_eq_true, Bool.not_true, Bool.false_or, beq_iff_eq] at h
    exact h
/-- **A region that draws its order and makes variables, walked once**: what is shown of it may take the variables to be apart. -/
theorem wp_region_relD (al : List (Nat × Tmp)) (C : World → Prop) (E : Nat → World → World → Prop) (T : Nat → Option (List Value → Value → World → Prop)) (hT : ∀ i Φ, T i = some Φ → ∀ A k v w w', k ≠ i → E k w w' → Φ A v w → Φ A v w') (hS : ∀ i w w', E i w w' → w.heap.size ≤ w'.heap.size)
    {id : Nat} {Q : Exit → Act → World → Prop} {a : Act} {w : World} {l : List Oper} (n : Nat) (hA : AlOK P l.toArray al) (hTal : ∀ p ∈ al, T p.1 ≠ none) (hnal : ∀ p ∈ al, p.1 < n) (hsl : ∀ p ∈ al, p.2 < a.tmps.size) (hb : backB l.toArray = true) (hn : tailB l.toArray n = true) (hm : P.follows .mixedOrders = true) (hB : Region.lexB .any l.toArray = true) (hC : C w.drew)
    (h : wpRelE P l.toArray C E T n (Q1 al Q) l 0 a Facts.top) : (Code.region id l.toArray true).wp P Q a w := by
  simp only [Region.lexB, Bool.and_eq_true] at hB
  have hG : ∀ (j k : Nat) (w w' : World), j ≠ k → E k w w' → Facts.top j w → Facts.top j w' := fun _ _ _ _ _ _ h => h
  have hF : ∀ j, Fresh Facts.top j := fun _ _ => trivial
  have hno : ∀ k, (Array.replicate l.toArray.size false).getD k false = true → False := by
    intro k hk
    simp only [Array.getD, Array.size_replicate] at hk
    split at hk
    · simp at hk
    · cases hk
  have hd : Down l.toArray (Array.replicate l.toArray.size false) := fun k o _ hk => (hno k hk).elim
  refine wp_region_any hm (wpAny_of_RED hT hS hA hTal hn hb hnal _ _ _ Facts.top _ hd (by simp) hG (fun j _ => hF j) hC (fun _ => trivial) ⟨fun p _ hl => (hno _ hl).elim, fun p _ q _ _ hl _ => (hno _ hl).elim, hsl⟩ ?_)
  have := wpAnyR_lexE (C := C) hT hn hB.1 l 0 (Array.replicate l.toArray.size false) a Facts.top hd hG (fun j _ => hF j) ⟨_, hC, fun _ => trivial⟩ (by simp) (by simpa using hB.2) h
  simpa using this
end
end Go.Proofs.YtimbikbbbfpeeaaGreatDoor

/- As XLate's region, where some operations make variables: these are apart. -/
namespace Go.Proofs.YtimbikbbbfpeeaaGreatDoor
open Go
theorem box_still {x y : World} {q b m : Nat} {Z Z' : Array Value} {T : TypeId} (hg : x.grownBy y (some q)) (hq : BoxAt y q Z' T) (hZ' : Z'.size = m) (hb : BoxAt x b Z T) (hZ : Z.size = m) : ∃ Z, BoxAt y b Z T ∧ Z.size = m := by
  by_cases e : b = q
  · subst e; exact ⟨Z', hq, hZ'⟩
  · exact ⟨Z, hb.grown hg (fun e' => e (Option.some.inj e')), hZ⟩
section
variable {P : Program} {Q : Exit → Act → World → Prop} {l : List Oper}
theorem wp_region_lateD {id : Nat} {a : Act} {w : World} (n p m : Nat) (al : List (Nat × Tmp)) (L : Tab) (hm : P.follows .mixedOrders = true) (hL : lateB l.toArray n p = true) (hn : tailB (late n p l).toArray m = true) (hB : Region.lexB .any (late n p l).toArray = true) (hb : backB (late n p l).toArray = true)
    (hQ : ∀ c a d v w, Q (.panic c) (Act.put a d v) w → Q (.panic c) a w) (hT : TabOKE (fun _ => Ext) L)
    (hA : AlOK P (late n p l).toArray al) (hTal : ∀ q ∈ al, L.atE q.1 ≠ none) (hnal : ∀ q ∈ al, q.1 < m) (hsl : ∀ q ∈ al, q.2 < a.tmps.size)
    (h : wpRelE P (late n p l).toArray (Ext w) (fun _ => Ext) L.atE m (Q1 al Q) (late n p l) 0 a Facts.top) : (Code.region id l.toArray true).wp P Q a w := by
  refine wp_region_late n p hm hL hQ ?_
  have hlen : l.length = (late n p l).length := by simp [late]
  rw [hlen]
  simp only [Region.lexB, Bool.and_eq_true] at hB
  have hG : ∀ (j k : Nat) (w w' : World), j ≠ k → Ext w w' → Facts.top j w → Facts.top j w' := fun _ _ _ _ _ _ h => h
  have hF : ∀ j, Fresh Facts.top j := fun _ _ => trivial
  have hno : ∀ k, (Array.replicate (late n p l).length false).getD k false = true → False := by
    intro k hk
    simp only [Array.getD, Array.size_replicate] at hk
    split at hk
    · simp at hk
    · cases hk
  have hd : Down (late n p l).toArray (Array.replicate (late n p l).length false) := fun k o _ hk => (hno k hk).elim
  refine wpAny_of_RED (C := Ext w) (E := fun _ => Ext) (T := L.atE) (n := m) (al := al) (Tab.staysE hT) (fun _ _ _ h => h.le) hA hTal hn hb hnal _ _ _ Facts.top _ hd (by simp) hG (fun j _ => hF j) (Ext.refl w).drew (fun _ => trivial) ⟨fun p _ hl => (hno _ hl).elim, fun p _ q _ _ hl _ => (hno _ hl).elim, hsl⟩ ?_
  have := wpAnyR_lexE (C := Ext w) (E := fun _ => Ext) (P := P) (Q := Q1 al Q) (Tab.staysE hT) hn hB.1 (late n p l) 0 (Array.replicate (late n p l).length false) a Facts.top hd hG (fun j _ => hF j) ⟨_, (Ext.refl w).drew, fun _ => trivial⟩ (by simp) (by simpa using hB.2) h
  simpa using this
end
section
variable {P : Program} {ops : Array Oper} {E : Nat → World → World → Prop} {T : Nat → Option (List Value → Value → World → Prop)} {n : Nat} {Q : Exit → Act → World → Prop} {w0 : World} {o : Oper} {rest : List Oper} {k : Nat} {a : Act} {G : Facts}
theorem rgE_quiet (hkn : (k == n) = false) (hw : Region.wanted o (yielded ops a.tmps) = true) (hT : T k = none) (hne : noEnter o.op = true)
    (h : ∀ K : Act → Prop, (∀ a, wpRelE P ops (Ext w0) E T n Q rest (k + 1) a G → K a) → o.quiet P a (fun w => ∃ p : Regrown, w = Go.Sort.grow (redrawn w0 p.d) p.os) K) : wpRelE P ops (Ext w0) E T n Q (o :: rest) k a G :=
  relE_quiet hkn hw hT hne fun K hK => by
    obtain ⟨v, hq, hr⟩ := h K hK
    refine ⟨v, fun w hC => ?_, hr⟩
    obtain ⟨p, hp⟩ := regrown_of_below hC.1
    have := hq w ⟨p, hp⟩
    unfold Oper.quietAt at *
    have hno := noEnter_run (P := P) (a := a) (w := w) hne
    generalize (execOp a.eval o).run P w = r at *
    cases r with
    | ok n w' => cases n <;> simp only [Oper.quietUpon] at this ⊢ <;> first | exact this | exact absurd rfl (hno _ _ _)
    | halt x w' => exact this
end
end Go.Proofs.YtimbikbbbfpeeaaGreatDoor
