/- As XLate's region, where some operations make variables: these are apart. -/
import Derived.Test.YtolkhjdododdaaaGreatP29
import Derived.Test.YtolkhjdododdaaaGreatP37
import Derived.Test.YtolkhjdododdaaaGreatP1
import Derived.Test.YtolkhjdododdaaaGreatP2
set_option linter.unusedSimpArgs false
set_option linter.unusedVariables false
namespace Go.Proofs.YtolkhjdododdaaaGreat
open Go
theorem box_still {x y : World} {q b m : Nat} {Z Z' : Array Value} {T : TypeId} (hg : x.grownBy y (some q)) (hq : BoxAt y q Z' T) (hZ' : Z'.size = m) (hb : BoxAt x b Z T) (hZ : Z.size = m) : ∃ Z, BoxAt y b Z T ∧ Z.size = m := by
  by_cases e : b = q
  · subst e; exact ⟨Z', hq, hZ'⟩
  · exact ⟨Z, hb.grown hg (fun e' => e (Option.some.inj e')), hZ⟩
section
variable {P : Program} {Q : Exit → Act → World → Prop} {l : List Oper}
theorem wp_region_lateD {id : Nat} {a : Act} {w : World} (n p m : Nat) (al : List (Nat × Tmp)) (L : Tab) (hm : P.follows .mixedOrders = true) (hL : lateB l.toArray n p = true) (hn : tailB (late n p l).toArray m = true) (hB : Region.lexB .any (late n p l).toArray = true) (hb : backB (late n p l).toArray = true)
    (hQ : ∀ c a d v w, Q (.panic c) (Act.put a d v) w → Q (.panic c) a w) (hT : TabOKE (fun _ => Ext) L)
    (hA : AlOK P (late n p l).toArray al) (hTal : ∀ q ∈ al, L.atE q.1 ≠ none) (hnal : ∀ q ∈ al, q.1 < m) (hsl : ∀ q ∈ al, q.2 < a.tmps.size)
    (h : wpRelE P (late n p l).toArray (Ext w) (fun _ => Ext) L.atE m (Q1 al Q) (late n p l) 0 a Facts.top) : (Code.region id l.toArray true).wp P Q a w := by
  refine wp_region_late n p hm hL hQ ?_
  have hlen : l.length = (late n p l).length := by simp [late]
  rw [hlen]
  simp only [Region.lexB, Bool.and_eq_true] at hB
  have hG : ∀ (j k : Nat) (w w' : World), j ≠ k → Ext w w' → Facts.top j w → Facts.top j w' := fun _ _ _ _ _ _ h => h
  have hF : ∀ j, Fresh Facts.top j := fun _ _ => trivial
  have hno : ∀ k, (Array.replicate (late n p l).length false).getD k false = true → False := by
    intro k hk
    simp only [Array.getD, Array.size_replicate] at hk
    split at hk
    · simp at hk
    · cases hk
  have hd : Down (late n p l).toArray (Array.replicate (late n p l).length false) := fun k o _ hk => (hno k hk).elim
  refine wpAny_of_RED (C := Ext w) (E := fun _ => Ext) (T := L.atE) (n := m) (al := al) (Tab.staysE hT) (fun _ _ _ h => h.le) hA hTal hn hb hnal _ _ _ Facts.top _ hd (by simp) hG (fun j _ => hF j) (Ext.refl w).drew (fun _ => trivial) ⟨fun p _ hl => (hno _ hl).elim, fun p _ q _ _ hl _ => (hno _ hl).elim, hsl⟩ ?_
  have := wpAnyR_lexE (C := Ext w) (E := fun _ => Ext) (P := P) (Q := Q1 al Q) (Tab.staysE hT) hn hB.1 (late n p l) 0 (Array.replicate (late n p l).length false) a Facts.top hd hG (fun j _ => hF j) ⟨_, (Ext.refl w).drew, fun _ => trivial⟩ (by simp) (by simpa using hB.2) h
  simpa using this
end
section
variable {P : Program} {ops : Array Oper} {E : Nat → World → World → Prop} {T : Nat → Option (List Value → Value → World → Prop)} {n : Nat} {Q : Exit → Act → World → Prop} {w0 : World} {o : Oper} {rest : List Oper} {k : Nat} {a : Act} {G : Facts}
theorem rgE_quiet (hkn : (k == n) = false) (hw : Region.wanted o (yielded ops a.tmps) = true) (hT : T k = none) (hne : noEnter o.op = true)
    (h : ∀ K : Act → Prop, (∀ a, wpRelE P ops (Ext w0) E T n Q rest (k + 1) a G → K a) → o.quiet P a (fun w => ∃ p : Regrown, w = Go.Sort.grow (redrawn w0 p.d) p.os) K) : wpRelE P ops (Ext w0) E T n Q (o :: rest) k a G :=
  relE_quiet hkn hw hT hne fun K hK => by
    obtain ⟨v, hq, hr⟩ := h K hK
    refine ⟨v, fun w hC => ?_, hr⟩
    obtain ⟨p, hp⟩ := regrown_of_below hC.1
    have := hq w ⟨p, hp⟩
    unfold Oper.quietAt at *
    have hno := noEnter_run (P := P) (a := a) (w := w) hne
    generalize (execOp a.eval o).run P w = r at *
    cases r with
    | ok n w' => cases n <;> simp only [Oper.quietUpon] at this ⊢ <;> first | exact this | exact absurd rfl (hno _ _ _)
    | halt x w' => exact this
end
end Go.Proofs.YtolkhjdododdaaaGreat
