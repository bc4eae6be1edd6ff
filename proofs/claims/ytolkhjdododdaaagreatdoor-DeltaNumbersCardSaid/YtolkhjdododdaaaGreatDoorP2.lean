/- Place: any number as one below another. -/
import Derived.Test.YtolkhjdododdaaaGreatDoorP1
import Derived.Test.YtolkhjdododdaaaGreatDoorProg
import Derived.Deep.Light
import Derived.Deep.Heap
set_option linter.unusedSimpArgs false
set_option linter.unusedVariables false
namespace Go.Proofs.YtolkhjdododdaaaGreatDoor
open Go Go.RowKit
set_option maxHeartbeats 400000 in
theorem place_any (v n : Int) (h : 1 ≤ n) (hn : n ≤ 9223372036854775807) (w : World) :
  Calls Tryz.prog 7 #[.int .i64 v, .int .i64 n] w fun e w' => e = .returned (.int .i64 (v % n)) ∧ w = w' := by
 have hlo := (tmod_lo (v := v) h).1
 have hhi := (tmod_lo (v := v) h).2
 by_cases h0 : v.tmod n < 0
 ·have HE := Lib.hid (tmod_neg h h0)
  go_enter Tryz.func7, Tryz.ntmps7
  go_wp2
  go_ret
  exact ⟨ret_int HE.out, rfl⟩
 ·have h0' : 0 ≤ v.tmod n := by omega
  have HE := Lib.hid (tmod_pos h h0')
  go_enter Tryz.func7, Tryz.ntmps7
  go_wp2
  go_ret
  exact ⟨ret_int HE.out, rfl⟩
end Go.Proofs.YtolkhjdododdaaaGreatDoor

/- As XRegion, where an operation may also turn memory that other operations do not look at: each operation has its own relation between the worlds ahead of it and behind it; what is known of a value stays under the relations of the other operations. -/
namespace Go.Proofs.YtolkhjdododdaaaGreatDoor
open Go

def Fresh (G : Facts) (j : Nat) : Prop := ∀ w, G j w
/-- The values that an operation looks at. -/
def look (o : Oper) (a : Act) : List Value := o.op.operands.toList.map a.eval
theorem look_put {ops : Array Oper} (o : Oper) (a : Act) (dst : Option Tmp) (v : Value) (h : ∀ d, dst = some d → d ∉ o.looksAt ops) : look o (a.put dst v) = look o a := by
 unfold look
 refine List.map_congr_left fun x hx => Act.eval_put fun d hd hxd => h d hd ?_
 subst hxd
 exact List.mem_append_left _ (List.mem_filterMap.2 ⟨.tmp d, hx, rfl⟩)
section
variable (P : Program) (ops : Array Oper) (C : World → Prop) (E : Nat → World → World → Prop) (T : Nat → Option (List Value → Value → World → Prop)) (n : Nat) (Q : Exit → Act → World → Prop)
/-- What is owed of operation i; V: the values that it may yield, φ: what is known of them. -/
def OwesE (i : Nat) (o : Oper) (a : Act) (G : Facts) (V : Value → Prop) (φ : Value → World → Prop) : Prop :=
 (Region.wanted o (yielded ops a.tmps) = false ∧ V = (· = undef) ∧ φ = fun _ _ => True) ∨
 (Region.wanted o (yielded ops a.tmps) = true ∧ ∃ need : List Nat, need.all (ancB ops 4 i) = true ∧
  ((T i = none ∧ ∃ u, (∀ w, C w → (∀ j ∈ need, G j w) → o.quietAt P a (fun _ => False) w u) ∧ V = (· = u) ∧ φ = fun _ _ => True) ∨
   (∃ Φ, T i = some Φ ∧ (∀ w, C w → (∀ j ∈ need, G j w) → yields P o a w fun u w' => C w' ∧ E i w w' ∧ Φ (look o a) u w') ∧ V = (fun _ => True) ∧ φ = Φ (look o a))))

def rStepE (i : Nat) (o : Oper) (K : Act → Facts → Prop) (a : Act) (G : Facts) : Prop :=
 ∃ V φ, OwesE P ops C E T i o a G V φ ∧ ∀ v, V v → Live C (G.upd i (φ v)) → K (a.put o.dst v) (G.upd i (φ v))

def rOpE (i : Nat) (K : Act → Facts → Prop) (a : Act) (G : Facts) : Prop :=
 match ops[i]? with
 | none => K a G
 | some o => rStepE P ops C E T i o K a G

def wpAnyRE : Nat → Array Bool → Act → Facts → Prop
 | 0, listed, a, G => Region.ready .any ops listed = [] ∧ fin C Q a G
 | fuel + 1, listed, a, G =>
  (Region.ready .any ops listed = [] → fin C Q a G) ∧
  ∀ i ∈ Region.ready .any ops listed, if i = n then tailAny P ops C Q fuel listed i a G else rOpE P ops C E T i (wpAnyRE fuel (listed.setIfInBounds i true)) a G

/-- The walk in the order of the text. -/
def wpRelE : List Oper → Nat → Act → Facts → Prop
 | [], _, a, G => fin C Q a G
 | o :: rest, k, a, G => if k = n then tailL P ops C Q (o :: rest) a G else rStepE P ops C E T k o (wpRelE rest (k + 1)) a G
end

section
variable {P : Program} {ops : Array Oper} {C : World → Prop} {E : Nat → World → World → Prop} {T : Nat → Option (List Value → Value → World → Prop)} {n : Nat} {Q : Exit → Act → World → Prop}

theorem wpOp_of_rOpE (hT : ∀ i Φ, T i = some Φ → ∀ A k v w w', k ≠ i → E k w w' → Φ A v w → Φ A v w') {i : Nat} {K : Act → Facts → Prop} {K' : Act → World → Prop} {Q' : Exit → Act → World → Prop} {a : Act} {G : Facts} {w : World}
  (hG : ∀ j k w w', j ≠ k → E k w w' → G j w → G j w') (hC : C w) (hw : ∀ j, G j w) (hfi : Fresh G i)
  (h : ∀ a' G' w', (∀ j k w w', j ≠ k → E k w w' → G' j w → G' j w') → (∀ j, j ≠ i → Fresh G j → Fresh G' j) → C w' → (∀ j, G' j w') → K a' G' → K' a' w') (hr : rOpE P ops C E T i K a G) : wpOp P ops Q' i K' a w := by
 unfold rOpE at hr
 unfold wpOp
 have stay : ∀ (φ : World → Prop), (∀ k w w', k ≠ i → E k w w' → φ w → φ w') → ∀ j k w w', j ≠ k → E k w w' → (G.upd i φ) j w → (G.upd i φ) j w' :=
  fun φ hφ j k w w' hne hE hh => ⟨hG j k _ _ hne hE hh.1, fun hji => hφ k _ _ (fun e => hne (hji.trans e.symm)) hE (hh.2 hji)⟩
 have fresh : ∀ (φ : World → Prop), ∀ j, j ≠ i → Fresh G j → Fresh (G.upd i φ) j := fun φ j hne hf w => ⟨hf w, fun e => absurd e hne⟩
 split
 ·rename_i ho; simp only [ho] at hr; exact h _ _ _ hG (fun _ _ hf => hf) hC hw hr
 ·rename_i o ho
  simp only [ho] at hr
  obtain ⟨V, φ, hO, hn⟩ := hr
  rcases hO with ⟨hwt, rfl, rfl⟩ | ⟨hwt, need, _, hO⟩
  ·rw [if_neg (by rw [hwt]; simp)]
   have hf : ∀ j, (G.upd i (fun _ => True)) j w := fun j => ⟨hw j, fun _ => trivial⟩
   exact h _ _ _ (stay _ (fun _ _ _ _ _ h => h)) (fresh _) hC hf (hn undef rfl ⟨w, hC, hf⟩)
  ·rw [if_pos hwt]
   left
   rcases hO with ⟨_, u, hy, rfl, rfl⟩ | ⟨Φ, hTi, hy, rfl, rfl⟩
   ·have hf : ∀ j, (G.upd i (fun _ => True)) j w := fun j => ⟨hw j, fun _ => trivial⟩
    exact quietAt_wp (hy w hC fun j _ => hw j) (h _ _ _ (stay _ (fun _ _ _ _ _ h => h)) (fresh _) hC hf (hn u rfl ⟨w, hC, hf⟩))
   ·refine yields_wp (hy w hC fun j _ => hw j) fun u w' ⟨hC', hE, hΦ⟩ => ?_
    have hf : ∀ j, (G.upd i (Φ (look o a) u)) j w' := fun j => ⟨if e : j = i then e ▸ hfi w' else hG j i _ _ e hE (hw j), fun _ => hΦ⟩
    exact h _ _ _ (stay _ (fun k w1 w2 hne h1 h2 => hT i Φ hTi _ k u w1 w2 hne h1 h2)) (fresh _) hC' hf (hn u trivial ⟨w', hC', hf⟩)

theorem unl_set {listed : Array Bool} {i j : Nat} (h : (listed.setIfInBounds i true).getD j true = false) : j ≠ i ∧ listed.getD j true = false := by
 by_cases e : i = j
 ·subst e
  exfalso
  rcases Nat.lt_or_ge i listed.size with h' | h'
  ·simp [h'] at h
  ·simp at h; try omega
 ·rw [getD_set_ne true e] at h
  exact ⟨fun h => e h.symm, h⟩
theorem wpAny_of_RE (hT : ∀ i Φ, T i = some Φ → ∀ A k v w w', k ≠ i → E k w w' → Φ A v w → Φ A v w') (hn : tailB ops n = true) :
  ∀ (fuel : Nat) (listed : Array Bool) (a : Act) (G : Facts) (w : World), Down ops listed → listed.size = ops.size → (∀ j k w w', j ≠ k → E k w w' → G j w → G j w') → (∀ j, listed.getD j true = false → Fresh G j) → C w → (∀ j, G j w) → wpAnyRE P ops C E T n Q fuel listed a G → wpAny P .any ops Q fuel listed a w
 | 0, _, _, _, w, _, _, _, _, hC, hw, h => ⟨h.1, h.2 w hC hw⟩
 | fuel + 1, listed, a, _, w, hd, hsz, hG, hF, hC, hw, h => by
  refine ⟨fun h0 => h.1 h0 w hC hw, fun i hi => ?_⟩
  have h2 := h.2 i hi
  by_cases hin : i = n
  ·rw [if_pos hin] at h2
   subst hin
   exact h2 w hC hw
  ·rw [if_neg hin] at h2
   exact wpOp_of_rOpE hT hG hC hw (hF i (mem_ready.1 hi).1) (fun a' G' w' hG' hF' hC' hw' hk => wpAny_of_RE hT hn fuel _ a' G' w' (hd.set hi) (by simpa using hsz) hG' (fun j hj => hF' j (unl_set hj).1 (hF j (unl_set hj).2)) hC' hw' hk) h2

theorem rOp_monoE {i : Nat} {a : Act} {G : Facts} {K K' : Act → Facts → Prop} (hL : Live C G) (h : ∀ a' G', Live C G' → K a' G' → K' a' G') (hr : rOpE P ops C E T i K a G) : rOpE P ops C E T i K' a G := by
 unfold rOpE at *
 split
 ·rename_i ho; simp only [ho] at hr; exact h _ _ hL hr
 ·rename_i o ho
  simp only [ho] at hr
  obtain ⟨V, φ, hO, hn⟩ := hr
  exact ⟨V, φ, hO, fun v hv hl => h _ _ hl (hn v hv hl)⟩

theorem OwesE.fwd {i j : Nat} {o : Oper} (hs : ∀ cs b, o.op ≠ .select cs b) {a : Act} {G : Facts} {V : Value → Prop} {φ : Value → World → Prop} {dst : Option Tmp} (hd : ∀ d, dst = some d → d ∉ o.looksAt ops)
  (h : OwesE P ops C E T i o a G V φ) (u : Value) (ψ : World → Prop) : OwesE P ops C E T i o (a.put dst u) (G.upd j ψ) V φ := by
 have hw := wanted_put (ops := ops) o a dst u hd
 rcases h with ⟨h1, h2, h3⟩ | ⟨h1, need, hn, h⟩
 ·exact .inl ⟨hw.trans h1, h2, h3⟩
 ·refine .inr ⟨hw.trans h1, need, hn, ?_⟩
  rcases h with ⟨hT, x, hy, h2, h3⟩ | ⟨Φ, hT, hy, h2, h3⟩
  ·exact .inl ⟨hT, x, fun w hC hf => (quietAt_put (ops := ops) hs a dst u hd).2 (hy w hC fun k hk => (hf k hk).1), h2, h3⟩
  ·have hl := look_put (ops := ops) o a dst u hd
   exact .inr ⟨Φ, hT, fun w hC hf => (yields_put (ops := ops) hs a dst u hd).2 (by rw [hl]; exact hy w hC fun k hk => (hf k hk).1), h2, by rw [hl]; exact h3⟩

theorem OwesE.bwd {i j : Nat} {o : Oper} (hs : ∀ cs b, o.op ≠ .select cs b) {a : Act} {G : Facts} {V : Value → Prop} {φ : Value → World → Prop} {dst : Option Tmp} (hd : ∀ d, dst = some d → d ∉ o.looksAt ops)
  (hnot : ∀ need : List Nat, need.all (ancB ops 4 j) = true → i ∉ need) {u : Value} {ψ : World → Prop} (h : OwesE P ops C E T j o (a.put dst u) (G.upd i ψ) V φ) : OwesE P ops C E T j o a G V φ := by
 have hw := wanted_put (ops := ops) o a dst u hd
 have up : ∀ {need : List Nat} {w : World}, need.all (ancB ops 4 j) = true → (∀ k ∈ need, G k w) → ∀ k ∈ need, (G.upd i ψ) k w :=
  fun hn hf k hk => ⟨hf k hk, fun hki => absurd (hki ▸ hk) (hnot _ hn)⟩
 rcases h with ⟨h1, h2, h3⟩ | ⟨h1, need, hn, h⟩
 ·exact .inl ⟨hw.symm.trans h1, h2, h3⟩
 ·refine .inr ⟨hw.symm.trans h1, need, hn, ?_⟩
  rcases h with ⟨hT, x, hy, h2, h3⟩ | ⟨Φ, hT, hy, h2, h3⟩
  ·exact .inl ⟨hT, x, fun w hC hf => (quietAt_put (ops := ops) hs a dst u hd).1 (hy w hC (up hn hf)), h2, h3⟩
  ·have hl := look_put (ops := ops) o a dst u hd
   exact .inr ⟨Φ, hT, fun w hC hf => (yields_put (ops := ops) hs a dst u hd).1 (by rw [← hl]; exact hy w hC (up hn hf)), h2, by rw [← hl]; exact h3⟩

theorem OwesE.live {i : Nat} {o : Oper} {a : Act} {G : Facts} {V : Value → Prop} {φ : Value → World → Prop} (hG : ∀ j k w w', j ≠ k → E k w w' → G j w → G j w') (hfi : Fresh G i) (hL : Live C G) (h : OwesE P ops C E T i o a G V φ) : ∃ v, V v ∧ Live C (G.upd i (φ v)) := by
 obtain ⟨w, hC, hf⟩ := hL
 rcases h with ⟨_, rfl, rfl⟩ | ⟨_, need, _, h⟩
 ·exact ⟨undef, rfl, w, hC, fun j => ⟨hf j, fun _ => trivial⟩⟩
 ·rcases h with ⟨_, x, _, rfl, rfl⟩ | ⟨Φ, _, hy, rfl, rfl⟩
  ·exact ⟨x, rfl, w, hC, fun j => ⟨hf j, fun _ => trivial⟩⟩
  ·obtain ⟨v, w', hC', hE, hΦ⟩ := yields_some (hy w hC fun k _ => hf k)
   exact ⟨v, trivial, w', hC', fun j => ⟨if e : j = i then e ▸ hfi w' else hG j i _ _ e hE (hf j), fun _ => hΦ⟩⟩

theorem OwesE.unique {i : Nat} {o : Oper} {a : Act} {G : Facts} {V V' : Value → Prop} {φ φ' : Value → World → Prop} (hL : Live C G) (h : OwesE P ops C E T i o a G V φ) (h' : OwesE P ops C E T i o a G V' φ') : V = V' ∧ φ = φ' := by
 obtain ⟨w, hC, hf⟩ := hL
 rcases h with ⟨hw, rfl, rfl⟩ | ⟨hw, need, _, h⟩ <;> rcases h' with ⟨hw', rfl, rfl⟩ | ⟨hw', need', _, h'⟩
 ·exact ⟨rfl, rfl⟩
 ·rw [hw] at hw'; cases hw'
 ·rw [hw] at hw'; cases hw'
 ·rcases h with ⟨hT, x, hy, rfl, rfl⟩ | ⟨Φ, hT, hy, rfl, rfl⟩ <;> rcases h' with ⟨hT', x', hy', rfl, rfl⟩ | ⟨Φ', hT', hy', rfl, rfl⟩
  ·have := quietAt_unique (hy w hC fun k _ => hf k) (hy' w hC fun k _ => hf k)
   subst this
   exact ⟨rfl, rfl⟩
  ·rw [hT] at hT'; cases hT'
  ·rw [hT] at hT'; cases hT'
  ·rw [hT] at hT'; cases hT'; exact ⟨rfl, rfl⟩

/-- Two operations that may both come up now and are apart change places. -/
theorem rOp_swapE {i j : Nat} {oi oj : Oper} {listed : Array Bool} (hd : Down ops listed) (hri : i ∈ Region.ready .any ops listed) (hrj : j ∈ Region.ready .any ops listed)
  (hi : ops[i]? = some oi) (hj : ops[j]? = some oj) (hap : oi.apart ops oj = true)
  (hsi : ∀ cs b, oi.op ≠ .select cs b) (hsj : ∀ cs b, oj.op ≠ .select cs b) {K : Act → Facts → Prop} {a : Act} {G : Facts} (hG : ∀ j k w w', j ≠ k → E k w w' → G j w → G j w') (hfi : Fresh G i) (hL : Live C G)
  (h : rOpE P ops C E T i (fun a' G' => rOpE P ops C E T j K a' G') a G) : rOpE P ops C E T j (fun a' G' => rOpE P ops C E T i K a' G') a G := by
 obtain ⟨h1, h2, h3⟩ := Oper.apart_spec hap
 obtain ⟨hiun, oi', hoi', _⟩ := mem_ready.1 hri
 obtain ⟨_, oj', hoj', hallj⟩ := mem_ready.1 hrj
 rw [hi] at hoi'; cases hoi'
 rw [hj] at hoj'; cases hoj'
 have notIn : ∀ need : List Nat, need.all (ancB ops 4 j) = true → i ∉ need := by
  intro need hn hmem
  have := anc_listed hd 4 j i oj hj hallj (List.all_eq_true.1 hn i hmem)
  rcases Nat.lt_or_ge i listed.size with h' | h'
  ·simp [h'] at hiun this; rw [hiun] at this; cases this
  ·simp [Array.getElem?_eq_none h'] at this
 unfold rOpE at h ⊢
 simp only [hi, hj] at h ⊢
 obtain ⟨Vi, φi, hOi, hi'⟩ := h
 obtain ⟨v0, hv0, hl0⟩ := hOi.live hG hfi hL
 obtain ⟨Vj, φj, hOj, _⟩ := hi' v0 hv0 hl0
 have hOj := OwesE.bwd hsj h1 notIn hOj
 refine ⟨Vj, φj, hOj, fun u hu _ => ⟨Vi, φi, OwesE.fwd hsi h3 hOi u _, fun v hv hlv => ?_⟩⟩
 rw [upd_comm] at hlv ⊢
 have hlv' : Live C (G.upd i (φi v)) := let ⟨w, hC, hf⟩ := hlv; ⟨w, hC, fun k => (hf k).1⟩
 obtain ⟨Vj', φj', hOj', hk⟩ := hi' v hv hlv'
 obtain ⟨rfl, rfl⟩ := hOj.unique hL (OwesE.bwd hsj h1 notIn hOj')
 rw [← Act.put_comm a v u h2]
 exact hk u hu hlv

theorem rOp_stayE {i : Nat} {a : Act} {G : Facts} {K : Act → Facts → Prop} (hT : ∀ i Φ, T i = some Φ → ∀ A k v w w', k ≠ i → E k w w' → Φ A v w → Φ A v w') (hG : ∀ j k w w', j ≠ k → E k w w' → G j w → G j w')
  (hr : rOpE P ops C E T i K a G) : rOpE P ops C E T i (fun a' G' => ((∀ j k w w', j ≠ k → E k w w' → G' j w → G' j w') ∧ ∀ j, j ≠ i → Fresh G j → Fresh G' j) ∧ K a' G') a G := by
 unfold rOpE at *
 split
 ·rename_i ho; simp only [ho] at hr; exact ⟨⟨hG, fun _ _ h => h⟩, hr⟩
 ·rename_i o ho
  simp only [ho] at hr
  obtain ⟨V, φ, hO, hn⟩ := hr
  refine ⟨V, φ, hO, fun v hv hl => ⟨⟨?_, fun j hne hf w => ⟨hf w, fun e => absurd e hne⟩⟩, hn v hv hl⟩⟩
  have stay : ∀ (ψ : World → Prop), (∀ k w w', k ≠ i → E k w w' → ψ w → ψ w') → ∀ j k w w', j ≠ k → E k w w' → (G.upd i ψ) j w → (G.upd i ψ) j w' :=
   fun ψ hψ j k w w' hne hE hh => ⟨hG j k _ _ hne hE hh.1, fun hji => hψ k _ _ (fun e => hne (hji.trans e.symm)) hE (hh.2 hji)⟩
  rcases hO with ⟨_, rfl, rfl⟩ | ⟨_, need, _, hO⟩
  ·exact stay _ (fun _ _ _ _ _ h => h)
  ·rcases hO with ⟨_, x, _, rfl, rfl⟩ | ⟨Φ, hTi, _, rfl, rfl⟩
   ·exact stay _ (fun _ _ _ _ _ h => h)
   ·exact stay _ (fun k w w' hne h1 h2 => hT i _ hTi _ k v w w' hne h1 h2)

theorem wpAnyR_firstE (hT : ∀ i Φ, T i = some Φ → ∀ A k v w w', k ≠ i → E k w w' → Φ A v w → Φ A v w') (hn : tailB ops n = true) {i : Nat} {oi : Oper} (hi : ops[i]? = some oi) (hsel : ∀ (j : Nat) (o : Oper) cs b, ops[j]? = some o → o.op ≠ .select cs b) :
  ∀ (fuel : Nat) (listed : Array Bool) (a : Act) (G : Facts), Down ops listed → (∀ j k w w', j ≠ k → E k w w' → G j w → G j w') → (∀ j, listed.getD j true = false → Fresh G j) → Live C G →
   (∀ j oj, ops[j]? = some oj → j ≠ i → listed.getD j true = false → (∀ e ∈ oj.after, Region.binds .any e = true → e.on ≠ i) → oi.apart ops oj = true) →
   i ∈ Region.ready .any ops listed →
   (if i = n then tailAny P ops C Q fuel listed i a G else rOpE P ops C E T i (wpAnyRE P ops C E T n Q fuel (listed.setIfInBounds i true)) a G) → wpAnyRE P ops C E T n Q (fuel + 1) listed a G := by
 intro fuel
 induction fuel with
 | zero =>
  intro listed a G hd hG hF hL _ hr H
  refine ⟨fun h => (by rw [h] at hr; cases hr), fun j hj => ?_⟩
  by_cases hji : j = i
  ·subst hji; exact H
  ·exfalso
   have hin : i ≠ n := fun h => by subst h; exact hji (tail_alone hd hn hr hj)
   rw [if_neg hin] at H
   have hrj := ready_mono hj hji
   unfold rOpE at H
   simp only [hi] at H
   obtain ⟨V, φ, hO, hn⟩ := H
   obtain ⟨v, hv, hl⟩ := hO.live hG (hF i (mem_ready.1 hr).1) hL
   have := (hn v hv hl).1
   rw [this] at hrj
   cases hrj
 | succ fuel ih =>
  intro listed a G hd hG hF hL hfree hr H
  refine ⟨fun h => (by rw [h] at hr; cases hr), fun j hj => ?_⟩
  by_cases hji : j = i
  ·subst hji; exact H
  ·have hin : i ≠ n := fun h => by subst h; exact hji (tail_alone hd hn hr hj)
   have hjn : j ≠ n := fun h => by subst h; exact hji (tail_alone hd hn hj hr).symm
   rw [if_neg hin] at H
   rw [if_neg hjn]
   obtain ⟨hjun, oj, hoj, hall⟩ := mem_ready.1 hj
   have hnot : ∀ e ∈ oj.after, Region.binds .any e = true → e.on ≠ i := fun e he hb heq => by
    have h1 := hall e he hb
    have h0 := (mem_ready.1 hr).1
    rw [heq] at h1
    rcases Nat.lt_or_ge i listed.size with h' | h'
    ·simp [h'] at h0 h1; rw [h0] at h1; cases h1
    ·simp [Array.getElem?_eq_none h'] at h1
   have hfree' : ∀ k ok, ops[k]? = some ok → k ≠ i → (listed.setIfInBounds j true).getD k true = false →
     (∀ e ∈ ok.after, Region.binds .any e = true → e.on ≠ i) → oi.apart ops ok = true := fun k ok hk hki hun hno => by
    refine hfree k ok hk hki ?_ hno
    by_cases hjk : j = k
    ·subst hjk; exact hjun
    ·rw [getD_set_ne true hjk] at hun; exact hun
   have H2 : rOpE P ops C E T i (fun a' G' => rOpE P ops C E T j (wpAnyRE P ops C E T n Q fuel ((listed.setIfInBounds i true).setIfInBounds j true)) a' G') a G :=
    rOp_monoE hL (fun a' G' _ hk => by have := hk.2 j (ready_mono hj hji); rwa [if_neg hjn] at this) H
   have H3 := rOp_swapE hd hr hj hi hoj (hfree j oj hoj hji hjun hnot) (fun cs b => hsel i oi cs b hi) (fun cs b => hsel j oj cs b hoj) hG (hF i (mem_ready.1 hr).1) hL H2
   refine rOp_monoE hL (fun a' G' hL' h3 => ih (listed.setIfInBounds j true) a' G' (hd.set hj) h3.1.1 (fun k hk => h3.1.2 k (unl_set hk).1 (hF k (unl_set hk).2)) hL' hfree' (ready_mono hr (Ne.symm hji)) ?_) (rOp_stayE hT hG H3)
   rw [if_neg hin]
   rw [Array.setIfInBounds_comm _ _ (Ne.symm hji)] at *
   exact h3.2

theorem wpAnyR_lexE (hT : ∀ i Φ, T i = some Φ → ∀ A k v w w', k ≠ i → E k w w' → Φ A v w → Φ A v w') (hn : tailB ops n = true) (hs : Region.noSelect ops = true) : ∀ (l : List Oper) (k : Nat) (listed : Array Bool) (a : Act) (G : Facts), Down ops listed → (∀ j k w w', j ≠ k → E k w w' → G j w → G j w') → (∀ j, listed.getD j true = false → Fresh G j) → Live C G →
  (∀ j, l[j]? = ops[k + j]?) → Region.lexFrom .any ops l.length k listed = true → wpRelE P ops C E T n Q l k a G → wpAnyRE P ops C E T n Q l.length listed a G
 | [], _, _, _, _, _, _, _, _, _, hB, h => ⟨by simpa [Region.lexFrom] using hB, h⟩
 | o :: l, k, listed, a, G, hd, hG, hF, hL, hl, hB, h => by
  have h0 : ops[k]? = some o := by simpa using (hl 0).symm
  simp only [List.length_cons, Region.lexFrom, Bool.and_eq_true] at hB
  obtain ⟨⟨hr, hf⟩, hB'⟩ := hB
  have hr' : k ∈ Region.ready .any ops listed := by simpa using hr
  refine wpAnyR_firstE hT hn h0 (Region.noSelect_spec hs) l.length listed a G hd hG hF hL (Region.free_spec h0 hf) hr' ?_
  simp only [wpRelE] at h
  by_cases hkn : k = n
  ·rw [if_pos hkn] at h ⊢
   intro w hC hw
   have hch := tail_chain (P := P) (Q := Q) hn (o :: l) k listed a w (by omega) hd hl (by simp only [List.length_cons, Region.lexFrom, Bool.and_eq_true]; exact ⟨⟨hr, hf⟩, hB'⟩) (h w hC hw)
   exact hch.2 k hr'
  ·rw [if_neg hkn] at h ⊢
   have hst : rOpE P ops C E T k (wpRelE P ops C E T n Q l (k + 1)) a G := by unfold rOpE; simp only [h0]; exact h
   exact rOp_monoE hL (fun a' G' hL' h' => wpAnyR_lexE hT hn hs l (k + 1) _ a' G' (hd.set hr') h'.1.1 (fun j hj => h'.1.2 j (unl_set hj).1 (hF j (unl_set hj).2)) hL' (fun j => by have := hl (j + 1); simpa [Nat.add_assoc, Nat.add_comm 1 j] using this) hB' h'.2) (rOp_stayE hT hG hst)

/-- **A region that draws its order, walked once.** n: the number of its last operation, if that one is taken by a law of its own; else any number from the region's size on. -/
theorem wp_region_relE (C : World → Prop) (E : Nat → World → World → Prop) (T : Nat → Option (List Value → Value → World → Prop)) (hT : ∀ i Φ, T i = some Φ → ∀ A k v w w', k ≠ i → E k w w' → Φ A v w → Φ A v w')
  {id : Nat} {Q : Exit → Act → World → Prop} {a : Act} {w : World} {l : List Oper} (n : Nat) (hn : tailB l.toArray n = true) (hm : P.follows .mixedOrders = true) (hB : Region.lexB .any l.toArray = true) (hC : C w.drew)
  (h : wpRelE P l.toArray C E T n Q l 0 a Facts.top) : (Code.region id l.toArray true).wp P Q a w := by
 simp only [Region.lexB, Bool.and_eq_true] at hB
 have hG : ∀ (j k : Nat) (w w' : World), j ≠ k → E k w w' → Facts.top j w → Facts.top j w' := fun _ _ _ _ _ _ h => h
 have hF : ∀ j, Fresh Facts.top j := fun _ _ => trivial
 have hd : Down l.toArray (Array.replicate l.toArray.size false) := by
  intro k o _ hk
  simp only [Array.getD, Array.size_replicate] at hk
  split at hk
  ·simp at hk
  ·cases hk
 refine wp_region_any hm (wpAny_of_RE hT hn _ _ _ Facts.top _ hd (by simp) hG (fun j _ => hF j) hC (fun _ => trivial) ?_)
 have := wpAnyR_lexE (C := C) hT hn hB.1 l 0 (Array.replicate l.toArray.size false) a Facts.top hd hG (fun j _ => hF j) ⟨_, hC, fun _ => trivial⟩ (by simp) (by simpa using hB.2) h
 simpa using this
end

/-! ### The steps -/
section
variable {P : Program} {ops : Array Oper} {C : World → Prop} {E : Nat → World → World → Prop} {T : Nat → Option (List Value → Value → World → Prop)} {n : Nat} {Q : Exit → Act → World → Prop} {o : Oper} {rest : List Oper} {k : Nat} {a : Act} {G : Facts}

def StaysE (E : Nat → World → World → Prop) (i : Nat) (Φ : Value → World → Prop) : Prop := ∀ k, k ≠ i → ∀ v w w', E k w w' → Φ v w → Φ v w'
def TabOKE (E : Nat → World → World → Prop) : Tab → Prop
 | [] => True
 | (i, φ) :: L => StaysE E i φ ∧ TabOKE E L
def Tab.atE (L : Tab) (i : Nat) : Option (List Value → Value → World → Prop) := (L.at i).map fun Φ _ => Φ
theorem Tab.staysE {L : Tab} (h : TabOKE E L) : ∀ i Φ, L.atE i = some Φ → ∀ A k v w w', k ≠ i → E k w w' → Φ A v w → Φ A v w' := by
 induction L with
 | nil => intro i Φ hi; cases hi
 | cons p L ih =>
  obtain ⟨j, φ⟩ := p
  intro i Φ hi A k v w w' hne
  simp only [Tab.atE, Tab.at] at hi
  split at hi
  ·rename_i e; cases hi; subst e; exact h.1 k hne v w w'
  ·exact ih h.2 i Φ hi A k v w w' hne
/-- Tables whose facts may name the values that the operation looks at. -/
def TabP := List (Nat × (List Value → Value → World → Prop))
def TabP.at : TabP → Nat → Option (List Value → Value → World → Prop)
 | [], _ => none
 | (i, φ) :: L, k => if k = i then some φ else TabP.at L k
def TabOKP (E : Nat → World → World → Prop) : TabP → Prop
 | [] => True
 | (i, φ) :: L => (∀ A k, k ≠ i → ∀ v w w', E k w w' → φ A v w → φ A v w') ∧ TabOKP E L
theorem TabP.staysE {L : TabP} (h : TabOKP E L) : ∀ i Φ, TabP.at L i = some Φ → ∀ A k v w w', k ≠ i → E k w w' → Φ A v w → Φ A v w' := by
 induction L with
 | nil => intro i Φ hi; cases hi
 | cons p L ih =>
  obtain ⟨j, φ⟩ := p
  intro i Φ hi A k v w w' hne
  simp only [TabP.at] at hi
  split at hi
  ·rename_i e; cases hi; subst e; exact h.1 A k hne v w w'
  ·exact ih h.2 i Φ hi A k v w w' hne

theorem relE_nil (h : ∀ w, C w → (∀ j, G j w) → Q .normal a w) : wpRelE P ops C E T n Q [] k a G := h
theorem relE_step (hkn : (k == n) = false) (h : rStepE P ops C E T k o (wpRelE P ops C E T n Q rest (k + 1)) a G) : wpRelE P ops C E T n Q (o :: rest) k a G := by
 have : k ≠ n := by simpa using hkn
 unfold wpRelE
 rw [if_neg this]
 exact h
theorem relE_tail (hkn : (k == n) = true) (ho : ops[k]? = some o) (h : ∀ w, C w → (∀ j, G j w) → wpList P ops Q (o :: rest) a w) : wpRelE P ops C E T n Q (o :: rest) k a G := by
 have : k = n := by simpa using hkn
 unfold wpRelE
 rw [if_pos this]
 exact h
theorem relE_quiet (hkn : (k == n) = false) (hw : Region.wanted o (yielded ops a.tmps) = true) (hT : T k = none) (hne : noEnter o.op = true)
  (h : ∀ K : Act → Prop, (∀ a, wpRelE P ops C E T n Q rest (k + 1) a G → K a) → o.quiet P a (fun w => C w ∧ ∀ j ∈ ([] : List Nat), G j w) K) : wpRelE P ops C E T n Q (o :: rest) k a G := by
 obtain ⟨v, hq, hr⟩ := h _ (fun _ h => h)
 refine relE_step hkn ⟨(· = v), fun _ _ => True, .inr ⟨hw, [], rfl, .inl ⟨hT, v, fun w hC hf => ?_, rfl, rfl⟩⟩, fun u hu _ => by subst hu; rw [Facts.upd_true]; exact hr⟩
 have := hq w ⟨hC, hf⟩
 unfold Oper.quietAt at *
 have hno := noEnter_run (P := P) (a := a) (w := w) hne
 generalize (execOp a.eval o).run P w = r at *
 cases r with
 | ok n w' => cases n <;> simp only [Oper.quietUpon] at this ⊢ <;> first | exact this | exact absurd rfl (hno _ _ _)
 | halt x w' => exact this
/-- What is asked behind an operation: behind a name that simp does not open. -/
def RgPostE (C : World → Prop) (E : World → World → Prop) (w : World) (Φ : Value → World → Prop) (v : Value) (w' : World) : Prop := C w' ∧ E w w' ∧ Φ v w'
theorem relE_fact (need : List Nat) {Φ : Value → World → Prop} (hkn : (k == n) = false) (hw : Region.wanted o (yielded ops a.tmps) = true) (hT : T k = some (fun _ => Φ)) (hn : need.all (ancB ops 4 k) = true)
  (h : ∀ w, C w → (∀ j ∈ need, G j w) → yields P o a w (RgPostE C (E k) w Φ))
  (hk : ∀ v w, C w → (∀ j, G j w) → Φ v w → wpRelE P ops C E T n Q rest (k + 1) (a.put o.dst v) (G.upd k (Φ v))) : wpRelE P ops C E T n Q (o :: rest) k a G :=
 relE_step hkn ⟨fun _ => True, Φ, .inr ⟨hw, need, hn, .inr ⟨fun _ => Φ, hT, h, rfl, rfl⟩⟩, fun v _ ⟨w, hC, hf⟩ => hk v w hC (fun j => (hf j).1) ((hf k).2 rfl)⟩
theorem relE_val (need : List Nat) {u : Value} (hkn : (k == n) = false) (hw : Region.wanted o (yielded ops a.tmps) = true) (hT : T k = some (fun _ v _ => v = u)) (hn : need.all (ancB ops 4 k) = true)
  (h : ∀ w, C w → (∀ j ∈ need, G j w) → yields P o a w (RgPostE C (E k) w (fun x _ => x = u)))
  (hk : wpRelE P ops C E T n Q rest (k + 1) (a.put o.dst u) G) : wpRelE P ops C E T n Q (o :: rest) k a G :=
 relE_fact need hkn hw hT hn h (fun v w _ _ hv => by
  have hv : v = u := hv
  subst hv
  have : G.upd k (fun _ => v = v) = G := by funext k w; simp [Facts.upd]
  show wpRelE P ops C E T n Q rest (k + 1) (a.put o.dst v) (G.upd k (fun _ => v = v))
  rw [this]; exact hk)
/-- A store of a whole variable, as the region's walk meets it. -/
theorem yields_storeBox {w : World} {R : Value → World → Prop} (ty : TypeId) (x y : Operand) (ho : o.op = .store ty x y)
  (g : Nat) (cells old : Array Value) (t : TypeId) (hx : a.eval x = .pointer (some ⟨g, 0, none⟩)) (hy : a.eval y = .agg cells)
  (hg : w.heap[g]? = some (.cells old t (0, 0))) (hi : (P.info? ty).map (·.size) = some cells.size) (hold : old.size = cells.size) (h1 : cells.all (·.oneCell') = true)
  (hR : ∀ w', w'.heap[g]? = some (.cells cells t (0, 0)) → w.grownBy w' (some g) → R undef w') : yields P o a w R := by
 unfold yields execOp
 simp only [ho, hx, hy, Instr.storeAt, Instr.sureAddr, Sem.run_bind, Sem.run_pure, Result.andThen_ok, run_storeVar_row w g t ty old cells hg hi hold h1]
 exact hR _ (setRow_heap w g old cells t (0, 0) hg) ⟨rfl, rfl, rfl, by simp [World.setRow], fun k _ hne => setRow_other w g k cells (fun e => hne (by rw [e]))⟩
/-- As the kit's 'run_append_own': and the slice that was appended to is a row of one's own still. -/
theorem run_append_keep {P : Program} (w : World) (base : Nat) (t ty e : TypeId) (i : TypeInfo) (z : Value) (size bytes : Nat) (ht : P.underlying t = some (.slice e)) (hi : P.info? e = some i) (hz : i.zero = some z)
  (hsize : i.size = size) (hby : i.bytes = bytes) (hzs : z.cells.size = size) (hsz : 0 < size)
  (v : Value) (n : Nat) (xs : List Value) (hown : w.ownsRow base e size v n xs)
  (a : Addr) (m c : Nat) (news : List Value) (hl : news.length = m * size) (hnews : ∀ j u, news[j]? = some u → w.cell? (a.add j) = some u) (h1 : ∀ u ∈ news, u.oneCell' = true)
  (h63 : n + m ≤ maxLen) (hbytes : (n + m) * bytes ≤ 140737488355328) (hbase : base ≤ w.heap.size) :
  ∃ v' w', (Builtin.append_ #[t, t] ty #[v, .slice (some a) m c]).run P w = .ok v' w' ∧ w'.ownsRow base e size v' (n + m) (xs ++ news) ∧ w.grownBy w' v.ownBlock ∧ w'.ownsRow base e size v n xs := by
 obtain ⟨v', w', hr, h2, h3, _⟩ := run_append_own (P := P) w base t ty e i z size bytes ht hi hz hsize hby hzs hsz v n xs hown a m c news hl hnews h1 h63 hbytes hbase
 refine ⟨v', w', hr, h2, h3, ?_⟩
 subst hsize
 subst hby
 have hsmall : n + m ≤ 9223372036854775807 := by simp only [maxLen] at h63; omega
 rcases hown.2 with ⟨rfl, rfl⟩ | ⟨g, cap, cur, rfl, hbg, hg, hnc, hcm, hcs, htake⟩
 ·have hx : xs = [] := List.eq_nil_of_length_eq_zero (by simpa using hown.1)
  subst hx
  exact World.ownsRow_nil _ _ _ _
 ·by_cases hroom : n + m ≤ cap
  ·have hfit : n * i.size + news.length ≤ cur.size := by rw [hl, hcs, ← Nat.add_mul]; exact Nat.mul_le_mul_right _ hroom
   have hr2 := run_append_room (P := P) w t ty e i ht hi g n cap cur hg a m c news hl hnews h1 hroom hfit
   rw [hr] at hr2
   cases hr2
   obtain ⟨hl2, h2'⟩ := h2
   rcases h2' with ⟨e, _⟩ | ⟨g2, cap2, cur2, e, hb2, hg2, hn2, hm2, hs2, ht2⟩
   ·cases e
   ·cases e
    refine ⟨hown.1, .inr ⟨g, cap, cur2, rfl, hbg, hg2, hnc, hcm, hs2, ?_⟩⟩
    have h5 := congrArg (List.take (n * i.size)) ht2
    rw [List.take_take, Nat.min_eq_left (Nat.mul_le_mul_right _ (Nat.le_add_right n m)), List.take_left' hown.1] at h5
    exact h5
  ·have holds : ∀ j u, xs[j]? = some u → w.cell? ((⟨g, 0, none⟩ : Addr).add j) = some u := hown.cells (g := g) rfl
   have hr2 := run_append_grow (P := P) w t ty e i z ht hi hz ⟨g, 0, none⟩ n cap xs hown.1 holds a m c news hl hnews (by omega) (by omega) (growslice_fits (by omega) hbytes)
   rw [hr] at hr2
   cases hr2
   exact (show w.drew.ownsRow base e i.size (.slice (some ⟨g, 0, none⟩) n cap) n xs from hown).alloc _
/-- 'append' to a row of one's own, as the region's walk meets it. -/
theorem yields_append {Tt e : TypeId} {z : Value} {size bytes : Nat} (info : (P.info? e).map (fun i => (i.zero, i.size, i.bytes)) = some (some z, size, bytes)) (und : P.underlying Tt = some (.slice e)) (hzs : z.cells.size = size) (hsz : 0 < size) (s x : Operand)
  (hop : o.op = Op.call { callee := Callee.builtin Builtin.append, args := #[s, x], argTypes := #[Tt, Tt] }) {w : World}
  (B : Nat) (hB : B ≤ w.heap.size) (v : Value) (m : Nat) (xs : List Value) (hown : w.ownsRow B e size v m xs) (hs : a.eval s = v) (g c : Nat) (c' : Nat) (news : List Value) (hx : a.eval x = .slice (some ⟨g, 0, none⟩) c c')
  (hl : news.length = c * size) (hnews : ∀ j u, news[j]? = some u → w.cell? ⟨g, j, none⟩ = some u) (h1 : ∀ u ∈ news, u.oneCell' = true) (h63 : m + c ≤ maxLen) (hb : (m + c) * bytes ≤ 140737488355328) {R : Value → World → Prop}
  (hR : ∀ v' w', w'.ownsRow B e size v' (m + c) (xs ++ news) → w.grownBy w' v.ownBlock → w'.ownsRow B e size v m xs → R v' w') : yields P o a w R := by
 obtain ⟨i0, hi, hz0, hz1, hz2⟩ := info_parts info
 obtain ⟨v', w', hr, h2, h3, h4⟩ := run_append_keep (P := P) w B Tt o.type e i0 z size bytes und hi hz0 hz1 hz2 hzs hsz v m xs hown ⟨g, 0, none⟩ c c' news hl (fun j u hj => by rw [Addr.add_lit, Nat.zero_add]; exact hnews j u hj) h1 h63 hb hB
 unfold yields execOp
 simp only [hop, resolve, invoke, builtin, Sem.run_bind, Sem.run_pure, Result.andThen_ok, List.map_toArray, List.map_cons, List.map_nil, hs, hx, hr]
 exact hR v' w' h2 h3 h4
end
end Go.Proofs.YtolkhjdododdaaaGreatDoor

/- Cells as one thing (plain data; how they lie in memory). -/
namespace Go.Proofs.YtolkhjdododdaaaGreatDoor
open Go Go.RowKit

structure Cl where
 val : ByteArray
 dead : Bool
 at_ : Int
 fin : Int
@[simp] theorem Cl.eta (c : Cl) : Cl.mk c.val c.dead c.at_ c.fin = c := rfl
def clCells : List Cl → List Value
 | [] => []
 | c :: l => .string c.val :: .bool c.dead :: .int .i64 c.at_ :: .int .i64 c.fin :: clCells l
def ClsIn (w : World) (v : Value) (l : List Cl) : Prop := SliceIn w v l.length (clCells l)
theorem ClsIn.ext {w w' : World} (hE : Ext w w') {v : Value} {l : List Cl} (h : ClsIn w v l) : ClsIn w' v l := SliceIn.ext hE h
/-- A cell in memory. -/
structure CellAt (w : World) (b : Nat) (c : Cl) : Prop where
 c0 : w.cell? ⟨b, 0, none⟩ = some (.string c.val)
 c1 : w.cell? ⟨b, 1, none⟩ = some (.bool c.dead)
 c2 : w.cell? ⟨b, 2, none⟩ = some (.int .i64 c.at_)
 c3 : w.cell? ⟨b, 3, none⟩ = some (.int .i64 c.fin)
theorem CellAt.ext {w w' : World} (hE : Ext w w') {b : Nat} {c : Cl} (h : CellAt w b c) : CellAt w' b c := ⟨hE.cell h.c0, hE.cell h.c1, hE.cell h.c2, hE.cell h.c3⟩
def seenB (d : Bool) (a e now : Int) : Bool := decide (0 < a) && !d && (e == 0 || decide (now < e))
def stampB (v : Int) : Bool := decide (0 ≤ v) && decide (v ≤ 1099511627776)
def checkC (v : ByteArray) (d : Bool) (a e : Int) : Bool :=
 stampB a && stampB e && (if a = 0 then v.toList == [] && !d && e == 0 else if d then v.toList == [] && e == 0 else decide (v.size ≤ 100))

end Go.Proofs.YtolkhjdododdaaaGreatDoor

/- Rows and variables of one's own, that turn while memory grows. -/
namespace Go.Proofs.YtolkhjdododdaaaGreatDoor
open Go Go.RowKit

/-- A variable: block p holds the cells cs of type e, none frozen. -/
def BoxAt (w : World) (p : Nat) (cs : Array Value) (e : TypeId) : Prop := w.heap[p]? = some (.cells cs e (0, 0))
theorem BoxAt.lt {w : World} {p : Nat} {cs : Array Value} {e : TypeId} (h : BoxAt w p cs e) : p < w.heap.size := (Array.getElem?_eq_some_iff.1 h).1
theorem BoxAt.ext {w w' : World} (hE : Ext w w') {p : Nat} {cs : Array Value} {e : TypeId} (h : BoxAt w p cs e) : BoxAt w' p cs e := by
 have hl := h.lt
 unfold BoxAt at *
 rw [hE.block p hl]
 exact h
theorem BoxAt.made (w : World) (cs : Array Value) (e : TypeId) : BoxAt (w.alloc (.cells cs e)) w.heap.size cs e := heap_alloc_new w _
theorem BoxAt.cell {w : World} {p : Nat} {cs : Array Value} {e : TypeId} (h : BoxAt w p cs e) (i : Nat) : w.cell? ⟨p, i, none⟩ = cs[i]? := var_cell h i
theorem BoxAt.free {w : World} {p : Nat} {cs : Array Value} {e : TypeId} (h : BoxAt w p cs e) (i : Nat) : w.frozen? ⟨p, i, none⟩ = false := var_free h i
theorem BoxAt.other {w : World} {p q : Nat} {cs : Array Value} {e : TypeId} (h : BoxAt w p cs e) (hne : p ≠ q) (i : Nat) (u : Value) : BoxAt (w.setCell ⟨q, i, none⟩ u) p cs e := by
 unfold BoxAt at *
 rw [Deep.blk_setCell_other _ _ _ _ hne]
 exact h
theorem BoxAt.set {w : World} {p : Nat} {cs : Array Value} {e : TypeId} (h : BoxAt w p cs e) (i : Nat) (u : Value) : BoxAt (w.setCell ⟨p, i, none⟩ u) p (cs.setIfInBounds i u) e := by
 unfold BoxAt at *
 have hl := (Array.getElem?_eq_some_iff.1 h).1
 have he := (Array.getElem?_eq_some_iff.1 h).2
 simp only [World.setCell]
 rw [Array.getElem?_eq_getElem (by simpa using hl)]
 simp [Array.getElem_modify, he]
theorem BoxAt.grown {w w' : World} {p : Nat} {cs : Array Value} {e : TypeId} {row : Option Nat} (h : BoxAt w p cs e) (hg : w.grownBy w' row) (hne : some p ≠ row) : BoxAt w' p cs e := by
 unfold BoxAt at *
 rw [hg.block p (Array.getElem?_eq_some_iff.1 h).1 hne]
 exact h

/-- 'append(v, ..)' to a row of one's own, what is appended lying in a row that was made just now. -/
theorem appR {P : Program} {T e : TypeId} {z : Value} {size bytes : Nat} (info : (P.info? e).map (fun i => (i.zero, i.size, i.bytes)) = some (some z, size, bytes)) (und : P.underlying T = some (.slice e)) (hzs : z.cells.size = size) (hsz : 0 < size)
  {ops : Array Oper} {rest : List Oper} {o : Oper} {a : Act} {Q : Exit → Act → World → Prop} (w : World) (hg : o.guard = none) (s x : Operand)
  (hop : o.op = Op.call { callee := Callee.builtin Builtin.append, args := #[s, x], argTypes := #[T, T] })
  (B : Nat) (hB : B ≤ w.heap.size) (v : Value) (n : Nat) (xs : List Value) (hown : w.ownsRow B e size v n xs) (hs : a.eval s = v) (m : Nat) (cs : Array Value) (hx : a.eval x = .slice (some ⟨w.heap.size, 0, none⟩) m m)
  (hcs : cs.size = m * size) (h1c : ∀ u ∈ cs.toList, u.oneCell' = true) (hb1 : n + m ≤ maxLen) (hb : (n + m) * bytes ≤ 140737488355328)
  (hK : ∀ v' w', w'.ownsRow B e size v' (n + m) (xs ++ cs.toList) → (w.alloc (.cells cs e)).grownBy w' v.ownBlock → wpList P ops Q rest (a.put o.dst v') w') : wpList P ops Q (o :: rest) a (w.alloc (.cells cs e)) := by
 obtain ⟨i0, hi, hz0, hz1, hz2⟩ := info_parts info
 refine wpList_append_own _ hg s x T hop B e i0 z size bytes und hi hz0 hz1 hz2 hzs hsz v n xs hs (hown.alloc _) ⟨w.heap.size, 0, none⟩ m m cs.toList hx (by simpa using hcs) ?_ h1c hb1 hb (by simp; omega) ?_
 ·intro j u hj
  rw [Addr.add_lit, Nat.zero_add, cell_of_row _ w.heap.size j cs e (0, 0) (heap_alloc_new w _)]
  simpa using hj
 ·intro v' w' h2 h3 _
  exact hK v' w' h2 h3

theorem BoxAt.madeN {w : World} {n : Nat} (cs : Array Value) (e : TypeId) (h : w.heap.size = n) : BoxAt (w.alloc (.cells cs e)) n cs e := by subst h; exact BoxAt.made w cs e
theorem boxes2 (w : World) (A B : Array Value) (a b : TypeId) :
  BoxAt ((w.alloc (.cells A a)).alloc (.cells B b)) w.heap.size A a ∧ BoxAt ((w.alloc (.cells A a)).alloc (.cells B b)) (w.heap.size + 1) B b ∧ Ext w ((w.alloc (.cells A a)).alloc (.cells B b)) :=
 ⟨(BoxAt.made w A a).ext ((Ext.refl _).alloc _), BoxAt.madeN B b (Deep.nblk_alloc _ _), ((Ext.refl w).alloc _).alloc _⟩
theorem boxes3 (w : World) (A B C : Array Value) (a b c : TypeId) :
  BoxAt (((w.alloc (.cells A a)).alloc (.cells B b)).alloc (.cells C c)) w.heap.size A a ∧ BoxAt (((w.alloc (.cells A a)).alloc (.cells B b)).alloc (.cells C c)) (w.heap.size + 1) B b ∧ BoxAt (((w.alloc (.cells A a)).alloc (.cells B b)).alloc (.cells C c)) (w.heap.size + 1 + 1) C c ∧ Ext w (((w.alloc (.cells A a)).alloc (.cells B b)).alloc (.cells C c)) := by
 obtain ⟨h1, h2, h3⟩ := boxes2 w A B a b
 exact ⟨h1.ext ((Ext.refl _).alloc _), h2.ext ((Ext.refl _).alloc _), BoxAt.madeN C c (by rw [Deep.nblk_alloc, Deep.nblk_alloc]), h3.alloc _⟩
theorem boxes4 (w : World) (A B C D : Array Value) (a b c d : TypeId) :
  BoxAt ((((w.alloc (.cells A a)).alloc (.cells B b)).alloc (.cells C c)).alloc (.cells D d)) w.heap.size A a ∧ BoxAt ((((w.alloc (.cells A a)).alloc (.cells B b)).alloc (.cells C c)).alloc (.cells D d)) (w.heap.size + 1) B b ∧ BoxAt ((((w.alloc (.cells A a)).alloc (.cells B b)).alloc (.cells C c)).alloc (.cells D d)) (w.heap.size + 1 + 1) C c ∧ BoxAt ((((w.alloc (.cells A a)).alloc (.cells B b)).alloc (.cells C c)).alloc (.cells D d)) (w.heap.size + 1 + 1 + 1) D d ∧ Ext w ((((w.alloc (.cells A a)).alloc (.cells B b)).alloc (.cells C c)).alloc (.cells D d)) := by
 obtain ⟨h1, h2, h3, h4⟩ := boxes3 w A B C a b c
 exact ⟨h1.ext ((Ext.refl _).alloc _), h2.ext ((Ext.refl _).alloc _), h3.ext ((Ext.refl _).alloc _), BoxAt.madeN D d (by rw [Deep.nblk_alloc, Deep.nblk_alloc, Deep.nblk_alloc]), h4.alloc _⟩
theorem boxes5 (w : World) (A B C D F : Array Value) (a b c d f : TypeId) :
  BoxAt (((((w.alloc (.cells A a)).alloc (.cells B b)).alloc (.cells C c)).alloc (.cells D d)).alloc (.cells F f)) w.heap.size A a ∧ BoxAt (((((w.alloc (.cells A a)).alloc (.cells B b)).alloc (.cells C c)).alloc (.cells D d)).alloc (.cells F f)) (w.heap.size + 1) B b ∧ BoxAt (((((w.alloc (.cells A a)).alloc (.cells B b)).alloc (.cells C c)).alloc (.cells D d)).alloc (.cells F f)) (w.heap.size + 1 + 1) C c ∧ BoxAt (((((w.alloc (.cells A a)).alloc (.cells B b)).alloc (.cells C c)).alloc (.cells D d)).alloc (.cells F f)) (w.heap.size + 1 + 1 + 1) D d ∧ BoxAt (((((w.alloc (.cells A a)).alloc (.cells B b)).alloc (.cells C c)).alloc (.cells D d)).alloc (.cells F f)) (w.heap.size + 1 + 1 + 1 + 1) F f ∧ Ext w (((((w.alloc (.cells A a)).alloc (.cells B b)).alloc (.cells C c)).alloc (.cells D d)).alloc (.cells F f)) := by
 obtain ⟨h1, h2, h3, h4, h5⟩ := boxes4 w A B C D a b c d
 exact ⟨h1.ext ((Ext.refl _).alloc _), h2.ext ((Ext.refl _).alloc _), h3.ext ((Ext.refl _).alloc _), h4.ext ((Ext.refl _).alloc _), BoxAt.madeN F f (by rw [Deep.nblk_alloc, Deep.nblk_alloc, Deep.nblk_alloc, Deep.nblk_alloc]), h5.alloc _⟩
theorem BoxAt.allocs {w : World} {p : Nat} {cs : Array Value} {e : TypeId} (h : BoxAt w p cs e) : ∀ o i, (w.alloc o).cell? ⟨p, i, none⟩ = cs[i]? := fun o i => (h.ext ((Ext.refl w).alloc o)).cell i
theorem BoxAt.frees {w : World} {p : Nat} {cs : Array Value} {e : TypeId} (h : BoxAt w p cs e) : ∀ o i, (w.alloc o).frozen? ⟨p, i, none⟩ = false := fun o i => (h.ext ((Ext.refl w).alloc o)).free i
theorem cell_grown {w w' : World} {g b i : Nat} {u : Value} (hg : w.grownBy w' (some g)) (hne : b ≠ g) (h : w.cell? ⟨b, i, none⟩ = some u) : w'.cell? ⟨b, i, none⟩ = some u := by
 have hl := World.block_lt_of_cell? w _ h
 have hb := hg.block b hl (fun e => hne (Option.some.inj e))
 simp only [World.cell?] at h ⊢
 rw [hb]
 exact h
theorem SliceIn.grown {w w' : World} {g b o n c : Nat} {xs : List Value} (hg : w.grownBy w' (some g)) (hne : b ≠ g) (h : SliceIn w (.slice (some ⟨b, o, none⟩) n c) n xs) : SliceIn w' (.slice (some ⟨b, o, none⟩) n c) n xs := by
 obtain ⟨a, c', e, h2, h3, h4, h6⟩ := h
 cases e
 exact ⟨_, _, rfl, h2, h3, h4, fun j u hj => let ⟨b', o', e, hc⟩ := h6 j u hj; ⟨b', o', e, by cases e; exact cell_grown hg hne hc⟩⟩

/-- A store of a whole variable: what is known of the world behind it. -/
theorem storeBox {P : Program} {ops : Array Oper} {rest : List Oper} {o : Oper} {a : Act} {w : World} {Q : Exit → Act → World → Prop} (hgd : o.guard = none) (ty : TypeId) (x y : Operand) (ho : o.op = .store ty x y)
  (g : Nat) (cells old : Array Value) (t : TypeId) (hx : a.eval x = .pointer (some ⟨g, 0, none⟩)) (hy : a.eval y = .agg cells)
  (hg : BoxAt w g old t) (hi : (P.info? ty).map (·.size) = some cells.size) (hold : old.size = cells.size) (h1 : cells.all (·.oneCell') = true)
  (hK : ∀ w', BoxAt w' g cells t → w.grownBy w' (some g) → wpList P ops Q rest (a.put o.dst undef) w') : wpList P ops Q (o :: rest) a w :=
 wpList_store_row hgd ty x y ho g cells hx hy t old hg hi hold h1 (hK _ (setRow_heap w g old cells t (0, 0) hg) ⟨rfl, rfl, rfl, by simp [World.setRow], fun k _ hne => setRow_other w g k cells (fun e => hne (by rw [e]))⟩)

/-- How many elements a slice has. -/
def lenOf : Value → Nat
 | .slice _ n _ => n
 | _ => 0
end Go.Proofs.YtolkhjdododdaaaGreatDoor
