/- A region whose operations may come up in any order, walked once in the order of the text: each operation yields a value of which a fact is said that stays true while memory grows; what an operation needs is what the operations that it waits for have yielded. -/
import Derived.Deep.QuietTactic
import Derived.BigQuiet
import Derived.WalkKit
import Derived.WalkSpells
import Derived.WalkLawsBesides
import Derived.Lib.Hide
import Derived.Lib.QuietBelow
import Derived.Deep.Heap
set_option linter.unusedSimpArgs false
set_option linter.unusedVariables false
namespace Go.Proofs.YtimbikbbbfpeeaaGreatDoor
open Go

abbrev Facts := Nat → World → Prop
def Facts.upd (G : Facts) (i : Nat) (φ : World → Prop) : Facts := fun k w => G k w ∧ (k = i → φ w)
def Facts.top : Facts := fun _ _ => True

section
variable (P : Program) (ops : Array Oper) (C : World → Prop) (E : World → World → Prop) (T : Nat → Option (Value → World → Prop)) (n : Nat) (Q : Exit → Act → World → Prop)

def yUpon (R : Value → World → Prop) : Result Next → Prop
  | .ok (.value v) w' => R v w'
  | .ok .skip w' => R undef w'
  | .ok (.enter f args) w' => Calls P f args w' fun e w'' => ∃ v, e = .returned v ∧ R v w''
  | _ => False
def yields (o : Oper) (a : Act) (w : World) (R : Value → World → Prop) : Prop := yUpon P R ((execOp a.eval o).run P w)

/-- The operation n comes ahead of j: j waits for it, straight or through others (so many steps at most). -/
def ancB : Nat → Nat → Nat → Bool
  | 0, _, _ => false
  | f + 1, j, n => match ops[j]? with
    | some o => o.after.any fun e => Region.binds .any e && (e.on == n || ancB f e.on n)
    | none => false

def Live (G : Facts) : Prop := ∃ w, C w ∧ ∀ j, G j w

/-- What is owed of operation i; V: the values that it may yield, φ: what is known of them. -/
def Owes (i : Nat) (o : Oper) (a : Act) (G : Facts) (V : Value → Prop) (φ : Value → World → Prop) : Prop :=
  (Region.wanted o (yielded ops a.tmps) = false ∧ V = (· = undef) ∧ φ = fun _ _ => True) ∨
  (Region.wanted o (yielded ops a.tmps) = true ∧ ∃ need : List Nat, need.all (ancB ops 4 i) = true ∧
    ((T i = none ∧ ∃ u, (∀ w, C w → (∀ j ∈ need, G j w) → o.quietAt P a (fun _ => False) w u) ∧ V = (· = u) ∧ φ = fun _ _ => True) ∨
     (∃ Φ, T i = some Φ ∧ (∀ w, C w → (∀ j ∈ need, G j w) → yields P o a w fun u w' => C w' ∧ E w w' ∧ Φ u w') ∧ V = (fun _ => True) ∧ φ = Φ)))

def rStep (i : Nat) (o : Oper) (K : Act → Facts → Prop) (a : Act) (G : Facts) : Prop :=
  ∃ V φ, Owes P ops C E T i o a G V φ ∧ ∀ v, V v → Live C (G.upd i (φ v)) → K (a.put o.dst v) (G.upd i (φ v))

def rOp (i : Nat) (K : Act → Facts → Prop) (a : Act) (G : Facts) : Prop :=
  match ops[i]? with
  | none => K a G
  | some o => rStep P ops C E T i o K a G

def fin (a : Act) (G : Facts) : Prop := ∀ w, C w → (∀ j, G j w) → Q .normal a w

/-- What is owed of the last operations, which may write: any law. -/
def tailAny (fuel : Nat) (listed : Array Bool) (i : Nat) (a : Act) (G : Facts) : Prop := ∀ w, C w → (∀ j, G j w) → wpOp P ops Q i (wpAny P .any ops Q fuel (listed.setIfInBounds i true)) a w
def tailL (l : List Oper) (a : Act) (G : Facts) : Prop := ∀ w, C w → (∀ j, G j w) → wpList P ops Q l a w

def wpAnyR : Nat → Array Bool → Act → Facts → Prop
  | 0, listed, a, G => Region.ready .any ops listed = [] ∧ fin C Q a G
  | fuel + 1, listed, a, G =>
    (Region.ready .any ops listed = [] → fin C Q a G) ∧
    ∀ i ∈ Region.ready .any ops listed, if i = n then tailAny P ops C Q fuel listed i a G else rOp P ops C E T i (wpAnyR fuel (listed.setIfInBounds i true)) a G

/-- From n on each operation waits for all ahead of it. -/
def tailB : Bool := n ≥ ops.size || (List.range ops.size).all fun k => k < n || (List.range k).all fun i => ancB ops ops.size k i

/-- The walk in the order of the text. -/
def wpRel : List Oper → Nat → Act → Facts → Prop
  | [], _, a, G => fin C Q a G
  | o :: rest, k, a, G => if k = n then tailL P ops C Q (o :: rest) a G else rStep P ops C E T k o (wpRel rest (k + 1)) a G
end

section
variable {P : Program} {ops : Array Oper} {C : World → Prop} {E : World → World → Prop} {T : Nat → Option (Value → World → Prop)} {n : Nat} {Q : Exit → Act → World → Prop}

theorem yields_wp {o : Oper} {a : Act} {w : World} {R : Value → World → Prop} {K : Act → World → Prop} {Q' : Exit → Act → World → Prop} (h : yields P o a w R) (hK : ∀ v w', R v w' → K (a.put o.dst v) w') : o.wp P a w K Q' := by
  unfold yields at h
  unfold Oper.wp
  generalize (execOp a.eval o).run P w = r at *
  cases r with
  | ok n w' =>
    cases n <;> simp only [yUpon] at h <;> simp only [Oper.upon]
    case value => exact hK _ _ h
    case skip => exact hK _ _ h
    case enter => exact h.mono fun e w'' ⟨v, he, hv⟩ => by subst he; exact hK _ _ hv
  | halt x w' => simp only [yUpon] at h

theorem yields_some {o : Oper} {a : Act} {w : World} {R : Value → World → Prop} (h : yields P o a w R) : ∃ v w', R v w' := by
  unfold yields at h
  generalize (execOp a.eval o).run P w = r at *
  cases r with
  | ok n w' =>
    cases n <;> simp only [yUpon] at h
    case value => exact ⟨_, _, h⟩
    case skip => exact ⟨_, _, h⟩
    case enter => obtain ⟨e, w'', _, ⟨v, _, hr⟩, _⟩ := h []; exact ⟨_, _, hr⟩
  | halt x w' => simp only [yUpon] at h

theorem calls_false {f : FuncId} {args : Array Value} {w : World} {R : Ending → World → Prop} (h : Calls P f args w R) (hR : ∀ e w', R e w' → False) : False :=
  let ⟨_, _, _, hr, _⟩ := h []
  hR _ _ hr

theorem quietAt_unique {o : Oper} {a : Act} {w : World} {u v : Value} (h1 : o.quietAt P a (fun _ => False) w u) (h2 : o.quietAt P a (fun _ => False) w v) : u = v := by
  unfold Oper.quietAt at *
  generalize (execOp a.eval o).run P w = r at *
  cases r with
  | ok n w' =>
    cases n <;> simp only [Oper.quietUpon] at h1 h2
    case value => exact h1.2.symm.trans h2.2
    case skip => exact h1.2.trans h2.2.symm
    case enter f args => exact (calls_false h1.2 fun _ _ h => h.2).elim
  | halt x w' => simp only [Oper.quietUpon] at h1

theorem quietAt_wp {o : Oper} {a : Act} {w : World} {v : Value} {K : Act → World → Prop} {Q' : Exit → Act → World → Prop} (h : o.quietAt P a (fun _ => False) w v) (hK : K (a.put o.dst v) w) : o.wp P a w K Q' := by
  unfold Oper.quietAt at h
  unfold Oper.wp
  generalize (execOp a.eval o).run P w = r at *
  cases r with
  | ok n w' =>
    cases n <;> simp only [Oper.quietUpon] at h <;> simp only [Oper.upon]
    case value => obtain ⟨rfl, rfl⟩ := h; exact hK
    case skip => obtain ⟨rfl, rfl⟩ := h; exact hK
    case enter => exact (calls_false h.2 fun _ _ h => h.2).elim
  | halt x w' => simp only [Oper.quietUpon] at h

theorem wpOp_of_rOp (hT : ∀ i Φ, T i = some Φ → ∀ v w w', E w w' → Φ v w → Φ v w') {i : Nat} {K : Act → Facts → Prop} {K' : Act → World → Prop} {Q' : Exit → Act → World → Prop} {a : Act} {G : Facts} {w : World}
    (hG : ∀ j w w', E w w' → G j w → G j w') (hC : C w) (hw : ∀ j, G j w)
    (h : ∀ a' G' w', (∀ j w w', E w w' → G' j w → G' j w') → C w' → (∀ j, G' j w') → K a' G' → K' a' w') (hr : rOp P ops C E T i K a G) : wpOp P ops Q' i K' a w := by
  unfold rOp at hr
  unfold wpOp
  have stay : ∀ (φ : World → Prop), (∀ w w', E w w' → φ w → φ w') → ∀ j w w', E w w' → (G.upd i φ) j w → (G.upd i φ) j w' :=
    fun φ hφ j w w' hE hh => ⟨hG j _ _ hE hh.1, fun hji => hφ _ _ hE (hh.2 hji)⟩
  split
  · rename_i ho; simp only [ho] at hr; exact h _ _ _ hG hC hw hr
  · rename_i o ho
    simp only [ho] at hr
    obtain ⟨V, φ, hO, hn⟩ := hr
    rcases hO with ⟨hwt, rfl, rfl⟩ | ⟨hwt, need, _, hO⟩
    · rw [if_neg (by rw [hwt]; simp)]
      have hf : ∀ j, (G.upd i (fun _ => True)) j w := fun j => ⟨hw j, fun _ => trivial⟩
      exact h _ _ _ (stay _ (fun _ _ _ h => h)) hC hf (hn undef rfl ⟨w, hC, hf⟩)
    · rw [if_pos hwt]
      left
      rcases hO with ⟨_, u, hy, rfl, rfl⟩ | ⟨Φ, hTi, hy, rfl, rfl⟩
      · have hf : ∀ j, (G.upd i (fun _ => True)) j w := fun j => ⟨hw j, fun _ => trivial⟩
        exact quietAt_wp (hy w hC fun j _ => hw j) (h _ _ _ (stay _ (fun _ _ _ h => h)) hC hf (hn u rfl ⟨w, hC, hf⟩))
      · refine yields_wp (hy w hC fun j _ => hw j) fun u w' ⟨hC', hE, hΦ⟩ => ?_
        have hf : ∀ j, (G.upd i (φ u)) j w' := fun j => ⟨hG j _ _ hE (hw j), fun _ => hΦ⟩
        exact h _ _ _ (stay _ (fun w1 w2 h1 h2 => hT i φ hTi u w1 w2 h1 h2)) hC' hf (hn u trivial ⟨w', hC', hf⟩)

/-! ### Taking an operation first -/

def Down (ops : Array Oper) (listed : Array Bool) : Prop := ∀ k o, ops[k]? = some o → listed.getD k false = true → ∀ e ∈ o.after, Region.binds .any e = true → listed.getD e.on false = true

theorem anc_listed {listed : Array Bool} (hd : Down ops listed) : ∀ (f j n : Nat) (o : Oper), ops[j]? = some o → (∀ e ∈ o.after, Region.binds .any e = true → listed.getD e.on false = true) → ancB ops f j n = true → listed.getD n false = true := by
  intro f
  induction f with
  | zero => intro j n o _ _ h; simp [ancB] at h
  | succ f ih =>
    intro j n o ho hall h
    simp only [ancB, ho, Array.any_eq_true', Bool.and_eq_true, Bool.or_eq_true, beq_iff_eq] at h
    obtain ⟨e, he, hb, h⟩ := h
    rcases h with h | h
    · exact h ▸ hall e he hb
    · cases ho' : ops[e.on]? with
      | none => cases f <;> simp [ancB, ho'] at h
      | some o' => exact ih e.on n o' ho' (fun e' he' hb' => hd e.on o' ho' (hall e he hb) e' he' hb') h

theorem Down.set {listed : Array Bool} (hd : Down ops listed) {i : Nat} (hi : i ∈ Region.ready .any ops listed) : Down ops (listed.setIfInBounds i true) := by
  intro k o ho hk e he hb
  by_cases hki : k = i
  · subst hki
    obtain ⟨_, o', ho', hall⟩ := mem_ready.1 hi
    rw [ho] at ho'
    cases ho'
    exact getD_set_true (hall e he hb)
  · rw [getD_set_ne false (Ne.symm hki)] at hk
    exact getD_set_true (hd k o ho hk e he hb)

theorem tail_all {listed : Array Bool} (hd : Down ops listed) (hn : tailB ops n = true) {k : Nat} (hk : n ≤ k) (hi : k ∈ Region.ready .any ops listed) : ∀ j, j < k → listed.getD j false = true := by
  obtain ⟨_, o, ho, hall⟩ := mem_ready.1 hi
  have hlt : k < ops.size := (Array.getElem?_eq_some_iff.1 ho).1
  simp only [tailB, Bool.or_eq_true, decide_eq_true_eq, List.all_eq_true, List.mem_range] at hn
  rcases hn with hn | hA
  · omega
  · rcases hA k hlt with h | h
    · omega
    · exact fun j hj => anc_listed hd _ k j o ho hall (h j hj)

theorem listed_not_ready {listed : Array Bool} {j : Nat} (h : listed.getD j false = true) : j ∉ Region.ready .any ops listed := by
  intro hj
  have h0 := (mem_ready.1 hj).1
  rcases Nat.lt_or_ge j listed.size with h' | h'
  · simp [h'] at h0 h; rw [h0] at h; cases h
  · simp [Array.getElem?_eq_none h'] at h

/-- If the last may come up, no other may. -/
theorem tail_one {listed : Array Bool} (hd : Down ops listed) (hn : tailB ops n = true) {k : Nat} (hk : n ≤ k) (hi : k ∈ Region.ready .any ops listed) {j : Nat} (hj : j ∈ Region.ready .any ops listed) : j = k := by
  rcases Nat.lt_trichotomy j k with h | h | h
  · exact absurd hj (listed_not_ready (tail_all hd hn hk hi j h))
  · exact h
  · exact absurd hi (listed_not_ready (tail_all hd hn (by omega) hj k h))
theorem tail_alone {listed : Array Bool} (hd : Down ops listed) (hn : tailB ops n = true) (hi : n ∈ Region.ready .any ops listed) {j : Nat} (hj : j ∈ Region.ready .any ops listed) : j = n := tail_one hd hn (Nat.le_refl _) hi hj
/-- The last operations, each of which waits for all ahead of it, come up in the order of the text. -/
theorem tail_chain (hn : tailB ops n = true) : ∀ (l : List Oper) (k : Nat) (listed : Array Bool) (a : Act) (w : World), n ≤ k → Down ops listed → (∀ j, l[j]? = ops[k + j]?) → Region.lexFrom .any ops l.length k listed = true → wpList P ops Q l a w → wpAny P .any ops Q l.length listed a w
  | [], _, _, _, _, _, _, _, hB, h => ⟨by simpa [Region.lexFrom] using hB, h⟩
  | o :: l, k, listed, a, w, hk, hd, hl, hB, h => by
    have h0 : ops[k]? = some o := by simpa using (hl 0).symm
    simp only [List.length_cons, Region.lexFrom, Bool.and_eq_true] at hB
    obtain ⟨⟨hr, hf⟩, hB'⟩ := hB
    have hr' : k ∈ Region.ready .any ops listed := by simpa using hr
    refine ⟨fun h => (by rw [h] at hr'; cases hr'), fun i hi => ?_⟩
    obtain rfl := tail_one hd hn hk hr' hi
    unfold wpOp
    simp only [h0]
    unfold wpList at h
    have step : ∀ a w, wpList P ops Q l a w → wpAny P .any ops Q l.length (listed.setIfInBounds i true) a w := fun a w h =>
      tail_chain hn l (i + 1) _ a w (by omega) (hd.set hr') (fun j => by have := hl (j + 1); simpa [Nat.add_assoc, Nat.add_comm 1 j] using this) hB' h
    split at h
    · rename_i hw
      rw [if_pos hw]
      exact h.imp_left (Oper.wp_mono step)
    · rename_i hw
      rw [if_neg hw]
      exact step _ _ h

theorem wpAny_of_R (hT : ∀ i Φ, T i = some Φ → ∀ v w w', E w w' → Φ v w → Φ v w') (hn : tailB ops n = true) :
    ∀ (fuel : Nat) (listed : Array Bool) (a : Act) (G : Facts) (w : World), Down ops listed → listed.size = ops.size → (∀ j w w', E w w' → G j w → G j w') → C w → (∀ j, G j w) → wpAnyR P ops C E T n Q fuel listed a G → wpAny P .any ops Q fuel listed a w
  | 0, _, _, _, w, _, _, _, hC, hw, h => ⟨h.1, h.2 w hC hw⟩
  | fuel + 1, listed, a, _, w, hd, hsz, hG, hC, hw, h => by
    refine ⟨fun h0 => h.1 h0 w hC hw, fun i hi => ?_⟩
    have h2 := h.2 i hi
    by_cases hin : i = n
    · rw [if_pos hin] at h2
      exact h2 w hC hw
    · rw [if_neg hin] at h2
      exact wpOp_of_rOp hT hG hC hw (fun a' G' w' hG' hC' hw' hk => wpAny_of_R hT hn fuel _ a' G' w' (hd.set hi) (by simpa using hsz) hG' hC' hw' hk) h2

theorem rOp_mono {i : Nat} {a : Act} {G : Facts} {K K' : Act → Facts → Prop} (hL : Live C G) (h : ∀ a' G', Live C G' → K a' G' → K' a' G') (hr : rOp P ops C E T i K a G) : rOp P ops C E T i K' a G := by
  unfold rOp at *
  split
  · rename_i ho; simp only [ho] at hr; exact h _ _ hL hr
  · rename_i o ho
    simp only [ho] at hr
    obtain ⟨V, φ, hO, hn⟩ := hr
    exact ⟨V, φ, hO, fun v hv hl => h _ _ hl (hn v hv hl)⟩

theorem yields_put {o : Oper} (hs : ∀ cs b, o.op ≠ .select cs b) (a : Act) (dst : Option Tmp) (v : Value) (h : ∀ d, dst = some d → d ∉ o.looksAt ops) {w : World} {R : Value → World → Prop} :
    yields P o (a.put dst v) w R ↔ yields P o a w R := by
  unfold yields
  rw [execOp_put (ops := ops) o hs a dst v h]

theorem quietAt_put {o : Oper} (hs : ∀ cs b, o.op ≠ .select cs b) (a : Act) (dst : Option Tmp) (v : Value) (h : ∀ d, dst = some d → d ∉ o.looksAt ops) {w : World} {D : World → Prop} {u : Value} :
    o.quietAt P (a.put dst v) D w u ↔ o.quietAt P a D w u := by
  unfold Oper.quietAt
  rw [execOp_put (ops := ops) o hs a dst v h]

theorem upd_comm (G : Facts) (i j : Nat) (φ ψ : World → Prop) : (G.upd i φ).upd j ψ = (G.upd j ψ).upd i φ := by
  funext k w
  simp only [Facts.upd]
  exact propext ⟨fun ⟨⟨a, b⟩, c⟩ => ⟨⟨a, c⟩, b⟩, fun ⟨⟨a, b⟩, c⟩ => ⟨⟨a, c⟩, b⟩⟩

theorem Owes.fwd {i j : Nat} {o : Oper} (hs : ∀ cs b, o.op ≠ .select cs b) {a : Act} {G : Facts} {V : Value → Prop} {φ : Value → World → Prop} {dst : Option Tmp} (hd : ∀ d, dst = some d → d ∉ o.looksAt ops)
    (h : Owes P ops C E T i o a G V φ) (u : Value) (ψ : World → Prop) : Owes P ops C E T i o (a.put dst u) (G.upd j ψ) V φ := by
  have hw := wanted_put (ops := ops) o a dst u hd
  rcases h with ⟨h1, h2, h3⟩ | ⟨h1, need, hn, h⟩
  · exact .inl ⟨hw.trans h1, h2, h3⟩
  · refine .inr ⟨hw.trans h1, need, hn, ?_⟩
    rcases h with ⟨hT, x, hy, h2, h3⟩ | ⟨Φ, hT, hy, h2, h3⟩
    · exact .inl ⟨hT, x, fun w hC hf => (quietAt_put (ops := ops) hs a dst u hd).2 (hy w hC fun k hk => (hf k hk).1), h2, h3⟩
    · exact .inr ⟨Φ, hT, fun w hC hf => (yields_put (ops := ops) hs a dst u hd).2 (hy w hC fun k hk => (hf k hk).1), h2, h3⟩

theorem Owes.bwd {i j : Nat} {o : Oper} (hs : ∀ cs b, o.op ≠ .select cs b) {a : Act} {G : Facts} {V : Value → Prop} {φ : Value → World → Prop} {dst : Option Tmp} (hd : ∀ d, dst = some d → d ∉ o.looksAt ops)
    (hnot : ∀ need : List Nat, need.all (ancB ops 4 j) = true → i ∉ need) {u : Value} {ψ : World → Prop} (h : Owes P ops C E T j o (a.put dst u) (G.upd i ψ) V φ) : Owes P ops C E T j o a G V φ := by
  have hw := wanted_put (ops := ops) o a dst u hd
  have up : ∀ {need : List Nat} {w : World}, need.all (ancB ops 4 j) = true → (∀ k ∈ need, G k w) → ∀ k ∈ need, (G.upd i ψ) k w :=
    fun hn hf k hk => ⟨hf k hk, fun hki => absurd (hki ▸ hk) (hnot _ hn)⟩
  rcases h with ⟨h1, h2, h3⟩ | ⟨h1, need, hn, h⟩
  · exact .inl ⟨hw.symm.trans h1, h2, h3⟩
  · refine .inr ⟨hw.symm.trans h1, need, hn, ?_⟩
    rcases h with ⟨hT, x, hy, h2, h3⟩ | ⟨Φ, hT, hy, h2, h3⟩
    · exact .inl ⟨hT, x, fun w hC hf => (quietAt_put (ops := ops) hs a dst u hd).1 (hy w hC (up hn hf)), h2, h3⟩
    · exact .inr ⟨Φ, hT, fun w hC hf => (yields_put (ops := ops) hs a dst u hd).1 (hy w hC (up hn hf)), h2, h3⟩

theorem Owes.live {i : Nat} {o : Oper} {a : Act} {G : Facts} {V : Value → Prop} {φ : Value → World → Prop} (hG : ∀ j w w', E w w' → G j w → G j w') (hL : Live C G) (h : Owes P ops C E T i o a G V φ) : ∃ v, V v ∧ Live C (G.upd i (φ v)) := by
  obtain ⟨w, hC, hf⟩ := hL
  rcases h with ⟨_, rfl, rfl⟩ | ⟨_, need, _, h⟩
  · exact ⟨undef, rfl, w, hC, fun j => ⟨hf j, fun _ => trivial⟩⟩
  · rcases h with ⟨_, x, _, rfl, rfl⟩ | ⟨Φ, _, hy, rfl, rfl⟩
    · exact ⟨x, rfl, w, hC, fun j => ⟨hf j, fun _ => trivial⟩⟩
    · obtain ⟨v, w', hC', hE, hΦ⟩ := yields_some (hy w hC fun k _ => hf k)
      exact ⟨v, trivial, w', hC', fun j => ⟨hG j _ _ hE (hf j), fun _ => hΦ⟩⟩

theorem Owes.unique {i : Nat} {o : Oper} {a : Act} {G : Facts} {V V' : Value → Prop} {φ φ' : Value → World → Prop} (hL : Live C G) (h : Owes P ops C E T i o a G V φ) (h' : Owes P ops C E T i o a G V' φ') : V = V' ∧ φ = φ' := by
  obtain ⟨w, hC, hf⟩ := hL
  rcases h with ⟨hw, rfl, rfl⟩ | ⟨hw, need, _, h⟩ <;> rcases h' with ⟨hw', rfl, rfl⟩ | ⟨hw', need', _, h'⟩
  · exact ⟨rfl, rfl⟩
  · rw [hw] at hw'; cases hw'
  · rw [hw] at hw'; cases hw'
  · rcases h with ⟨hT, x, hy, rfl, rfl⟩ | ⟨Φ, hT, hy, rfl, rfl⟩ <;> rcases h' with ⟨hT', x', hy', rfl, rfl⟩ | ⟨Φ', hT', hy', rfl, rfl⟩
    · have := quietAt_unique (hy w hC fun k _ => hf k) (hy' w hC fun k _ => hf k)
      subst this
      exact ⟨rfl, rfl⟩
    · rw [hT] at hT'; cases hT'
    · rw [hT] at hT'; cases hT'
    · rw [hT] at hT'; cases hT'; exact ⟨rfl, rfl⟩

/-- Two operations that may both come up now and are apart change places. -/
theorem rOp_swap {i j : Nat} {oi oj : Oper} {listed : Array Bool} (hd : Down ops listed) (hri : i ∈ Region.ready .any ops listed) (hrj : j ∈ Region.ready .any ops listed)
    (hi : ops[i]? = some oi) (hj : ops[j]? = some oj) (hap : oi.apart ops oj = true)
    (hsi : ∀ cs b, oi.op ≠ .select cs b) (hsj : ∀ cs b, oj.op ≠ .select cs b) {K : Act → Facts → Prop} {a : Act} {G : Facts} (hG : ∀ j w w', E w w' → G j w → G j w') (hL : Live C G)
    (h : rOp P ops C E T i (fun a' G' => rOp P ops C E T j K a' G') a G) : rOp P ops C E T j (fun a' G' => rOp P ops C E T i K a' G') a G := by
  obtain ⟨h1, h2, h3⟩ := Oper.apart_spec hap
  obtain ⟨hiun, oi', hoi', _⟩ := mem_ready.1 hri
  obtain ⟨_, oj', hoj', hallj⟩ := mem_ready.1 hrj
  rw [hi] at hoi'; cases hoi'
  rw [hj] at hoj'; cases hoj'
  have notIn : ∀ need : List Nat, need.all (ancB ops 4 j) = true → i ∉ need := by
    intro need hn hmem
    have := anc_listed hd 4 j i oj hj hallj (List.all_eq_true.1 hn i hmem)
    rcases Nat.lt_or_ge i listed.size with h' | h'
    · simp [h'] at hiun this; rw [hiun] at this; cases this
    · simp [Array.getElem?_eq_none h'] at this
  unfold rOp at h ⊢
  simp only [hi, hj] at h ⊢
  obtain ⟨Vi, φi, hOi, hi'⟩ := h
  obtain ⟨v0, hv0, hl0⟩ := hOi.live hG hL
  obtain ⟨Vj, φj, hOj, _⟩ := hi' v0 hv0 hl0
  have hOj := Owes.bwd hsj h1 notIn hOj
  refine ⟨Vj, φj, hOj, fun u hu _ => ⟨Vi, φi, Owes.fwd hsi h3 hOi u _, fun v hv hlv => ?_⟩⟩
  rw [upd_comm] at hlv ⊢
  have hlv' : Live C (G.upd i (φi v)) := let ⟨w, hC, hf⟩ := hlv; ⟨w, hC, fun k => (hf k).1⟩
  obtain ⟨Vj', φj', hOj', hk⟩ := hi' v hv hlv'
  obtain ⟨rfl, rfl⟩ := hOj.unique hL (Owes.bwd hsj h1 notIn hOj')
  rw [← Act.put_comm a v u h2]
  exact hk u hu hlv

theorem rOp_stay {i : Nat} {a : Act} {G : Facts} {K : Act → Facts → Prop} (hT : ∀ i Φ, T i = some Φ → ∀ v w w', E w w' → Φ v w → Φ v w') (hG : ∀ j w w', E w w' → G j w → G j w')
    (hr : rOp P ops C E T i K a G) : rOp P ops C E T i (fun a' G' => (∀ j w w', E w w' → G' j w → G' j w') ∧ K a' G') a G := by
  unfold rOp at *
  split
  · rename_i ho; simp only [ho] at hr; exact ⟨hG, hr⟩
  · rename_i o ho
    simp only [ho] at hr
    obtain ⟨V, φ, hO, hn⟩ := hr
    refine ⟨V, φ, hO, fun v hv hl => ⟨?_, hn v hv hl⟩⟩
    have stay : ∀ (ψ : World → Prop), (∀ w w', E w w' → ψ w → ψ w') → ∀ j w w', E w w' → (G.upd i ψ) j w → (G.upd i ψ) j w' :=
      fun ψ hψ j w w' hE hh => ⟨hG j _ _ hE hh.1, fun hji => hψ _ _ hE (hh.2 hji)⟩
    rcases hO with ⟨_, rfl, rfl⟩ | ⟨_, need, _, hO⟩
    · exact stay _ (fun _ _ _ h => h)
    · rcases hO with ⟨_, x, _, rfl, rfl⟩ | ⟨Φ, hTi, _, rfl, rfl⟩
      · exact stay _ (fun _ _ _ h => h)
      · exact stay _ (fun w w' h1 h2 => hT i _ hTi v w w' h1 h2)

theorem wpAnyR_first (hT : ∀ i Φ, T i = some Φ → ∀ v w w', E w w' → Φ v w → Φ v w') (hn : tailB ops n = true) {i : Nat} {oi : Oper} (hi : ops[i]? = some oi) (hsel : ∀ (j : Nat) (o : Oper) cs b, ops[j]? = some o → o.op ≠ .select cs b) :
    ∀ (fuel : Nat) (listed : Array Bool) (a : Act) (G : Facts), Down ops listed → (∀ j w w', E w w' → G j w → G j w') → Live C G →
      (∀ j oj, ops[j]? = some oj → j ≠ i → listed.getD j true = false → (∀ e ∈ oj.after, Region.binds .any e = true → e.on ≠ i) → oi.apart ops oj = true) →
      i ∈ Region.ready .any ops listed →
      (if i = n then tailAny P ops C Q fuel listed i a G else rOp P ops C E T i (wpAnyR P ops C E T n Q fuel (listed.setIfInBounds i true)) a G) → wpAnyR P ops C E T n Q (fuel + 1) listed a G := by
  intro fuel
  induction fuel with
  | zero =>
    intro listed a G hd hG hL _ hr H
    refine ⟨fun h => (by rw [h] at hr; cases hr), fun j hj => ?_⟩
    by_cases hji : j = i
    · subst hji; exact H
    · exfalso
      have hin : i ≠ n := fun h => by subst h; exact hji (tail_alone hd hn hr hj)
      rw [if_neg hin] at H
      have hrj := ready_mono hj hji
      unfold rOp at H
      simp only [hi] at H
      obtain ⟨V, φ, hO, hn⟩ := H
      obtain ⟨v, hv, hl⟩ := hO.live hG hL
      have := (hn v hv hl).1
      rw [this] at hrj
      cases hrj
  | succ fuel ih =>
    intro listed a G hd hG hL hfree hr H
    refine ⟨fun h => (by rw [h] at hr; cases hr), fun j hj => ?_⟩
    by_cases hji : j = i
    · subst hji; exact H
    · have hin : i ≠ n := fun h => by subst h; exact hji (tail_alone hd hn hr hj)
      have hjn : j ≠ n := fun h => by subst h; exact hji (tail_alone hd hn hj hr).symm
      rw [if_neg hin] at H
      rw [if_neg hjn]
      obtain ⟨hjun, oj, hoj, hall⟩ := mem_ready.1 hj
      have hnot : ∀ e ∈ oj.after, Region.binds .any e = true → e.on ≠ i := fun e he hb heq => by
        have h1 := hall e he hb
        have h0 := (mem_ready.1 hr).1
        rw [heq] at h1
        rcases Nat.lt_or_ge i listed.size with h' | h'
        · simp [h'] at h0 h1; rw [h0] at h1; cases h1
        · simp [Array.getElem?_eq_none h'] at h1
      have hfree' : ∀ k ok, ops[k]? = some ok → k ≠ i → (listed.setIfInBounds j true).getD k true = false →
          (∀ e ∈ ok.after, Region.binds .any e = true → e.on ≠ i) → oi.apart ops ok = true := fun k ok hk hki hun hno => by
        refine hfree k ok hk hki ?_ hno
        by_cases hjk : j = k
        · subst hjk; exact hjun
        · rw [getD_set_ne true hjk] at hun; exact hun
      have H2 : rOp P ops C E T i (fun a' G' => rOp P ops C E T j (wpAnyR P ops C E T n Q fuel ((listed.setIfInBounds i true).setIfInBounds j true)) a' G') a G :=
        rOp_mono hL (fun a' G' _ hk => by have := hk.2 j (ready_mono hj hji); rwa [if_neg hjn] at this) H
      have H3 := rOp_swap hd hr hj hi hoj (hfree j oj hoj hji hjun hnot) (fun cs b => hsel i oi cs b hi) (fun cs b => hsel j oj cs b hoj) hG hL H2
      refine rOp_mono hL (fun a' G' hL' h3 => ih (listed.setIfInBounds j true) a' G' (hd.set hj) h3.1 hL' hfree' (ready_mono hr (Ne.symm hji)) ?_) (rOp_stay hT hG H3)
      rw [if_neg hin]
      rw [Array.setIfInBounds_comm _ _ (Ne.symm hji)] at *
      exact h3.2

theorem wpAnyR_lex (hT : ∀ i Φ, T i = some Φ → ∀ v w w', E w w' → Φ v w → Φ v w') (hn : tailB ops n = true) (hs : Region.noSelect ops = true) : ∀ (l : List Oper) (k : Nat) (listed : Array Bool) (a : Act) (G : Facts), Down ops listed → (∀ j w w', E w w' → G j w → G j w') → Live C G →
    (∀ j, l[j]? = ops[k + j]?) → Region.lexFrom .any ops l.length k listed = true → wpRel P ops C E T n Q l k a G → wpAnyR P ops C E T n Q l.length listed a G
  | [], _, _, _, _, _, _, _, _, hB, h => ⟨by simpa [Region.lexFrom] using hB, h⟩
  | o :: l, k, listed, a, G, hd, hG, hL, hl, hB, h => by
    have h0 : ops[k]? = some o := by simpa using (hl 0).symm
    simp only [List.length_cons, Region.lexFrom, Bool.and_eq_true] at hB
    obtain ⟨⟨hr, hf⟩, hB'⟩ := hB
    have hr' : k ∈ Region.ready .any ops listed := by simpa using hr
    refine wpAnyR_first hT hn h0 (Region.noSelect_spec hs) l.length listed a G hd hG hL (Region.free_spec h0 hf) hr' ?_
    simp only [wpRel] at h
    by_cases hkn : k = n
    · rw [if_pos hkn] at h ⊢
      intro w hC hw
      have hch := tail_chain (P := P) (Q := Q) hn (o :: l) k listed a w (by omega) hd hl (by simp only [List.length_cons, Region.lexFrom, Bool.and_eq_true]; exact ⟨⟨hr, hf⟩, hB'⟩) (h w hC hw)
      exact hch.2 k hr'
    · rw [if_neg hkn] at h ⊢
      have hst : rOp P ops C E T k (wpRel P ops C E T n Q l (k + 1)) a G := by unfold rOp; simp only [h0]; exact h
      exact rOp_mono hL (fun a' G' hL' h' => wpAnyR_lex hT hn hs l (k + 1) _ a' G' (hd.set hr') h'.1 hL' (fun j => by have := hl (j + 1); simpa [Nat.add_assoc, Nat.add_comm 1 j] using this) hB' h'.2) (rOp_stay hT hG hst)

/-- **A region that draws its order, walked once.** n: the number of its last operation, if that one is taken by a law of its own; else any number from the region's size on. -/
theorem wp_region_rel (C : World → Prop) (E : World → World → Prop) (T : Nat → Option (Value → World → Prop)) (hT : ∀ i Φ, T i = some Φ → ∀ v w w', E w w' → Φ v w → Φ v w')
    {id : Nat} {Q : Exit → Act → World → Prop} {a : Act} {w : World} {l : List Oper} (n : Nat) (hn : tailB l.toArray n = true) (hm : P.follows .mixedOrders = true) (hB : Region.lexB .any l.toArray = true) (hC : C w.drew)
    (h : wpRel P l.toArray C E T n Q l 0 a Facts.top) : (Code.region id l.toArray true).wp P Q a w := by
  simp only [Region.lexB, Bool.and_eq_true] at hB
  have hG : ∀ (j : Nat) (w w' : World), E w w' → Facts.top j w → Facts.top j w' := fun _ _ _ _ h => h
  have hd : Down l.toArray (Array.replicate l.toArray.size false) := by
    intro k o _ hk
    simp only [Array.getD, Array.size_replicate] at hk
    split at hk
    · simp at hk
    · cases hk
  refine wp_region_any hm (wpAny_of_R hT hn _ _ _ Facts.top _ hd (by simp) hG hC (fun _ => trivial) ?_)
  have := wpAnyR_lex (C := C) hT hn hB.1 l 0 (Array.replicate l.toArray.size false) a Facts.top hd hG ⟨_, hC, fun _ => trivial⟩ (by simp) (by simpa using hB.2) h
  simpa using this
end
end Go.Proofs.YtimbikbbbfpeeaaGreatDoor

/- Small laws on worlds that grow, on slices that read as lists, and the steps of the walk over a region that draws its order. -/
namespace Go.Proofs.YtimbikbbbfpeeaaGreatDoor
open Go Go.RowKit

/-! ### A world that has grown -/
def Ext (w w' : World) : Prop := Below w.heap.size w w'

theorem Ext.refl (w : World) : Ext w w := Below.refl _ _
theorem Ext.trans {a b c : World} (h : Ext a b) (k : Ext b c) : Ext a c := Below.trans h (Below.mono k h.size)
theorem Ext.alloc {a w : World} (h : Ext a w) (o : Obj) : Ext a (w.alloc o) := Below.alloc h h.size o
theorem Ext.drew {a w : World} (h : Ext a w) : Ext a w.drew := Below.drew h
theorem Ext.drewN {a w : World} (h : Ext a w) (n : Nat) : Ext a (w.drewN n) := ⟨h.os, h.tape, h.output, h.size, h.block⟩
theorem Ext.setCell {a w : World} (h : Ext a w) {p : Addr} (hp : a.heap.size ≤ p.block) (u : Value) : Ext a (w.setCell p u) := Below.setCell h hp u
theorem Ext.le {a w : World} (h : Ext a w) : a.heap.size ≤ w.heap.size := Below.size h
theorem Ext.cell {a w : World} (h : Ext a w) {p : Addr} {v : Value} (hc : a.cell? p = some v) : w.cell? p = some v := (Below.cell h (World.block_lt_of_cell? a p hc)).trans hc
theorem Ext.cells {a w : World} (h : Ext a w) : ∀ b o, b < a.heap.size → w.cell? ⟨b, o, none⟩ = a.cell? ⟨b, o, none⟩ := fun b o hb => Below.cell h (p := ⟨b, o, none⟩) hb
theorem Ext.frozens {a w : World} (h : Ext a w) : ∀ b o, b < a.heap.size → w.frozen? ⟨b, o, none⟩ = a.frozen? ⟨b, o, none⟩ := fun b o hb => Below.frozen h (p := ⟨b, o, none⟩) hb
theorem Ext.grown {a w w' : World} {row : Option Nat} (h : Ext a w) (hg : w.grownBy w' row) (hr : ∀ k, row = some k → a.heap.size ≤ k) : Ext a w' := Below.grown h hg h.size hr
theorem Ext.below {a w : World} (h : Ext a w) : Below a.heap.size a w := h
theorem Ext.of_below {a w : World} (h : Below a.heap.size a w) : Ext a w := h

/-! ### A slice that reads as a list of cells -/
/-- v is a slice of n elements, its cells (those of all elements, one behind the other) are xs. -/
def SliceIn (w : World) (v : Value) (n : Nat) (xs : List Value) : Prop :=
  ∃ a c, v = .slice a n c ∧ n ≤ c ∧ c ≤ maxLen ∧ (a = none → c = 0) ∧ ∀ j u, xs[j]? = some u → ∃ b o, a = some ⟨b, o, none⟩ ∧ w.cell? ⟨b, o + j, none⟩ = some u

theorem SliceIn.nil (w : World) : SliceIn w (.slice none 0 0) 0 [] := ⟨none, 0, rfl, Nat.le_refl _, Nat.zero_le _, fun _ => rfl, fun j u h => by simp at h⟩

theorem SliceIn.ext {w w' : World} (hE : Ext w w') {v : Value} {n : Nat} {xs : List Value} (h : SliceIn w v n xs) : SliceIn w' v n xs := by
  obtain ⟨a, c, h1, h2, h3, h4, h6⟩ := h
  exact ⟨a, c, h1, h2, h3, h4, fun j u hj => let ⟨b, o, e, hc⟩ := h6 j u hj; ⟨b, o, e, hE.cell hc⟩⟩

theorem SliceIn.made (w : World) (cs : Array Value) (e : TypeId) (n : Nat) (h : n ≤ maxLen) : SliceIn (w.alloc (.cells cs e)) (.slice (some ⟨w.heap.size, 0, none⟩) n n) n cs.toList :=
  ⟨_, n, rfl, Nat.le_refl _, h, nofun, fun j u hj => ⟨w.heap.size, 0, rfl, by
    rw [Nat.zero_add, cell_of_row _ w.heap.size j cs e (0, 0) (heap_alloc_new w _)]
    simpa using hj⟩⟩

theorem SliceIn.of_owns {w : World} {base : Nat} {e : TypeId} {size : Nat} {v : Value} {n : Nat} {xs : List Value} (h : w.ownsRow base e size v n xs) : SliceIn w v n xs := by
  obtain ⟨hl, h⟩ := h
  rcases h with ⟨rfl, rfl⟩ | ⟨g, cap, cur, rfl, _, hg, hn, hm, hs, ht⟩
  · obtain rfl : xs = [] := List.eq_nil_of_length_eq_zero (by simpa using hl)
    exact SliceIn.nil w
  · refine ⟨_, cap, rfl, hn, hm, nofun, fun j u hj => ⟨g, 0, rfl, ?_⟩⟩
    rw [Nat.zero_add, cell_of_row w g j cur e (0, 0) hg]
    rw [← ht, List.getElem?_take] at hj
    split at hj
    · simpa using hj
    · cases hj

/-- The cells of a list of bytes. -/
def bcells (l : List UInt8) : List Value := l.map fun b => Value.int .u8 (b.toNat : Int)
@[simp] theorem bcells_length (l : List UInt8) : (bcells l).length = l.length := by simp [bcells]
@[simp] theorem bcells_append (l m : List UInt8) : bcells (l ++ m) = bcells l ++ bcells m := by simp [bcells]
@[simp] theorem bcells_nil : bcells [] = [] := rfl

/-- v is a slice of bytes that reads as l. -/
def BytesIn (w : World) (v : Value) (l : List UInt8) : Prop := SliceIn w v l.length (bcells l)

theorem BytesIn.ext {w w' : World} (hE : Ext w w') {v : Value} {l : List UInt8} (h : BytesIn w v l) : BytesIn w' v l := SliceIn.ext hE h

/-- The string of a list of bytes. -/
def str (l : List UInt8) : ByteArray := ⟨l.toArray⟩
@[simp] theorem str_toList (l : List UInt8) : (str l).data.toList = l := rfl
@[simp] theorem str_list (l : List UInt8) : (str l).toList = l := by rw [ByteArray.toList_eq]; rfl
theorem str_take (l : List UInt8) (n : Nat) : ((str l).extract 0 n).toList = l.take n := by
  rw [ByteArray.toList_eq, ByteArray.data_extract]
  simp [str]
@[simp] theorem str_size (l : List UInt8) : (str l).size = l.length := by simp [str, ByteArray.size]

theorem run_convert_bytesIn {P : Program} (w : World) (src dst e : TypeId) (hs : P.underlying src = some (.slice e)) (he : P.underlying e = some (.int .u8)) (hd : P.underlying dst = some .string)
    {v : Value} {l : List UInt8} (h : BytesIn w v l) : (convert src dst v).run P w = .ok (.string (str l)) w := by
  obtain ⟨a, c, rfl, h2, h3, h4, h6⟩ := h
  rw [run_convert_bytes_string w src dst e _ _ c hs he hd]
  cases a with
  | none =>
    have hl : l = [] := List.eq_nil_of_length_eq_zero (by have := h4 rfl; omega)
    subst hl
    simp [Conv.bytesToString]
    rfl
  | some ad =>
    have hl : (loadCells ad l.length).run P w = .ok (bcells l).toArray w := by
      have := run_loadCells_list (P := P) w ad (bcells l) (fun j v hj => by
        obtain ⟨b, o, e', hc⟩ := h6 j v hj
        cases e'
        rw [Addr.add_lit]
        exact hc)
      simpa using this
    have e1 : bcells l = (l.map fun b => (b.toNat : Int)).map (Value.int .u8) := by simp [bcells]
    rw [e1] at hl
    rw [run_bytesToString w _ _ c _ hl, foldl_push_bytes]
    have e2 : ((l.map fun b => (b.toNat : Int)).map fun n => UInt8.ofNat n.toNat) = l := by
      rw [List.map_map]
      conv => rhs; rw [← List.map_id l]
      refine List.map_congr_left fun b _ => ?_
      simp
    rw [e2]
    simp [str, ByteArray.empty, ByteArray.emptyWithCapacity]
    rfl

theorem wpList_convert_bytes {P : Program} {w : World} {ops : Array Oper} {rest : List Oper} {o : Oper} {a : Act} {Q : Exit → Act → World → Prop} (hw : Region.wanted o (yielded ops a.tmps) = true) (src dst e : TypeId) (x : Operand)
    (ho : o.op = .convert src dst x) (hs : P.underlying src = some (.slice e)) (he : P.underlying e = some (.int .u8)) (hd : P.underlying dst = some .string)
    {l : List UInt8} (h : BytesIn w (a.eval x) l) (hK : wpList P ops Q rest (a.put o.dst (.string (str l))) w) : wpList P ops Q (o :: rest) a w :=
  wpList_step fun K hK' => by
    rw [if_pos hw]
    unfold Oper.wp
    simp only [execOp, ho, Sem.run_bind, run_convert_bytesIn w src dst e hs he hd h, Result.andThen_ok, Sem.run_pure, Oper.upon_value]
    exact hK' _ _ hK

theorem ownsRow_base {w : World} {b b' : Nat} {e : TypeId} {size : Nat} {v : Value} {n : Nat} {xs : List Value} (h : w.ownsRow b e size v n xs) (hb : b' ≤ b) : w.ownsRow b' e size v n xs := by
  obtain ⟨h1, h2⟩ := h
  refine ⟨h1, h2.imp id ?_⟩
  rintro ⟨g, cap, cur, h⟩
  exact ⟨g, cap, cur, h.1, Nat.le_trans hb h.2.1, h.2.2⟩

theorem ownsRow_ext {w w' : World} {b : Nat} {e : TypeId} {size : Nat} {v : Value} {n : Nat} {xs : List Value} (h : w.ownsRow b e size v n xs) (hE : Ext w w') : w'.ownsRow b e size v n xs := by
  obtain ⟨h1, h2⟩ := h
  refine ⟨h1, h2.imp id ?_⟩
  rintro ⟨g, cap, cur, h⟩
  exact ⟨g, cap, cur, h.1, h.2.1, by rw [hE.block g (Array.getElem?_eq_some_iff.1 h.2.2.1).1]; exact h.2.2.1, h.2.2.2⟩

/-- Behind a law on append: an old world that the row does not belong to. -/
theorem Ext.grownOwn {a w w' : World} {b : Nat} {e : TypeId} {size : Nat} {v : Value} {n : Nat} {xs : List Value} (h : Ext a w) (hown : w.ownsRow b e size v n xs) (hb : a.heap.size ≤ b) (hg : w.grownBy w' v.ownBlock) : Ext a w' :=
  h.grown hg fun k hk => Nat.le_trans hb (hown.lt k hk).1

/-- An append to a slice without spare room: a new row. -/
theorem wpList_append_fresh {P : Program} (w : World) {ops : Array Oper} {rest : List Oper} {o : Oper} {a : Act} {Q : Exit → Act → World → Prop}
    (hg : o.guard = none) (s x : Operand) (t : TypeId) (hop : o.op = Op.call { callee := Callee.builtin Builtin.append, args := #[s, x], argTypes := #[t, t] })
    (e : TypeId) (i : TypeInfo) (z : Value) (size bytes : Nat) (h1 : P.underlying t = some (.slice e)) (h2 : P.info? e = some i) (h3 : i.zero = some z) (h4 : i.size = size) (h5 : i.bytes = bytes) (h6 : z.cells.size = size) (h7 : 0 < size)
    (ao : Option Addr) (n : Nat) (olds : List Value) (hs : a.eval s = .slice ao n n) (hin : SliceIn w (.slice ao n n) n olds) (hlo : olds.length = n * size)
    (ad : Addr) (m c : Nat) (news : List Value) (hx : a.eval x = .slice (some ad) m c) (hn : news.length = m * size) (hc : ∀ j u, news[j]? = some u → w.cell? (ad.add j) = some u) (h1c : ∀ u ∈ news, u.oneCell' = true)
    (hm : 0 < m) (b1 : n + m ≤ maxLen) (b2 : (n + m) * bytes ≤ 140737488355328)
    (hK : ∀ v' w', w'.ownsRow w.heap.size e size v' (n + m) (olds ++ news) → w.grownBy w' none → wpList P ops Q rest (a.put o.dst v') w') : wpList P ops Q (o :: rest) a w := by
  obtain ⟨a', c', he, hnc, hcm, hz, hcells⟩ := hin
  cases he
  refine wpList_append_grows w hg s x t hop e i z size bytes h1 h2 h3 h4 h5 h6 h7 ao n n olds hs (fun h => ⟨hz h, hz h⟩) hlo (fun b hb j u hj => ?_) ad m c news hx hn hc h1c (by omega) b1 b2 hK
  obtain ⟨b', o', e', hc'⟩ := hcells j u hj
  rw [hb] at e'
  cases e'
  rw [Addr.add_lit]
  exact hc'

/-- v points to a variable of the call's own, from block B on, that holds these cells. -/
def VarIn (w : World) (B : Nat) (v : Value) (cs : Array Value) (e : TypeId) : Prop := ∃ b, v = .pointer (some ⟨b, 0, none⟩) ∧ B ≤ b ∧ w.heap[b]? = some (.cells cs e (0, 0))
theorem VarIn.ext {w w' : World} (hE : Ext w w') {B : Nat} {v : Value} {cs : Array Value} {e : TypeId} (h : VarIn w B v cs e) : VarIn w' B v cs e := by
  obtain ⟨b, h1, h2, h3⟩ := h
  exact ⟨b, h1, h2, by rw [hE.block b (Array.getElem?_eq_some_iff.1 h3).1]; exact h3⟩
theorem VarIn.made (w : World) (B : Nat) (cs : Array Value) (e : TypeId) (h : B ≤ w.heap.size) : VarIn (w.alloc (.cells cs e)) B (.pointer (some ⟨w.heap.size, 0, none⟩)) cs e :=
  ⟨_, rfl, h, heap_alloc_new w _⟩
theorem var_cell {w : World} {b : Nat} {cs : Array Value} {e : TypeId} (h : w.heap[b]? = some (.cells cs e (0, 0))) (i : Nat) : w.cell? ⟨b, i, none⟩ = cs[i]? := cell_of_row w b i cs e (0, 0) h
theorem var_free {w : World} {b : Nat} {cs : Array Value} {e : TypeId} (h : w.heap[b]? = some (.cells cs e (0, 0))) (i : Nat) : w.frozen? ⟨b, i, none⟩ = false := by
  simp [World.frozen?, h]

theorem Ext.of_eq {a w : World} (h : a = w) : Ext a w := h ▸ Ext.refl a

/-! ### The walk over a region that draws -/
theorem Facts.upd_true (G : Facts) (i : Nat) : G.upd i (fun _ => True) = G := by
  funext k w
  simp [Facts.upd]

/-- A table of facts: of the value of operation i. -/
abbrev Tab := List (Nat × (Value → World → Prop))
def Tab.at : Tab → Nat → Option (Value → World → Prop)
  | [], _ => none
  | (i, φ) :: L, k => if i = k then some φ else Tab.at L k
def Stays (Φ : Value → World → Prop) : Prop := ∀ v w w', Ext w w' → Φ v w → Φ v w'
def TabOK : Tab → Prop
  | [] => True
  | (_, φ) :: L => Stays φ ∧ TabOK L
theorem Tab.stays {L : Tab} (h : TabOK L) : ∀ i Φ, L.at i = some Φ → ∀ v w w', Ext w w' → Φ v w → Φ v w' := by
  induction L with
  | nil => intro i Φ hi; cases hi
  | cons p L ih =>
    obtain ⟨k, φ⟩ := p
    intro i Φ hi
    simp only [Tab.at] at hi
    split at hi
    · cases hi; exact h.1
    · exact ih h.2 i Φ hi
theorem stays_eq (u : Value) : Stays (fun v _ => v = u) := fun _ _ _ _ h => h
theorem stays_bytes (l : List UInt8) : Stays (fun v w => BytesIn w v l) := fun _ _ _ hE h => h.ext hE
theorem stays_var (B : Nat) (cs : Array Value) (e : TypeId) : Stays (fun v w => VarIn w B v cs e) := fun _ _ _ hE h => h.ext hE
theorem stays_slice (n : Nat) (l : List Value) : Stays (fun v w => SliceIn w v n l) := fun _ _ _ hE h => h.ext hE

theorem wp_region_tab {P : Program} {id : Nat} {Q' : Exit → Act → World → Prop} {a : Act} {w : World} {l : List Oper} (n : Nat) (L : Tab) (hn : tailB l.toArray n = true) (hm : P.follows .mixedOrders = true) (hB : Region.lexB .any l.toArray = true)
    (hT : TabOK L)
    (h : wpRel P l.toArray (Ext w) Ext L.at n Q' l 0 a Facts.top) : (Code.region id l.toArray true).wp P Q' a w :=
  wp_region_rel (Ext w) Ext L.at (Tab.stays hT) n hn hm hB (Ext.refl w).drew h

/-- The same, the world in which the region begins under a name: 'F' is what is known of it. -/
theorem wp_region_in {P : Program} {id : Nat} {Q' : Exit → Act → World → Prop} {a : Act} {w : World} {l : List Oper} (n : Nat) (L : Tab) (F : World → Prop) (hn : tailB l.toArray n = true) (hm : P.follows .mixedOrders = true) (hB : Region.lexB .any l.toArray = true)
    (hT : TabOK L) (hF : F w)
    (h : ∀ w0, F w0 → wpRel P l.toArray (Ext w0) Ext L.at n Q' l 0 a Facts.top) : (Code.region id l.toArray true).wp P Q' a w :=
  wp_region_tab n L hn hm hB hT (h w hF)

/-- A cell of the world in which the region began, wherever it is read in the region. -/
theorem held {w : World} {a : Addr} {v : Value} (h : w.cell? a = some v) : ∀ p : Regrown, (Go.Sort.grow (redrawn w p.d) p.os).cell? a = some v := fun p => cell_regrown h p.d p.os

/-- An operation that hands back a value and enters no function. -/
def noEnter : Op → Bool
  | .move _ | .assign _ | .pick .. | .build .. | .load .. | .binOp .. | .unOp .. | .convert .. | .slice .. | .fieldAddr .. | .field .. | .indexAddr .. | .index .. | .extract .. | .makeInterface .. => true
  | .call c => match c.callee with | .builtin .len | .builtin .cap | .builtin .max | .builtin .min => true | _ => false
  | _ => false

theorem run_value_ne {P : Program} {s : Sem Value} {w : World} {f : FuncId} {args : Array Value} {w' : World} : ((do pure (Next.value (← s))) : Sem Next).run P w ≠ .ok (.enter f args) w' := by
  rw [Sem.run_bind]
  cases h : s.run P w with
  | ok v w1 => simp [Result.andThen, Sem.run_pure]
  | halt x w1 => simp [Result.andThen]

theorem andThen_value_ne {s : Result Value} {f : FuncId} {args : Array Value} {w' : World} : s.andThen (fun v w => Result.ok (Next.value v) w) ≠ .ok (.enter f args) w' := by
  cases s <;> simp [Result.andThen]
theorem andThen_pick_ne {s : Result Bool} {x y : Value} {f : FuncId} {args : Array Value} {w' : World} : s.andThen (fun v w => Result.ok (Next.value (if v = true then x else y)) w) ≠ .ok (.enter f args) w' := by
  cases s <;> simp [Result.andThen]

theorem noEnter_run {P : Program} {o : Oper} {a : Act} {w : World} (h : noEnter o.op = true) : ∀ f args w', (execOp a.eval o).run P w ≠ .ok (.enter f args) w' := by
  intro f args w'
  obtain ⟨dst, op, type, pos, after, guard⟩ := o
  cases op <;> simp only [noEnter, Bool.false_eq_true] at h <;> simp only [execOp] <;> first | exact run_value_ne | (simp [Sem.run_pure]; done) | skip
  case pick => simp only [Sem.run_bind, Sem.run_pure]; exact andThen_pick_ne
  case call c =>
    obtain ⟨callee, args, argTypes⟩ := c
    cases callee with
    | builtin b => cases b <;> simp only [Bool.false_eq_true] at h <;> (simp only [resolve, invoke, builtin, Sem.run_bind, Sem.run_pure, Result.andThen_ok]; exact andThen_value_ne)
    | value f => simp at h
    | invoke r m => simp at h

section
variable {P : Program} {ops : Array Oper} {C : World → Prop} {E : World → World → Prop} {T : Nat → Option (Value → World → Prop)} {n : Nat} {Q : Exit → Act → World → Prop} {o : Oper} {rest : List Oper} {k : Nat} {a : Act} {G : Facts}

theorem rel_nil (h : ∀ w, C w → (∀ j, G j w) → Q .normal a w) : wpRel P ops C E T n Q [] k a G := h

theorem rel_step (hkn : (k == n) = false) (h : rStep P ops C E T k o (wpRel P ops C E T n Q rest (k + 1)) a G) : wpRel P ops C E T n Q (o :: rest) k a G := by
  have : k ≠ n := by simpa using hkn
  unfold wpRel
  rw [if_neg this]
  exact h

/-- The last operation, by any law. -/
theorem rel_tail (hkn : (k == n) = true) (ho : ops[k]? = some o) (h : ∀ w, C w → (∀ j, G j w) → wpList P ops Q (o :: rest) a w) : wpRel P ops C E T n Q (o :: rest) k a G := by
  have : k = n := by simpa using hkn
  unfold wpRel
  rw [if_pos this]
  exact h

theorem rel_skip (hkn : (k == n) = false) (hw : Region.wanted o (yielded ops a.tmps) = false) (h : wpRel P ops C E T n Q rest (k + 1) (a.put o.dst undef) G) : wpRel P ops C E T n Q (o :: rest) k a G :=
  rel_step hkn ⟨(· = undef), fun _ _ => True, .inl ⟨hw, rfl, rfl⟩, fun v hv _ => by subst hv; rw [Facts.upd_true]; exact h⟩

theorem rel_quiet (need : List Nat) (hkn : (k == n) = false) (hw : Region.wanted o (yielded ops a.tmps) = true) (hT : T k = none) (hne : noEnter o.op = true) (hn : need.all (ancB ops 4 k) = true)
    (h : ∀ K : Act → Prop, (∀ a, wpRel P ops C E T n Q rest (k + 1) a G → K a) → o.quiet P a (fun w => C w ∧ ∀ j ∈ need, G j w) K) : wpRel P ops C E T n Q (o :: rest) k a G := by
  obtain ⟨v, hq, hr⟩ := h _ (fun _ h => h)
  refine rel_step hkn ⟨(· = v), fun _ _ => True, .inr ⟨hw, need, hn, .inl ⟨hT, v, fun w hC hf => ?_, rfl, rfl⟩⟩, fun u hu _ => by subst hu; rw [Facts.upd_true]; exact hr⟩
  have := hq w ⟨hC, hf⟩
  unfold Oper.quietAt at *
  have hno := noEnter_run (P := P) (a := a) (w := w) hne
  generalize (execOp a.eval o).run P w = r at *
  cases r with
  | ok n w' => cases n <;> simp only [Oper.quietUpon] at this ⊢ <;> first | exact this | exact absurd rfl (hno _ _ _)
  | halt x w' => exact this

theorem rel_call (need : List Nat) (Φ : Value → World → Prop) (hkn : (k == n) = false) (hw : Region.wanted o (yielded ops a.tmps) = true) (hT : T k = some Φ) (hn : need.all (ancB ops 4 k) = true)
    (h : ∀ w, C w → (∀ j ∈ need, G j w) → yields P o a w fun u w' => C w' ∧ E w w' ∧ Φ u w')
    (hk : ∀ v w, C w → (∀ j, G j w) → Φ v w → wpRel P ops C E T n Q rest (k + 1) (a.put o.dst v) (G.upd k (Φ v))) : wpRel P ops C E T n Q (o :: rest) k a G :=
  rel_step hkn ⟨fun _ => True, Φ, .inr ⟨hw, need, hn, .inr ⟨Φ, hT, h, rfl, rfl⟩⟩, fun v _ ⟨w, hC, hf⟩ => hk v w hC (fun j => (hf j).1) ((hf k).2 rfl)⟩

theorem Facts.get {G : Facts} {i : Nat} {φ : World → Prop} {w : World} (h : (G.upd i φ) i w) : φ w := h.2 rfl

/-- A reading of a slice of bytes as a text, as the region's walk meets it. -/
theorem yields_convert_bytes {w : World} {R : Value → World → Prop} (src dst e : TypeId) (x : Operand) (ho : o.op = .convert src dst x) (hs : P.underlying src = some (.slice e)) (he : P.underlying e = some (.int .u8)) (hd : P.underlying dst = some .string)
    {l : List UInt8} (h : BytesIn w (a.eval x) l) (hR : R (.string (str l)) w) : yields P o a w R := by
  unfold yields
  simp only [execOp, ho, Sem.run_bind, run_convert_bytesIn w src dst e hs he hd h, Result.andThen_ok, Sem.run_pure, yUpon]
  exact hR

/-- A call of a Go function, as the region's walk meets it. -/
theorem yields_calls {f : FuncId} {fn : Func} {args : Array Operand} {ts : Array TypeId} {w : World} {R : Value → World → Prop} (ho : o.op = .call { callee := .value (.func f), args := args, argTypes := ts })
    (hf : P.funcs[f]? = some fn) (hb : fn.body.isSome = true) (hnm : (fn.name == "runtime.NumGoroutine") = false) (h : Calls P f (args.map a.eval) w fun e w'' => ∃ v, e = .returned v ∧ R v w'') : yields P o a w R := by
  unfold yields
  have h1 : ¬ fn.name = "runtime.NumGoroutine" := by simpa using hnm
  have h2 : ¬ fn.body = none := by cases hx : fn.body <;> simp_all
  have hr : (execOp a.eval o).run P w = .ok (.enter f (args.map a.eval)) w := by
    unfold execOp
    simp [ho, resolve, Deferred.ofValue, invoke, callFunc, hf, h1, h2, Act.eval]
  rw [hr]
  exact h
end

/-! The steps of the walk over a region that draws, at 'memory grows'. -/
section
variable {P : Program} {ops : Array Oper} {w0 : World} {L : Tab} {n : Nat} {Q : Exit → Act → World → Prop} {o : Oper} {rest : List Oper} {k : Nat} {a : Act} {G : Facts}

/-- What is asked behind an operation: behind a name that simp does not open. -/
def RgPost (w0 w : World) (Φ : Value → World → Prop) (v : Value) (w' : World) : Prop := Ext w0 w' ∧ Ext w w' ∧ Φ v w'
theorem rg_done {w0 w w' : World} {u v : Value} (hE : Ext w0 w) (h : Ext w w') (e : v = u) : RgPost w0 w (fun x _ => x = u) v w' := ⟨hE.trans h, h, e⟩
theorem rg_doneR {w0 w w' : World} {Φ : Value → World → Prop} {v : Value} (hE : Ext w0 w) (h : Ext w w') (e : Φ v w') : RgPost w0 w Φ v w' := ⟨hE.trans h, h, e⟩

/-- An operation that hands back this very value; memory may grow. -/
theorem rg_val (need : List Nat) {u : Value} (hkn : (k == n) = false) (hw : Region.wanted o (yielded ops a.tmps) = true) (hT : L.at k = some (fun v _ => v = u)) (hn : need.all (ancB ops 4 k) = true)
    (h : ∀ w, Ext w0 w → (∀ j ∈ need, G j w) → yields P o a w (RgPost w0 w (fun x _ => x = u)))
    (hk : wpRel P ops (Ext w0) Ext L.at n Q rest (k + 1) (a.put o.dst u) G) : wpRel P ops (Ext w0) Ext L.at n Q (o :: rest) k a G :=
  rel_call need _ hkn hw hT hn h (fun v w _ _ hv => by
    have hv : v = u := hv
    subst hv
    have : G.upd k (fun _ => v = v) = G := by funext k w; simp [Facts.upd]
    show wpRel P ops (Ext w0) Ext L.at n Q rest (k + 1) (a.put o.dst v) (G.upd k (fun _ => v = v))
    rw [this]; exact hk)

/-- An operation that hands back a value of which a fact is known; memory may grow. -/
theorem rg_fact (need : List Nat) {Φ : Value → World → Prop} (hkn : (k == n) = false) (hw : Region.wanted o (yielded ops a.tmps) = true) (hT : L.at k = some Φ) (hn : need.all (ancB ops 4 k) = true)
    (h : ∀ w, Ext w0 w → (∀ j ∈ need, G j w) → yields P o a w (RgPost w0 w Φ))
    (hk : ∀ v w, Ext w0 w → (∀ j, G j w) → Φ v w → wpRel P ops (Ext w0) Ext L.at n Q rest (k + 1) (a.put o.dst v) (G.upd k (Φ v))) : wpRel P ops (Ext w0) Ext L.at n Q (o :: rest) k a G :=
  rel_call need Φ hkn hw hT hn h hk

/-- A call of a Go function by its contract. -/
theorem rg_call (need : List Nat) {Φ : Value → World → Prop} {f : FuncId} {fn : Func} {args : Array Operand} {ts : Array TypeId} {vals : Array Value}
    (hkn : (k == n) = false) (hw : Region.wanted o (yielded ops a.tmps) = true) (hT : L.at k = some Φ) (ho : o.op = .call { callee := .value (.func f), args := args, argTypes := ts })
    (hf : P.funcs[f]? = some fn) (hb : fn.body.isSome = true) (hnm : (fn.name == "runtime.NumGoroutine") = false) (hargs : args.toList.map a.eval = vals.toList) (hn : need.all (ancB ops 4 k) = true)
    (h : ∀ w, Ext w0 w → (∀ j ∈ need, G j w) → Calls P f vals w fun e w' => ∃ v, e = .returned v ∧ Φ v w' ∧ Ext w w')
    (hk : ∀ v w, Ext w0 w → (∀ j, G j w) → Φ v w → wpRel P ops (Ext w0) Ext L.at n Q rest (k + 1) (a.put o.dst v) (G.upd k (Φ v))) : wpRel P ops (Ext w0) Ext L.at n Q (o :: rest) k a G :=
  rel_call need Φ hkn hw hT hn (fun w hC hG => yields_calls ho hf hb hnm (by rw [show args.map a.eval = vals from Array.ext' (by simpa using hargs)]; exact (h w hC hG).mono fun e w' ⟨v, he, hΦ, hE⟩ => ⟨v, he, hC.trans hE, hE, hΦ⟩)) hk

theorem upd_rfl (G : Facts) (i : Nat) (u : Value) : G.upd i (fun _ => u = u) = G := by
  funext k w
  simp [Facts.upd]

/-- A call of a Go function that hands back this very value. -/
theorem rg_callv (need : List Nat) (u : Value) {f : FuncId} {fn : Func} {args : Array Operand} {ts : Array TypeId} {vals : Array Value}
    (hkn : (k == n) = false) (hw : Region.wanted o (yielded ops a.tmps) = true) (hT : L.at k = some (fun v _ => v = u)) (ho : o.op = .call { callee := .value (.func f), args := args, argTypes := ts })
    (hf : P.funcs[f]? = some fn) (hb : fn.body.isSome = true) (hnm : (fn.name == "runtime.NumGoroutine") = false) (hargs : args.toList.map a.eval = vals.toList) (hn : need.all (ancB ops 4 k) = true)
    (h : ∀ w, Ext w0 w → (∀ j ∈ need, G j w) → Calls P f vals w fun e w' => e = .returned u ∧ Ext w w')
    (hk : wpRel P ops (Ext w0) Ext L.at n Q rest (k + 1) (a.put o.dst u) G) : wpRel P ops (Ext w0) Ext L.at n Q (o :: rest) k a G :=
  rg_call need hkn hw hT ho hf hb hnm hargs hn (fun w hC hG => (h w hC hG).mono fun e w' ⟨he, hE⟩ => ⟨u, he, rfl, hE⟩)
    (fun v w _ _ hv => by obtain rfl : v = u := hv; rw [upd_rfl]; exact hk)

/-- A reading of a slice of bytes as a text. -/
theorem rg_text (need : List Nat) (src dst e : TypeId) (x : Operand) (l : List UInt8)
    (hkn : (k == n) = false) (hw : Region.wanted o (yielded ops a.tmps) = true) (hT : L.at k = some (fun v _ => v = .string (str l))) (ho : o.op = .convert src dst x) (hn : need.all (ancB ops 4 k) = true)
    (hs : P.underlying src = some (.slice e)) (he : P.underlying e = some (.int .u8)) (hd : P.underlying dst = some .string)
    (h : ∀ w, Ext w0 w → (∀ j ∈ need, G j w) → BytesIn w (a.eval x) l)
    (hk : wpRel P ops (Ext w0) Ext L.at n Q rest (k + 1) (a.put o.dst (.string (str l))) G) : wpRel P ops (Ext w0) Ext L.at n Q (o :: rest) k a G :=
  rel_call need _ hkn hw hT hn (fun w hC hG => yields_convert_bytes src dst e x ho hs he hd (h w hC hG) ⟨hC, Ext.refl w, rfl⟩)
    (fun v w _ _ hv => by obtain rfl : v = .string (str l) := hv; rw [upd_rfl]; exact hk)
/-- An operation that hands back a value off its operands and off memory that was there when the region began. -/
theorem rg_quiet (hkn : (k == n) = false) (hw : Region.wanted o (yielded ops a.tmps) = true) (hT : L.at k = none) (hne : noEnter o.op = true)
    (h : ∀ K : Act → Prop, (∀ a, wpRel P ops (Ext w0) Ext L.at n Q rest (k + 1) a G → K a) → o.quiet P a (fun w => ∃ p : Regrown, w = Go.Sort.grow (redrawn w0 p.d) p.os) K) : wpRel P ops (Ext w0) Ext L.at n Q (o :: rest) k a G :=
  rel_quiet [] hkn hw hT hne rfl fun K hK => by
    obtain ⟨v, hq, hr⟩ := h K hK
    refine ⟨v, fun w hC => ?_, hr⟩
    obtain ⟨p, hp⟩ := regrown_of_below hC.1
    have := hq w ⟨p, hp⟩
    unfold Oper.quietAt at *
    have hno := noEnter_run (P := P) (a := a) (w := w) hne
    generalize (execOp a.eval o).run P w = r at *
    cases r with
    | ok n w' => cases n <;> simp only [Oper.quietUpon] at this ⊢ <;> first | exact this | exact absurd rfl (hno _ _ _)
    | halt x w' => exact this
end

theorem wf_u64 {a : Int} (h : (Lit.int .u64 a).wf = true) : 0 ≤ a ∧ a < 18446744073709551616 := by
  have h := h
  simp only [Lit.wf, Bool.and_eq_true, decide_eq_true_eq] at h
  have e1 : IntKind.u64.min = 0 := by decide
  have e2 : IntKind.u64.max = 18446744073709551615 := by decide
  omega
theorem wf_i64 {a : Int} (h : (Lit.int .i64 a).wf = true) : -9223372036854775808 ≤ a ∧ a ≤ 9223372036854775807 := by
  simp only [Lit.wf, Bool.and_eq_true, decide_eq_true_eq] at h
  have e1 : IntKind.i64.min = -9223372036854775808 := by decide
  have e2 : IntKind.i64.max = 9223372036854775807 := by decide
  omega
theorem wf_u8 {a : Int} (h : (Lit.int .u8 a).wf = true) : 0 ≤ a ∧ a < 256 := by
  simp only [Lit.wf, Bool.and_eq_true, decide_eq_true_eq] at h
  have e1 : IntKind.u8.min = 0 := by decide
  have e2 : IntKind.u8.max = 255 := by decide
  omega

/-! ### What is returned -/
theorem ret_int {k : IntKind} {a b : Int} (h : a = b) : Ending.returned (.int k a) = .returned (.int k b) := by rw [h]
theorem ret_bool {a b : Bool} (h : a = b) : Ending.returned (.bool a) = .returned (.bool b) := by rw [h]
end Go.Proofs.YtimbikbbbfpeeaaGreatDoor

/- Rows and variables of one's own, that turn while memory grows. -/
namespace Go.Proofs.YtimbikbbbfpeeaaGreatDoor
open Go Go.RowKit

/-- A variable: block p holds the cells cs of type e, none frozen. -/
def BoxAt (w : World) (p : Nat) (cs : Array Value) (e : TypeId) : Prop := w.heap[p]? = some (.cells cs e (0, 0))
theorem BoxAt.lt {w : World} {p : Nat} {cs : Array Value} {e : TypeId} (h : BoxAt w p cs e) : p < w.heap.size := (Array.getElem?_eq_some_iff.1 h).1
theorem BoxAt.ext {w w' : World} (hE : Ext w w') {p : Nat} {cs : Array Value} {e : TypeId} (h : BoxAt w p cs e) : BoxAt w' p cs e := by
  have hl := h.lt
  unfold BoxAt at *
  rw [hE.block p hl]
  exact h
theorem BoxAt.made (w : World) (cs : Array Value) (e : TypeId) : BoxAt (w.alloc (.cells cs e)) w.heap.size cs e := heap_alloc_new w _
theorem BoxAt.cell {w : World} {p : Nat} {cs : Array Value} {e : TypeId} (h : BoxAt w p cs e) (i : Nat) : w.cell? ⟨p, i, none⟩ = cs[i]? := var_cell h i
theorem BoxAt.free {w : World} {p : Nat} {cs : Array Value} {e : TypeId} (h : BoxAt w p cs e) (i : Nat) : w.frozen? ⟨p, i, none⟩ = false := var_free h i
theorem BoxAt.other {w : World} {p q : Nat} {cs : Array Value} {e : TypeId} (h : BoxAt w p cs e) (hne : p ≠ q) (i : Nat) (u : Value) : BoxAt (w.setCell ⟨q, i, none⟩ u) p cs e := by
  unfold BoxAt at *
  rw [Deep.blk_setCell_other _ _ _ _ hne]
  exact h
theorem BoxAt.set {w : World} {p : Nat} {cs : Array Value} {e : TypeId} (h : BoxAt w p cs e) (i : Nat) (u : Value) : BoxAt (w.setCell ⟨p, i, none⟩ u) p (cs.setIfInBounds i u) e := by
  unfold BoxAt at *
  have hl := (Array.getElem?_eq_some_iff.1 h).1
  have he := (Array.getElem?_eq_some_iff.1 h).2
  simp only [World.setCell]
  rw [Array.getElem?_eq_getElem (by simpa using hl)]
  simp [Array.getElem_modify, he]
theorem BoxAt.grown {w w' : World} {p : Nat} {cs : Array Value} {e : TypeId} {row : Option Nat} (h : BoxAt w p cs e) (hg : w.grownBy w' row) (hne : some p ≠ row) : BoxAt w' p cs e := by
  unfold BoxAt at *
  rw [hg.block p (Array.getElem?_eq_some_iff.1 h).1 hne]
  exact h

/-- 'append(v, ..)' to a row of one's own, what is appended lying in a row that was made just now. -/
theorem appR {P : Program} {T e : TypeId} {z : Value} {size bytes : Nat} (info : (P.info? e).map (fun i => (i.zero, i.size, i.bytes)) = some (some z, size, bytes)) (und : P.underlying T = some (.slice e)) (hzs : z.cells.size = size) (hsz : 0 < size)
    {ops : Array Oper} {rest : List Oper} {o : Oper} {a : Act} {Q : Exit → Act → World → Prop} (w : World) (hg : o.guard = none) (s x : Operand)
    (hop : o.op = Op.call { callee := Callee.builtin Builtin.append, args := #[s, x], argTypes := #[T, T] })
    (B : Nat) (hB : B ≤ w.heap.size) (v : Value) (n : Nat) (xs : List Value) (hown : w.ownsRow B e size v n xs) (hs : a.eval s = v) (m : Nat) (cs : Array Value) (hx : a.eval x = .slice (some ⟨w.heap.size, 0, none⟩) m m)
    (hcs : cs.size = m * size) (h1c : ∀ u ∈ cs.toList, u.oneCell' = true) (hb1 : n + m ≤ maxLen) (hb : (n + m) * bytes ≤ 140737488355328)
    (hK : ∀ v' w', w'.ownsRow B e size v' (n + m) (xs ++ cs.toList) → (w.alloc (.cells cs e)).grownBy w' v.ownBlock → wpList P ops Q rest (a.put o.dst v') w') : wpList P ops Q (o :: rest) a (w.alloc (.cells cs e)) := by
  obtain ⟨i0, hi, hz0, hz1, hz2⟩ := info_parts info
  refine wpList_append_own _ hg s x T hop B e i0 z size bytes und hi hz0 hz1 hz2 hzs hsz v n xs hs (hown.alloc _) ⟨w.heap.size, 0, none⟩ m m cs.toList hx (by simpa using hcs) ?_ h1c hb1 hb (by simp; omega) ?_
  · intro j u hj
    rw [Addr.add_lit, Nat.zero_add, cell_of_row _ w.heap.size j cs e (0, 0) (heap_alloc_new w _)]
    simpa using hj
  · intro v' w' h2 h3 _
    exact hK v' w' h2 h3

theorem BoxAt.madeN {w : World} {n : Nat} (cs : Array Value) (e : TypeId) (h : w.heap.size = n) : BoxAt (w.alloc (.cells cs e)) n cs e := by subst h; exact BoxAt.made w cs e
theorem boxes2 (w : World) (A B : Array Value) (a b : TypeId) :
    BoxAt ((w.alloc (.cells A a)).alloc (.cells B b)) w.heap.size A a ∧ BoxAt ((w.alloc (.cells A a)).alloc (.cells B b)) (w.heap.size + 1) B b ∧ Ext w ((w.alloc (.cells A a)).alloc (.cells B b)) :=
  ⟨(BoxAt.made w A a).ext ((Ext.refl _).alloc _), BoxAt.madeN B b (Deep.nblk_alloc _ _), ((Ext.refl w).alloc _).alloc _⟩
theorem boxes3 (w : World) (A B C : Array Value) (a b c : TypeId) :
    BoxAt (((w.alloc (.cells A a)).alloc (.cells B b)).alloc (.cells C c)) w.heap.size A a ∧ BoxAt (((w.alloc (.cells A a)).alloc (.cells B b)).alloc (.cells C c)) (w.heap.size + 1) B b ∧ BoxAt (((w.alloc (.cells A a)).alloc (.cells B b)).alloc (.cells C c)) (w.heap.size + 1 + 1) C c ∧ Ext w (((w.alloc (.cells A a)).alloc (.cells B b)).alloc (.cells C c)) := by
  obtain ⟨h1, h2, h3⟩ := boxes2 w A B a b
  exact ⟨h1.ext ((Ext.refl _).alloc _), h2.ext ((Ext.refl _).alloc _), BoxAt.madeN C c (by rw [Deep.nblk_alloc, Deep.nblk_alloc]), h3.alloc _⟩
theorem boxes4 (w : World) (A B C D : Array Value) (a b c d : TypeId) :
    BoxAt ((((w.alloc (.cells A a)).alloc (.cells B b)).alloc (.cells C c)).alloc (.cells D d)) w.heap.size A a ∧ BoxAt ((((w.alloc (.cells A a)).alloc (.cells B b)).alloc (.cells C c)).alloc (.cells D d)) (w.heap.size + 1) B b ∧ BoxAt ((((w.alloc (.cells A a)).alloc (.cells B b)).alloc (.cells C c)).alloc (.cells D d)) (w.heap.size + 1 + 1) C c ∧ BoxAt ((((w.alloc (.cells A a)).alloc (.cells B b)).alloc (.cells C c)).alloc (.cells D d)) (w.heap.size + 1 + 1 + 1) D d ∧ Ext w ((((w.alloc (.cells A a)).alloc (.cells B b)).alloc (.cells C c)).alloc (.cells D d)) := by
  obtain ⟨h1, h2, h3, h4⟩ := boxes3 w A B C a b c
  exact ⟨h1.ext ((Ext.refl _).alloc _), h2.ext ((Ext.refl _).alloc _), h3.ext ((Ext.refl _).alloc _), BoxAt.madeN D d (by rw [Deep.nblk_alloc, Deep.nblk_alloc, Deep.nblk_alloc]), h4.alloc _⟩
theorem boxes5 (w : World) (A B C D F : Array Value) (a b c d f : TypeId) :
    BoxAt (((((w.alloc (.cells A a)).alloc (.cells B b)).alloc (.cells C c)).alloc (.cells D d)).alloc (.cells F f)) w.heap.size A a ∧ BoxAt (((((w.alloc (.cells A a)).alloc (.cells B b)).alloc (.cells C c)).alloc (.cells D d)).alloc (.cells F f)) (w.heap.size + 1) B b ∧ BoxAt (((((w.alloc (.cells A a)).alloc (.cells B b)).alloc (.cells C c)).alloc (.cells D d)).alloc (.cells F f)) (w.heap.size + 1 + 1) C c ∧ BoxAt (((((w.alloc (.cells A a)).alloc (.cells B b)).alloc (.cells C c)).alloc (.cells D d)).alloc (.cells F f)) (w.heap.size + 1 + 1 + 1) D d ∧ BoxAt (((((w.alloc (.cells A a)).alloc (.cells B b)).alloc (.cells C c)).alloc (.cells D d)).alloc (.cells F f)) (w.heap.size + 1 + 1 + 1 + 1) F f ∧ Ext w (((((w.alloc (.cells A a)).alloc (.cells B b)).alloc (.cells C c)).alloc (.cells D d)).alloc (.cells F f)) := by
  obtain ⟨h1, h2, h3, h4, h5⟩ := boxes4 w A B C D a b c d
  exact ⟨h1.ext ((Ext.refl _).alloc _), h2.ext ((Ext.refl _).alloc _), h3.ext ((Ext.refl _).alloc _), h4.ext ((Ext.refl _).alloc _), BoxAt.madeN F f (by rw [Deep.nblk_alloc, Deep.nblk_alloc, Deep.nblk_alloc, Deep.nblk_alloc]), h5.alloc _⟩
theorem BoxAt.allocs {w : World} {p : Nat} {cs : Array Value} {e : TypeId} (h : BoxAt w p cs e) : ∀ o i, (w.alloc o).cell? ⟨p, i, none⟩ = cs[i]? := fun o i => (h.ext ((Ext.refl w).alloc o)).cell i
theorem BoxAt.frees {w : World} {p : Nat} {cs : Array Value} {e : TypeId} (h : BoxAt w p cs e) : ∀ o i, (w.alloc o).frozen? ⟨p, i, none⟩ = false := fun o i => (h.ext ((Ext.refl w).alloc o)).free i
theorem cell_grown {w w' : World} {g b i : Nat} {u : Value} (hg : w.grownBy w' (some g)) (hne : b ≠ g) (h : w.cell? ⟨b, i, none⟩ = some u) : w'.cell? ⟨b, i, none⟩ = some u := by
  have hl := World.block_lt_of_cell? w _ h
  have hb := hg.block b hl (fun e => hne (Option.some.inj e))
  simp only [World.cell?] at h ⊢
  rw [hb]
  exact h
theorem SliceIn.grown {w w' : World} {g b o n c : Nat} {xs : List Value} (hg : w.grownBy w' (some g)) (hne : b ≠ g) (h : SliceIn w (.slice (some ⟨b, o, none⟩) n c) n xs) : SliceIn w' (.slice (some ⟨b, o, none⟩) n c) n xs := by
  obtain ⟨a, c', e, h2, h3, h4, h6⟩ := h
  cases e
  exact ⟨_, _, rfl, h2, h3, h4, fun j u hj => let ⟨b', o', e, hc⟩ := h6 j u hj; ⟨b', o', e, by cases e; exact cell_grown hg hne hc⟩⟩

/-- A store of a whole variable: what is known of the world behind it. -/
theorem storeBox {P : Program} {ops : Array Oper} {rest : List Oper} {o : Oper} {a : Act} {w : World} {Q : Exit → Act → World → Prop} (hgd : o.guard = none) (ty : TypeId) (x y : Operand) (ho : o.op = .store ty x y)
    (g : Nat) (cells old : Array Value) (t : TypeId) (hx : a.eval x = .pointer (some ⟨g, 0, none⟩)) (hy : a.eval y = .agg cells)
    (hg : BoxAt w g old t) (hi : (P.info? ty).map (·.size) = some cells.size) (hold : old.size = cells.size) (h1 : cells.all (·.oneCell') = true)
    (hK : ∀ w', BoxAt w' g cells t → w.grownBy w' (some g) → wpList P ops Q rest (a.put o.dst undef) w') : wpList P ops Q (o :: rest) a w :=
  wpList_store_row hgd ty x y ho g cells hx hy t old hg hi hold h1 (hK _ (setRow_heap w g old cells t (0, 0) hg) ⟨rfl, rfl, rfl, by simp [World.setRow], fun k _ hne => setRow_other w g k cells (fun e => hne (by rw [e]))⟩)

/-- How many elements a slice has. -/
def lenOf : Value → Nat
  | .slice _ n _ => n
  | _ => 0
end Go.Proofs.YtimbikbbbfpeeaaGreatDoor
