/- A region whose operations may come up in any order, walked once in the order of the text: each operation yields a value of which a fact is said that stays true while memory grows; what an operation needs is what the operations that it waits for have yielded. -/
import Derived.Deep.QuietTactic
import Derived.BigQuiet
namespace Go.Proofs.YtkiodandnjbhoaaDoor
open Go

abbrev Facts := Nat → World → Prop
def Facts.upd (G : Facts) (i : Nat) (φ : World → Prop) : Facts := fun k w => G k w ∧ (k = i → φ w)
def Facts.top : Facts := fun _ _ => True

section
variable (P : Program) (ops : Array Oper) (C : World → Prop) (E : World → World → Prop) (T : Nat → Option (Value → World → Prop)) (n : Nat) (Q : Exit → Act → World → Prop)

def yUpon (R : Value → World → Prop) : Result Next → Prop
  | .ok (.value v) w' => R v w'
  | .ok .skip w' => R undef w'
  | .ok (.enter f args) w' => Calls P f args w' fun e w'' => ∃ v, e = .returned v ∧ R v w''
  | _ => False
def yields (o : Oper) (a : Act) (w : World) (R : Value → World → Prop) : Prop := yUpon P R ((execOp a.eval o).run P w)

/-- The operation n comes ahead of j: j waits for it, straight or through others (so many steps at most). -/
def ancB : Nat → Nat → Nat → Bool
  | 0, _, _ => false
  | f + 1, j, n => match ops[j]? with
    | some o => o.after.any fun e => Region.binds .any e && (e.on == n || ancB f e.on n)
    | none => false

def Live (G : Facts) : Prop := ∃ w, C w ∧ ∀ j, G j w

/-- What is owed of operation i; V: the values that it may yield, φ: what is known of them. -/
def Owes (i : Nat) (o : Oper) (a : Act) (G : Facts) (V : Value → Prop) (φ : Value → World → Prop) : Prop :=
  (Region.wanted o (yielded ops a.tmps) = false ∧ V = (· = undef) ∧ φ = fun _ _ => True) ∨
  (Region.wanted o (yielded ops a.tmps) = true ∧ ∃ need : List Nat, need.all (ancB ops 4 i) = true ∧
    ((T i = none ∧ ∃ u, (∀ w, C w → (∀ j ∈ need, G j w) → o.quietAt P a (fun _ => False) w u) ∧ V = (· = u) ∧ φ = fun _ _ => True) ∨
     (∃ Φ, T i = some Φ ∧ (∀ w, C w → (∀ j ∈ need, G j w) → yields P o a w fun u w' => C w' ∧ E w w' ∧ Φ u w') ∧ V = (fun _ => True) ∧ φ = Φ)))

def rStep (i : Nat) (o : Oper) (K : Act → Facts → Prop) (a : Act) (G : Facts) : Prop :=
  ∃ V φ, Owes P ops C E T i o a G V φ ∧ ∀ v, V v → Live C (G.upd i (φ v)) → K (a.put o.dst v) (G.upd i (φ v))

def rOp (i : Nat) (K : Act → Facts → Prop) (a : Act) (G : Facts) : Prop :=
  match ops[i]? with
  | none => K a G
  | some o => rStep P ops C E T i o K a G

def fin (a : Act) (G : Facts) : Prop := ∀ w, C w → (∀ j, G j w) → Q .normal a w

/-- What is owed of the last operations, which may write: any law. -/
def tailAny (fuel : Nat) (listed : Array Bool) (i : Nat) (a : Act) (G : Facts) : Prop := ∀ w, C w → (∀ j, G j w) → wpOp P ops Q i (wpAny P .any ops Q fuel (listed.setIfInBounds i true)) a w
def tailL (l : List Oper) (a : Act) (G : Facts) : Prop := ∀ w, C w → (∀ j, G j w) → wpList P ops Q l a w

def wpAnyR : Nat → Array Bool → Act → Facts → Prop
  | 0, listed, a, G => Region.ready .any ops listed = [] ∧ fin C Q a G
  | fuel + 1, listed, a, G =>
    (Region.ready .any ops listed = [] → fin C Q a G) ∧
    ∀ i ∈ Region.ready .any ops listed, if i = n then tailAny P ops C Q fuel listed i a G else rOp P ops C E T i (wpAnyR fuel (listed.setIfInBounds i true)) a G

/-- From n on each operation waits for all ahead of it. -/
def tailB : Bool := n ≥ ops.size || (List.range ops.size).all fun k => k < n || (List.range k).all fun i => ancB ops ops.size k i

/-- The walk in the order of the text. -/
def wpRel : List Oper → Nat → Act → Facts → Prop
  | [], _, a, G => fin C Q a G
  | o :: rest, k, a, G => if k = n then tailL P ops C Q (o :: rest) a G else rStep P ops C E T k o (wpRel rest (k + 1)) a G
end

section
variable {P : Program} {ops : Array Oper} {C : World → Prop} {E : World → World → Prop} {T : Nat → Option (Value → World → Prop)} {n : Nat} {Q : Exit → Act → World → Prop}

theorem yields_wp {o : Oper} {a : Act} {w : World} {R : Value → World → Prop} {K : Act → World → Prop} {Q' : Exit → Act → World → Prop} (h : yields P o a w R) (hK : ∀ v w', R v w' → K (a.put o.dst v) w') : o.wp P a w K Q' := by
  unfold yields at h
  unfold Oper.wp
  generalize (execOp a.eval o).run P w = r at *
  cases r with
  | ok n w' =>
    cases n <;> simp only [yUpon] at h <;> simp only [Oper.upon]
    case value => exact hK _ _ h
    case skip => exact hK _ _ h
    case enter => exact h.mono fun e w'' ⟨v, he, hv⟩ => by subst he; exact hK _ _ hv
  | halt x w' => simp only [yUpon] at h

theorem yields_some {o : Oper} {a : Act} {w : World} {R : Value → World → Prop} (h : yields P o a w R) : ∃ v w', R v w' := by
  unfold yields at h
  generalize (execOp a.eval o).run P w = r at *
  cases r with
  | ok n w' =>
    cases n <;> simp only [yUpon] at h
    case value => exact ⟨_, _, h⟩
    case skip => exact ⟨_, _, h⟩
    case enter => obtain ⟨e, w'', _, ⟨v, _, hr⟩, _⟩ := h []; exact ⟨_, _, hr⟩
  | halt x w' => simp only [yUpon] at h

theorem calls_false {f : FuncId} {args : Array Value} {w : World} {R : Ending → World → Prop} (h : Calls P f args w R) (hR : ∀ e w', R e w' → False) : False :=
  let ⟨_, _, _, hr, _⟩ := h []
  hR _ _ hr

theorem quietAt_unique {o : Oper} {a : Act} {w : World} {u v : Value} (h1 : o.quietAt P a (fun _ => False) w u) (h2 : o.quietAt P a (fun _ => False) w v) : u = v := by
  unfold Oper.quietAt at *
  generalize (execOp a.eval o).run P w = r at *
  cases r with
  | ok n w' =>
    cases n <;> simp only [Oper.quietUpon] at h1 h2
    case value => exact h1.2.symm.trans h2.2
    case skip => exact h1.2.trans h2.2.symm
    case enter f args => exact (calls_false h1.2 fun _ _ h => h.2).elim
  | halt x w' => simp only [Oper.quietUpon] at h1

theorem quietAt_wp {o : Oper} {a : Act} {w : World} {v : Value} {K : Act → World → Prop} {Q' : Exit → Act → World → Prop} (h : o.quietAt P a (fun _ => False) w v) (hK : K (a.put o.dst v) w) : o.wp P a w K Q' := by
  unfold Oper.quietAt at h
  unfold Oper.wp
  generalize (execOp a.eval o).run P w = r at *
  cases r with
  | ok n w' =>
    cases n <;> simp only [Oper.quietUpon] at h <;> simp only [Oper.upon]
    case value => obtain ⟨rfl, rfl⟩ := h; exact hK
    case skip => obtain ⟨rfl, rfl⟩ := h; exact hK
    case enter => exact (calls_false h.2 fun _ _ h => h.2).elim
  | halt x w' => simp only [Oper.quietUpon] at h

theorem wpOp_of_rOp (hT : ∀ i Φ, T i = some Φ → ∀ v w w', E w w' → Φ v w → Φ v w') {i : Nat} {K : Act → Facts → Prop} {K' : Act → World → Prop} {Q' : Exit → Act → World → Prop} {a : Act} {G : Facts} {w : World}
    (hG : ∀ j w w', E w w' → G j w → G j w') (hC : C w) (hw : ∀ j, G j w)
    (h : ∀ a' G' w', (∀ j w w', E w w' → G' j w → G' j w') → C w' → (∀ j, G' j w') → K a' G' → K' a' w') (hr : rOp P ops C E T i K a G) : wpOp P ops Q' i K' a w := by
  unfold rOp at hr
  unfold wpOp
  have stay : ∀ (φ : World → Prop), (∀ w w', E w w' → φ w → φ w') → ∀ j w w', E w w' → (G.upd i φ) j w → (G.upd i φ) j w' :=
    fun φ hφ j w w' hE hh => ⟨hG j _ _ hE hh.1, fun hji => hφ _ _ hE (hh.2 hji)⟩
  split
  · rename_i ho; simp only [ho] at hr; exact h _ _ _ hG hC hw hr
  · rename_i o ho
    simp only [ho] at hr
    obtain ⟨V, φ, hO, hn⟩ := hr
    rcases hO with ⟨hwt, rfl, rfl⟩ | ⟨hwt, need, _, hO⟩
    · rw [if_neg (by rw [hwt]; simp)]
      have hf : ∀ j, (G.upd i (fun _ => True)) j w := fun j => ⟨hw j, fun _ => trivial⟩
      exact h _ _ _ (stay _ (fun _ _ _ h => h)) hC hf (hn undef rfl ⟨w, hC, hf⟩)
    · rw [if_pos hwt]
      left
      rcases hO with ⟨_, u, hy, rfl, rfl⟩ | ⟨Φ, hTi, hy, rfl, rfl⟩
      · have hf : ∀ j, (G.upd i (fun _ => True)) j w := fun j => ⟨hw j, fun _ => trivial⟩
        exact quietAt_wp (hy w hC fun j _ => hw j) (h _ _ _ (stay _ (fun _ _ _ h => h)) hC hf (hn u rfl ⟨w, hC, hf⟩))
      · refine yields_wp (hy w hC fun j _ => hw j) fun u w' ⟨hC', hE, hΦ⟩ => ?_
        have hf : ∀ j, (G.upd i (φ u)) j w' := fun j => ⟨hG j _ _ hE (hw j), fun _ => hΦ⟩
        exact h _ _ _ (stay _ (fun w1 w2 h1 h2 => hT i φ hTi u w1 w2 h1 h2)) hC' hf (hn u trivial ⟨w', hC', hf⟩)

/-! ### Taking an operation first -/

def Down (ops : Array Oper) (listed : Array Bool) : Prop := ∀ k o, ops[k]? = some o → listed.getD k false = true → ∀ e ∈ o.after, Region.binds .any e = true → listed.getD e.on false = true

theorem anc_listed {listed : Array Bool} (hd : Down ops listed) : ∀ (f j n : Nat) (o : Oper), ops[j]? = some o → (∀ e ∈ o.after, Region.binds .any e = true → listed.getD e.on false = true) → ancB ops f j n = true → listed.getD n false = true := by
  intro f
  induction f with
  | zero => intro j n o _ _ h; simp [ancB] at h
  | succ f ih =>
    intro j n o ho hall h
    simp only [ancB, ho, Array.any_eq_true', Bool.and_eq_true, Bool.or_eq_true, beq_iff_eq] at h
    obtain ⟨e, he, hb, h⟩ := h
    rcases h with h | h
    · exact h ▸ hall e he hb
    · cases ho' : ops[e.on]? with
      | none => cases f <;> simp [ancB, ho'] at h
      | some o' => exact ih e.on n o' ho' (fun e' he' hb' => hd e.on o' ho' (hall e he hb) e' he' hb') h

theorem Down.set {listed : Array Bool} (hd : Down ops listed) {i : Nat} (hi : i ∈ Region.ready .any ops listed) : Down ops (listed.setIfInBounds i true) := by
  intro k o ho hk e he hb
  by_cases hki : k = i
  · subst hki
    obtain ⟨_, o', ho', hall⟩ := mem_ready.1 hi
    rw [ho] at ho'
    cases ho'
    exact getD_set_true (hall e he hb)
  · rw [getD_set_ne false (Ne.symm hki)] at hk
    exact getD_set_true (hd k o ho hk e he hb)

theorem tail_all {listed : Array Bool} (hd : Down ops listed) (hn : tailB ops n = true) {k : Nat} (hk : n ≤ k) (hi : k ∈ Region.ready .any ops listed) : ∀ j, j < k → listed.getD j false = true := by
  obtain ⟨_, o, ho, hall⟩ := mem_ready.1 hi
  have hlt : k < ops.size := (Array.getElem?_eq_some_iff.1 ho).1
  simp only [tailB, Bool.or_eq_true, decide_eq_true_eq, List.all_eq_true, List.mem_range] at hn
  rcases hn with hn | hA
  · omega
  · rcases hA k hlt with h | h
    · omega
    · exact fun j hj => anc_listed hd _ k j o ho hall (h j hj)

theorem listed_not_ready {listed : Array Bool} {j : Nat} (h : listed.getD j false = true) : j ∉ Region.ready .any ops listed := by
  intro hj
  have h0 := (mem_ready.1 hj).1
  rcases Nat.lt_or_ge j listed.size with h' | h'
  · simp [h'] at h0 h; rw [h0] at h; cases h
  · simp [Array.getElem?_eq_none h'] at h

/-- If the last may come up, no other may. -/
theorem tail_one {listed : Array Bool} (hd : Down ops listed) (hn : tailB ops n = true) {k : Nat} (hk : n ≤ k) (hi : k ∈ Region.ready .any ops listed) {j : Nat} (hj : j ∈ Region.ready .any ops listed) : j = k := by
  rcases Nat.lt_trichotomy j k with h | h | h
  · exact absurd hj (listed_not_ready (tail_all hd hn hk hi j h))
  · exact h
  · exact absurd hi (listed_not_ready (tail_all hd hn (by omega) hj k h))
theorem tail_alone {listed : Array Bool} (hd : Down ops listed) (hn : tailB ops n = true) (hi : n ∈ Region.ready .any ops listed) {j : Nat} (hj : j ∈ Region.ready .any ops listed) : j = n := tail_one hd hn (Nat.le_refl _) hi hj
/-- The last operations, each of which waits for all ahead of it, come up in the order of the text. -/
theorem tail_chain (hn : tailB ops n = true) : ∀ (l : List Oper) (k : Nat) (listed : Array Bool) (a : Act) (w : World), n ≤ k → Down ops listed → (∀ j, l[j]? = ops[k + j]?) → Region.lexFrom .any ops l.length k listed = true → wpList P ops Q l a w → wpAny P .any ops Q l.length listed a w
  | [], _, _, _, _, _, _, _, hB, h => ⟨by simpa [Region.lexFrom] using hB, h⟩
  | o :: l, k, listed, a, w, hk, hd, hl, hB, h => by
    have h0 : ops[k]? = some o := by simpa using (hl 0).symm
    simp only [List.length_cons, Region.lexFrom, Bool.and_eq_true] at hB
    obtain ⟨⟨hr, hf⟩, hB'⟩ := hB
    have hr' : k ∈ Region.ready .any ops listed := by simpa using hr
    refine ⟨fun h => (by rw [h] at hr'; cases hr'), fun i hi => ?_⟩
    obtain rfl := tail_one hd hn hk hr' hi
    unfold wpOp
    simp only [h0]
    unfold wpList at h
    have step : ∀ a w, wpList P ops Q l a w → wpAny P .any ops Q l.length (listed.setIfInBounds i true) a w := fun a w h =>
      tail_chain hn l (i + 1) _ a w (by omega) (hd.set hr') (fun j => by have := hl (j + 1); simpa [Nat.add_assoc, Nat.add_comm 1 j] using this) hB' h
    split at h
    · rename_i hw
      rw [if_pos hw]
      exact h.imp_left (Oper.wp_mono step)
    · rename_i hw
      rw [if_neg hw]
      exact step _ _ h

theorem wpAny_of_R (hT : ∀ i Φ, T i = some Φ → ∀ v w w', E w w' → Φ v w → Φ v w') (hn : tailB ops n = true) :
    ∀ (fuel : Nat) (listed : Array Bool) (a : Act) (G : Facts) (w : World), Down ops listed → listed.size = ops.size → (∀ j w w', E w w' → G j w → G j w') → C w → (∀ j, G j w) → wpAnyR P ops C E T n Q fuel listed a G → wpAny P .any ops Q fuel listed a w
  | 0, _, _, _, w, _, _, _, hC, hw, h => ⟨h.1, h.2 w hC hw⟩
  | fuel + 1, listed, a, _, w, hd, hsz, hG, hC, hw, h => by
    refine ⟨fun h0 => h.1 h0 w hC hw, fun i hi => ?_⟩
    have h2 := h.2 i hi
    by_cases hin : i = n
    · rw [if_pos hin] at h2
      exact h2 w hC hw
    · rw [if_neg hin] at h2
      exact wpOp_of_rOp hT hG hC hw (fun a' G' w' hG' hC' hw' hk => wpAny_of_R hT hn fuel _ a' G' w' (hd.set hi) (by simpa using hsz) hG' hC' hw' hk) h2

theorem rOp_mono {i : Nat} {a : Act} {G : Facts} {K K' : Act → Facts → Prop} (hL : Live C G) (h : ∀ a' G', Live C G' → K a' G' → K' a' G') (hr : rOp P ops C E T i K a G) : rOp P ops C E T i K' a G := by
  unfold rOp at *
  split
  · rename_i ho; simp only [ho] at hr; exact h _ _ hL hr
  · rename_i o ho
    simp only [ho] at hr
    obtain ⟨V, φ, hO, hn⟩ := hr
    exact ⟨V, φ, hO, fun v hv hl => h _ _ hl (hn v hv hl)⟩

theorem yields_put {o : Oper} (hs : ∀ cs b, o.op ≠ .select cs b) (a : Act) (dst : Option Tmp) (v : Value) (h : ∀ d, dst = some d → d ∉ o.looksAt ops) {w : World} {R : Value → World → Prop} :
    yields P o (a.put dst v) w R ↔ yields P o a w R := by
  unfold yields
  rw [execOp_put (ops := ops) o hs a dst v h]

theorem quietAt_put {o : Oper} (hs : ∀ cs b, o.op ≠ .select cs b) (a : Act) (dst : Option Tmp) (v : Value) (h : ∀ d, dst = some d → d ∉ o.looksAt ops) {w : World} {D : World → Prop} {u : Value} :
    o.quietAt P (a.put dst v) D w u ↔ o.quietAt P a D w u := by
  unfold Oper.quietAt
  rw [execOp_put (ops := ops) o hs a dst v h]

theorem upd_comm (G : Facts) (i j : Nat) (φ ψ : World → Prop) : (G.upd i φ).upd j ψ = (G.upd j ψ).upd i φ := by
  funext k w
  simp only [Facts.upd]
  exact propext ⟨fun ⟨⟨a, b⟩, c⟩ => ⟨⟨a, c⟩, b⟩, fun ⟨⟨a, b⟩, c⟩ => ⟨⟨a, c⟩, b⟩⟩

theorem Owes.fwd {i j : Nat} {o : Oper} (hs : ∀ cs b, o.op ≠ .select cs b) {a : Act} {G : Facts} {V : Value → Prop} {φ : Value → World → Prop} {dst : Option Tmp} (hd : ∀ d, dst = some d → d ∉ o.looksAt ops)
    (h : Owes P ops C E T i o a G V φ) (u : Value) (ψ : World → Prop) : Owes P ops C E T i o (a.put dst u) (G.upd j ψ) V φ := by
  have hw := wanted_put (ops := ops) o a dst u hd
  rcases h with ⟨h1, h2, h3⟩ | ⟨h1, need, hn, h⟩
  · exact .inl ⟨hw.trans h1, h2, h3⟩
  · refine .inr ⟨hw.trans h1, need, hn, ?_⟩
    rcases h with ⟨hT, x, hy, h2, h3⟩ | ⟨Φ, hT, hy, h2, h3⟩
    · exact .inl ⟨hT, x, fun w hC hf => (quietAt_put (ops := ops) hs a dst u hd).2 (hy w hC fun k hk => (hf k hk).1), h2, h3⟩
    · exact .inr ⟨Φ, hT, fun w hC hf => (yields_put (ops := ops) hs a dst u hd).2 (hy w hC fun k hk => (hf k hk).1), h2, h3⟩

theorem Owes.bwd {i j : Nat} {o : Oper} (hs : ∀ cs b, o.op ≠ .select cs b) {a : Act} {G : Facts} {V : Value → Prop} {φ : Value → World → Prop} {dst : Option Tmp} (hd : ∀ d, dst = some d → d ∉ o.looksAt ops)
    (hnot : ∀ need : List Nat, need.all (ancB ops 4 j) = true → i ∉ need) {u : Value} {ψ : World → Prop} (h : Owes P ops C E T j o (a.put dst u) (G.upd i ψ) V φ) : Owes P ops C E T j o a G V φ := by
  have hw := wanted_put (ops := ops) o a dst u hd
  have up : ∀ {need : List Nat} {w : World}, need.all (ancB ops 4 j) = true → (∀ k ∈ need, G k w) → ∀ k ∈ need, (G.upd i ψ) k w :=
    fun hn hf k hk => ⟨hf k hk, fun hki => absurd (hki ▸ hk) (hnot _ hn)⟩
  rcases h with ⟨h1, h2, h3⟩ | ⟨h1, need, hn, h⟩
  · exact .inl ⟨hw.symm.trans h1, h2, h3⟩
  · refine .inr ⟨hw.symm.trans h1, need, hn, ?_⟩
    rcases h with ⟨hT, x, hy, h2, h3⟩ | ⟨Φ, hT, hy, h2, h3⟩
    · exact .inl ⟨hT, x, fun w hC hf => (quietAt_put (ops := ops) hs a dst u hd).1 (hy w hC (up hn hf)), h2, h3⟩
    · exact .inr ⟨Φ, hT, fun w hC hf => (yields_put (ops := ops) hs a dst u hd).1 (hy w hC (up hn hf)), h2, h3⟩

theorem Owes.live {i : Nat} {o : Oper} {a : Act} {G : Facts} {V : Value → Prop} {φ : Value → World → Prop} (hG : ∀ j w w', E w w' → G j w → G j w') (hL : Live C G) (h : Owes P ops C E T i o a G V φ) : ∃ v, V v ∧ Live C (G.upd i (φ v)) := by
  obtain ⟨w, hC, hf⟩ := hL
  rcases h with ⟨_, rfl, rfl⟩ | ⟨_, need, _, h⟩
  · exact ⟨undef, rfl, w, hC, fun j => ⟨hf j, fun _ => trivial⟩⟩
  · rcases h with ⟨_, x, _, rfl, rfl⟩ | ⟨Φ, _, hy, rfl, rfl⟩
    · exact ⟨x, rfl, w, hC, fun j => ⟨hf j, fun _ => trivial⟩⟩
    · obtain ⟨v, w', hC', hE, hΦ⟩ := yields_some (hy w hC fun k _ => hf k)
      exact ⟨v, trivial, w', hC', fun j => ⟨hG j _ _ hE (hf j), fun _ => hΦ⟩⟩

theorem Owes.unique {i : Nat} {o : Oper} {a : Act} {G : Facts} {V V' : Value → Prop} {φ φ' : Value → World → Prop} (hL : Live C G) (h : Owes P ops C E T i o a G V φ) (h' : Owes P ops C E T i o a G V' φ') : V = V' ∧ φ = φ' := by
  obtain ⟨w, hC, hf⟩ := hL
  rcases h with ⟨hw, rfl, rfl⟩ | ⟨hw, need, _, h⟩ <;> rcases h' with ⟨hw', rfl, rfl⟩ | ⟨hw', need', _, h'⟩
  · exact ⟨rfl, rfl⟩
  · rw [hw] at hw'; cases hw'
  · rw [hw] at hw'; cases hw'
  · rcases h with ⟨hT, x, hy, rfl, rfl⟩ | ⟨Φ, hT, hy, rfl, rfl⟩ <;> rcases h' with ⟨hT', x', hy', rfl, rfl⟩ | ⟨Φ', hT', hy', rfl, rfl⟩
    · have := quietAt_unique (hy w hC fun k _ => hf k) (hy' w hC fun k _ => hf k)
      subst this
      exact ⟨rfl, rfl⟩
    · rw [hT] at hT'; cases hT'
    · rw [hT] at hT'; cases hT'
    · rw [hT] at hT'; cases hT'; exact ⟨rfl, rfl⟩

/-- Two operations that may both come up now and are apart change places. -/
theorem rOp_swap {i j : Nat} {oi oj : Oper} {listed : Array Bool} (hd : Down ops listed) (hri : i ∈ Region.ready .any ops listed) (hrj : j ∈ Region.ready .any ops listed)
    (hi : ops[i]? = some oi) (hj : ops[j]? = some oj) (hap : oi.apart ops oj = true)
    (hsi : ∀ cs b, oi.op ≠ .select cs b) (hsj : ∀ cs b, oj.op ≠ .select cs b) {K : Act → Facts → Prop} {a : Act} {G : Facts} (hG : ∀ j w w', E w w' → G j w → G j w') (hL : Live C G)
    (h : rOp P ops C E T i (fun a' G' => rOp P ops C E T j K a' G') a G) : rOp P ops C E T j (fun a' G' => rOp P ops C E T i K a' G') a G := by
  obtain ⟨h1, h2, h3⟩ := Oper.apart_spec hap
  obtain ⟨hiun, oi', hoi', _⟩ := mem_ready.1 hri
  obtain ⟨_, oj', hoj', hallj⟩ := mem_ready.1 hrj
  rw [hi] at hoi'; cases hoi'
  rw [hj] at hoj'; cases hoj'
  have notIn : ∀ need : List Nat, need.all (ancB ops 4 j) = true → i ∉ need := by
    intro need hn hmem
    have := anc_listed hd 4 j i oj hj hallj (List.all_eq_true.1 hn i hmem)
    rcases Nat.lt_or_ge i listed.size with h' | h'
    · simp [h'] at hiun this; rw [hiun] at this; cases this
    · simp [Array.getElem?_eq_none h'] at this
  unfold rOp at h ⊢
  simp only [hi, hj] at h ⊢
  obtain ⟨Vi, φi, hOi, hi'⟩ := h
  obtain ⟨v0, hv0, hl0⟩ := hOi.live hG hL
  obtain ⟨Vj, φj, hOj, _⟩ := hi' v0 hv0 hl0
  have hOj := Owes.bwd hsj h1 notIn hOj
  refine ⟨Vj, φj, hOj, fun u hu _ => ⟨Vi, φi, Owes.fwd hsi h3 hOi u _, fun v hv hlv => ?_⟩⟩
  rw [upd_comm] at hlv ⊢
  have hlv' : Live C (G.upd i (φi v)) := let ⟨w, hC, hf⟩ := hlv; ⟨w, hC, fun k => (hf k).1⟩
  obtain ⟨Vj', φj', hOj', hk⟩ := hi' v hv hlv'
  obtain ⟨rfl, rfl⟩ := hOj.unique hL (Owes.bwd hsj h1 notIn hOj')
  rw [← Act.put_comm a v u h2]
  exact hk u hu hlv

theorem rOp_stay {i : Nat} {a : Act} {G : Facts} {K : Act → Facts → Prop} (hT : ∀ i Φ, T i = some Φ → ∀ v w w', E w w' → Φ v w → Φ v w') (hG : ∀ j w w', E w w' → G j w → G j w')
    (hr : rOp P ops C E T i K a G) : rOp P ops C E T i (fun a' G' => (∀ j w w', E w w' → G' j w → G' j w') ∧ K a' G') a G := by
  unfold rOp at *
  split
  · rename_i ho; simp only [ho] at hr; exact ⟨hG, hr⟩
  · rename_i o ho
    simp only [ho] at hr
    obtain ⟨V, φ, hO, hn⟩ := hr
    refine ⟨V, φ, hO, fun v hv hl => ⟨?_, hn v hv hl⟩⟩
    have stay : ∀ (ψ : World → Prop), (∀ w w', E w w' → ψ w → ψ w') → ∀ j w w', E w w' → (G.upd i ψ) j w → (G.upd i ψ) j w' :=
      fun ψ hψ j w w' hE hh => ⟨hG j _ _ hE hh.1, fun hji => hψ _ _ hE (hh.2 hji)⟩
    rcases hO with ⟨_, rfl, rfl⟩ | ⟨_, need, _, hO⟩
    · exact stay _ (fun _ _ _ h => h)
    · rcases hO with ⟨_, x, _, rfl, rfl⟩ | ⟨Φ, hTi, _, rfl, rfl⟩
      · exact stay _ (fun _ _ _ h => h)
      · exact stay _ (fun w w' h1 h2 => hT i _ hTi v w w' h1 h2)

theorem wpAnyR_first (hT : ∀ i Φ, T i = some Φ → ∀ v w w', E w w' → Φ v w → Φ v w') (hn : tailB ops n = true) {i : Nat} {oi : Oper} (hi : ops[i]? = some oi) (hsel : ∀ (j : Nat) (o : Oper) cs b, ops[j]? = some o → o.op ≠ .select cs b) :
    ∀ (fuel : Nat) (listed : Array Bool) (a : Act) (G : Facts), Down ops listed → (∀ j w w', E w w' → G j w → G j w') → Live C G →
      (∀ j oj, ops[j]? = some oj → j ≠ i → listed.getD j true = false → (∀ e ∈ oj.after, Region.binds .any e = true → e.on ≠ i) → oi.apart ops oj = true) →
      i ∈ Region.ready .any ops listed →
      (if i = n then tailAny P ops C Q fuel listed i a G else rOp P ops C E T i (wpAnyR P ops C E T n Q fuel (listed.setIfInBounds i true)) a G) → wpAnyR P ops C E T n Q (fuel + 1) listed a G := by
  intro fuel
  induction fuel with
  | zero =>
    intro listed a G hd hG hL _ hr H
    refine ⟨fun h => (by rw [h] at hr; cases hr), fun j hj => ?_⟩
    by_cases hji : j = i
    · subst hji; exact H
    · exfalso
      have hin : i ≠ n := fun h => by subst h; exact hji (tail_alone hd hn hr hj)
      rw [if_neg hin] at H
      have hrj := ready_mono hj hji
      unfold rOp at H
      simp only [hi] at H
      obtain ⟨V, φ, hO, hn⟩ := H
      obtain ⟨v, hv, hl⟩ := hO.live hG hL
      have := (hn v hv hl).1
      rw [this] at hrj
      cases hrj
  | succ fuel ih =>
    intro listed a G hd hG hL hfree hr H
    refine ⟨fun h => (by rw [h] at hr; cases hr), fun j hj => ?_⟩
    by_cases hji : j = i
    · subst hji; exact H
    · have hin : i ≠ n := fun h => by subst h; exact hji (tail_alone hd hn hr hj)
      have hjn : j ≠ n := fun h => by subst h; exact hji (tail_alone hd hn hj hr).symm
      rw [if_neg hin] at H
      rw [if_neg hjn]
      obtain ⟨hjun, oj, hoj, hall⟩ := mem_ready.1 hj
      have hnot : ∀ e ∈ oj.after, Region.binds .any e = true → e.on ≠ i := fun e he hb heq => by
        have h1 := hall e he hb
        have h0 := (mem_ready.1 hr).1
        rw [heq] at h1
        rcases Nat.lt_or_ge i listed.size with h' | h'
        · simp [h'] at h0 h1; rw [h0] at h1; cases h1
        · simp [Array.getElem?_eq_none h'] at h1
      have hfree' : ∀ k ok, ops[k]? = some ok → k ≠ i → (listed.setIfInBounds j true).getD k true = false →
          (∀ e ∈ ok.after, Region.binds .any e = true → e.on ≠ i) → oi.apart ops ok = true := fun k ok hk hki hun hno => by
        refine hfree k ok hk hki ?_ hno
        by_cases hjk : j = k
        · subst hjk; exact hjun
        · rw [getD_set_ne true hjk] at hun; exact hun
      have H2 : rOp P ops C E T i (fun a' G' => rOp P ops C E T j (wpAnyR P ops C E T n Q fuel ((listed.setIfInBounds i true).setIfInBounds j true)) a' G') a G :=
        rOp_mono hL (fun a' G' _ hk => by have := hk.2 j (ready_mono hj hji); rwa [if_neg hjn] at this) H
      have H3 := rOp_swap hd hr hj hi hoj (hfree j oj hoj hji hjun hnot) (fun cs b => hsel i oi cs b hi) (fun cs b => hsel j oj cs b hoj) hG hL H2
      refine rOp_mono hL (fun a' G' hL' h3 => ih (listed.setIfInBounds j true) a' G' (hd.set hj) h3.1 hL' hfree' (ready_mono hr (Ne.symm hji)) ?_) (rOp_stay hT hG H3)
      rw [if_neg hin]
      rw [Array.setIfInBounds_comm _ _ (Ne.symm hji)] at *
      exact h3.2

theorem wpAnyR_lex (hT : ∀ i Φ, T i = some Φ → ∀ v w w', E w w' → Φ v w → Φ v w') (hn : tailB ops n = true) (hs : Region.noSelect ops = true) : ∀ (l : List Oper) (k : Nat) (listed : Array Bool) (a : Act) (G : Facts), Down ops listed → (∀ j w w', E w w' → G j w → G j w') → Live C G →
    (∀ j, l[j]? = ops[k + j]?) → Region.lexFrom .any ops l.length k listed = true → wpRel P ops C E T n Q l k a G → wpAnyR P ops C E T n Q l.length listed a G
  | [], _, _, _, _, _, _, _, _, hB, h => ⟨by simpa [Region.lexFrom] using hB, h⟩
  | o :: l, k, listed, a, G, hd, hG, hL, hl, hB, h => by
    have h0 : ops[k]? = some o := by simpa using (hl 0).symm
    simp only [List.length_cons, Region.lexFrom, Bool.and_eq_true] at hB
    obtain ⟨⟨hr, hf⟩, hB'⟩ := hB
    have hr' : k ∈ Region.ready .any ops listed := by simpa using hr
    refine wpAnyR_first hT hn h0 (Region.noSelect_spec hs) l.length listed a G hd hG hL (Region.free_spec h0 hf) hr' ?_
    simp only [wpRel] at h
    by_cases hkn : k = n
    · rw [if_pos hkn] at h ⊢
      intro w hC hw
      have hch := tail_chain (P := P) (Q := Q) hn (o :: l) k listed a w (by omega) hd hl (by simp only [List.length_cons, Region.lexFrom, Bool.and_eq_true]; exact ⟨⟨hr, hf⟩, hB'⟩) (h w hC hw)
      exact hch.2 k hr'
    · rw [if_neg hkn] at h ⊢
      have hst : rOp P ops C E T k (wpRel P ops C E T n Q l (k + 1)) a G := by unfold rOp; simp only [h0]; exact h
      exact rOp_mono hL (fun a' G' hL' h' => wpAnyR_lex hT hn hs l (k + 1) _ a' G' (hd.set hr') h'.1 hL' (fun j => by have := hl (j + 1); simpa [Nat.add_assoc, Nat.add_comm 1 j] using this) hB' h'.2) (rOp_stay hT hG hst)

/-- **A region that draws its order, walked once.** n: the number of its last operation, if that one is taken by a law of its own; else any number from the region's size on. -/
theorem wp_region_rel (C : World → Prop) (E : World → World → Prop) (T : Nat → Option (Value → World → Prop)) (hT : ∀ i Φ, T i = some Φ → ∀ v w w', E w w' → Φ v w → Φ v w')
    {id : Nat} {Q : Exit → Act → World → Prop} {a : Act} {w : World} {l : List Oper} (n : Nat) (hn : tailB l.toArray n = true) (hm : P.follows .mixedOrders = true) (hB : Region.lexB .any l.toArray = true) (hC : C w.drew)
    (h : wpRel P l.toArray C E T n Q l 0 a Facts.top) : (Code.region id l.toArray true).wp P Q a w := by
  simp only [Region.lexB, Bool.and_eq_true] at hB
  have hG : ∀ (j : Nat) (w w' : World), E w w' → Facts.top j w → Facts.top j w' := fun _ _ _ _ h => h
  have hd : Down l.toArray (Array.replicate l.toArray.size false) := by
    intro k o _ hk
    simp only [Array.getD, Array.size_replicate] at hk
    split at hk
    · simp at hk
    · cases hk
  refine wp_region_any hm (wpAny_of_R hT hn _ _ _ Facts.top _ hd (by simp) hG hC (fun _ => trivial) ?_)
  have := wpAnyR_lex (C := C) hT hn hB.1 l 0 (Array.replicate l.toArray.size false) a Facts.top hd hG ⟨_, hC, fun _ => trivial⟩ (by simp) (by simpa using hB.2) h
  simpa using this
end
end Go.Proofs.YtkiodandnjbhoaaDoor
