/- A text of so many noughts: make, convert. -/
import Derived.Test.YtmjhdfifbjdgpaaDoorT1
import Derived.Test.YtmjhdfifbjdgpaaDoorT3
import Derived.Test.YtmjhdfifbjdgpaaDoorT6
import Derived.Laws.Entries
import Derived.Laws.OwnMore
set_option linter.unusedSimpArgs false
set_option linter.unusedVariables false
namespace Go.Proofs.YtmjhdfifbjdgpaaDoor
open Go Go.RowKit

theorem info_b8z : Tryd.prog.info? 5 = some (Tryd.prog.info? 5).get! ∧ (Tryd.prog.info? 5).get!.zero = some (.int .u8 0) ∧ (Tryd.prog.info? 5).get!.size = 1 ∧ (Tryd.prog.info? 5).get!.bytes = 1 := ⟨by kernel_rfl, by kernel_rfl, by kernel_rfl, by kernel_rfl⟩
theorem made_zeros (N : Nat) : (madeCells (Value.int .u8 0).cells (N * 1)).toList = bcells (List.replicate N 0) := by
  apply List.ext_getElem?
  intro j
  simp only [madeCells, Nat.mul_one, bcells]
  by_cases hj : j < N
  · simp [hj, Value.cells, Nat.mod_one]
  · rw [List.getElem?_eq_none (by simp; omega), List.getElem?_eq_none (by simp; omega)]
/-- 'make([]byte, N)'. -/
theorem run_zeros (w : World) (N : Nat) (hN : N ≤ 16777216) : ∃ w', (Instr.makeSlice 35 (.int .i64 (N : Int)) (.int .i64 (N : Int))).run Tryd.prog w = .ok (.slice (some ⟨w.heap.size, 0, none⟩) N N) w' ∧
    w'.ownsRow w.heap.size 5 1 (.slice (some ⟨w.heap.size, 0, none⟩) N N) N (bcells (List.replicate N 0)) ∧ w.grownBy w' none := by
  obtain ⟨w4, he, hown, hg⟩ := run_makeSlice_full w w.heap.size 35 5 _ _ 1 und_bytes info_b8z.1 info_b8z.2.1 info_b8z.2.2.1 .i64 .i64 N (by omega) (by rw [info_b8z.2.2.2]; omega) (by unfold maxLen; omega) (Nat.le_refl _)
  rw [made_zeros] at hown
  exact ⟨w4, he, hown, hg⟩
/-- The same, and the text that it is: facts for the walk. -/
theorem run_zero_text (w : World) (N : Nat) (hN : N ≤ 16777216) : ∃ w', (Instr.makeSlice 35 (.int .i64 (N : Int)) (.int .i64 (N : Int))).run Tryd.prog w = .ok (.slice (some ⟨w.heap.size, 0, none⟩) N N) w' ∧
    (convert 35 9 (.slice (some ⟨w.heap.size, 0, none⟩) N N)).run Tryd.prog w' = .ok (.string (str (List.replicate N 0))) w' ∧ Ext w w' := by
  obtain ⟨w4, he, hown, hg⟩ := run_zeros w N hN
  refine ⟨w4, he, ?_, (Ext.refl w).grown hg nofun⟩
  refine run_convert_bytesIn _ 35 9 5 und_bytes und_u8 und_string ?_
  have := SliceIn.of_owns hown
  unfold BytesIn
  rw [List.length_replicate]
  exact this
section
variable {ops : Array Oper} {Q : Exit → Act → World → Prop} {a : Act} {w : World} {rest : List Oper} {o : Oper}
theorem yields_zeros (x y : Operand) (hop : o.op = Op.makeSlice 35 x y) {N : Nat} (hx : a.eval x = .int .i64 (N : Int)) (hy : a.eval y = .int .i64 (N : Int)) (hN : N ≤ 16777216) {R : Value → World → Prop}
    (hR : ∀ v' w', OwnB w' w.heap.size v' (List.replicate N 0) → Ext w w' → R v' w') : yields Tryd.prog o a w R := by
  obtain ⟨w', he, hown, hg⟩ := run_zeros w N hN
  unfold yields execOp
  simp only [hop, hx, hy, Sem.run_bind, he, Result.andThen_ok, Sem.run_pure]
  exact hR _ w' (by unfold OwnB; rw [List.length_replicate]; exact hown) ((Ext.refl w).grown hg nofun)
theorem wpList_zeros (hw : Region.wanted o (yielded ops a.tmps) = true) (x y : Operand) (hop : o.op = Op.makeSlice 35 x y) {N : Nat} (hx : a.eval x = .int .i64 (N : Int)) (hy : a.eval y = .int .i64 (N : Int)) (hN : N ≤ 16777216)
    (hK : ∀ v' w', OwnB w' w.heap.size v' (List.replicate N 0) → Ext w w' → wpList Tryd.prog ops Q rest (a.put o.dst v') w') : wpList Tryd.prog ops Q (o :: rest) a w := by
  unfold wpList
  rw [if_pos hw]
  exact .inl (yields_wp (yields_zeros (R := fun v w' => wpList Tryd.prog ops Q rest (a.put o.dst v) w') x y hop hx hy hN hK) fun v w' h => h)
end
end Go.Proofs.YtmjhdfifbjdgpaaDoor

/- Blocks that stay while one turns; rows of one element (as in LawPackRefuses: do not import both). -/
namespace Go.Proofs.YtmjhdfifbjdgpaaDoor
open Go Go.RowKit

theorem name_T : nameB ⟨#[84]⟩ = false := by decide
theorem name_t : nameB ⟨#[116]⟩ = true := by decide
theorem mus_one {w : World} {b : Nat} {t k : ByteArray} {g : Int} {e : TypeId} (h : BoxAt w b #[.string t, .string k, .int .i64 g, .slice none 0 0] e) : MusIn w (.slice (some ⟨b, 0, none⟩) 1 1) [⟨t, k, g⟩] :=
  ⟨_, _, rfl, Nat.le_refl _, by unfold maxLen; simp, nofun, fun j u hj => ⟨b, 0, rfl, by rw [Nat.zero_add, h.cell j]; simpa [Mu.cells] using hj⟩⟩
/-- All blocks but one stay. -/
structure Touch9 (w w' : World) (q : Nat) : Prop where
  os : w'.os = w.os
  tape : w'.tape = w.tape
  output : w'.output = w.output
  size : w.heap.size ≤ w'.heap.size
  block : ∀ k, k < w.heap.size → k ≠ q → w'.heap[k]? = w.heap[k]?
theorem Touch9.set (w : World) {q : Nat} (i : Nat) (u : Value) : Touch9 w (w.setCell ⟨q, i, none⟩ u) q := ⟨rfl, rfl, rfl, by rw [Deep.nblk_setCell]; exact Nat.le_refl _, fun k _ hn => heap_setCell_other _ _ _ _ hn⟩
theorem Touch9.more {w a b : World} {q : Nat} (h : Touch9 w a q) (hE : Ext a b) : Touch9 w b q := ⟨hE.os.trans h.os, hE.tape.trans h.tape, hE.output.trans h.output, Nat.le_trans h.size hE.size, fun k hk hn => (hE.block k (Nat.lt_of_lt_of_le hk h.size)).trans (h.block k hk hn)⟩
theorem Touch9.grown {w a b : World} {q : Nat} {r : Option Nat} (h : Touch9 w a q) (hg : a.grownBy b r) (hr : ∀ k, r = some k → w.heap.size ≤ k) : Touch9 w b q := ⟨hg.os.trans h.os, hg.tape.trans h.tape, hg.output.trans h.output, Nat.le_trans h.size hg.size, fun k hk hn => (hg.block k (Nat.lt_of_lt_of_le hk h.size) (fun e => by have := hr k e.symm; omega)).trans (h.block k hk hn)⟩
theorem Touch9.put {w a : World} {q : Nat} (h : Touch9 w a q) (i : Nat) (u : Value) : Touch9 w (a.setCell ⟨q, i, none⟩ u) q := ⟨h.os, h.tape, h.output, by rw [Deep.nblk_setCell]; exact h.size, fun k hk hn => (heap_setCell_other _ _ _ _ hn).trans (h.block k hk hn)⟩
theorem Touch9.slice {w a : World} {q : Nat} (h : Touch9 w a q) {v : Value} {n : Nat} {xs : List Value} (hs : SliceIn w v n xs) (hv : ∀ b o k c, v = .slice (some ⟨b, o, none⟩) k c → b ≠ q) : SliceIn a v n xs := by
  obtain ⟨ad, c, rfl, hc, hcm, ha, hcell⟩ := hs
  refine ⟨ad, c, rfl, hc, hcm, ha, fun j x hj => ?_⟩
  obtain ⟨b, o, rfl, hx⟩ := hcell j x hj
  have hne := hv b o n c rfl
  have hl := World.block_lt_of_cell? w _ hx
  refine ⟨b, o, rfl, ?_⟩
  rw [World.cell?_of_block (w := w) (h.block b hl hne)]
  exact hx
theorem Touch9.box {w a : World} {q p : Nat} (h : Touch9 w a q) {cs : Array Value} {e : TypeId} (hb : BoxAt w p cs e) (hp : p ≠ q) : BoxAt a p cs e := by
  have hl := hb.lt
  unfold BoxAt at *
  rw [h.block p hl hp]; exact hb
theorem Touch9.ext {w0 w a : World} {q : Nat} (h : Touch9 w a q) (hE : Ext w0 w) (hq : w0.heap.size ≤ q) : Ext w0 a := ⟨h.os.trans hE.os, h.tape.trans hE.tape, h.output.trans hE.output, Nat.le_trans hE.size h.size, fun k hk => (h.block k (Nat.lt_of_lt_of_le hk hE.size) (by omega)).trans (hE.block k hk)⟩
theorem Touch9.put2 {w a : World} {q p : Nat} (h : Touch9 w a q) (hp : w.heap.size ≤ p) (i : Nat) (u : Value) : Touch9 w (a.setCell ⟨p, i, none⟩ u) q := ⟨h.os, h.tape, h.output, by rw [Deep.nblk_setCell]; exact h.size, fun k hk hn => (heap_setCell_other _ _ _ _ (by show k ≠ p; omega)).trans (h.block k hk hn)⟩
theorem slice_off {w : World} {q i : Nat} {u v : Value} {n : Nat} {xs : List Value} (h : SliceIn w v n xs) (hv : ∀ b o k c, v = .slice (some ⟨b, o, none⟩) k c → b ≠ q) : SliceIn (w.setCell ⟨q, i, none⟩ u) v n xs := by
  obtain ⟨a, c, rfl, hc, hcm, ha, hcell⟩ := h
  refine ⟨a, c, rfl, hc, hcm, ha, fun j x hj => ?_⟩
  obtain ⟨b, o, rfl, hx⟩ := hcell j x hj
  have hne := hv b o n c rfl
  refine ⟨b, o, rfl, ?_⟩
  rw [World.cell?_of_block (w := w) (heap_setCell_other _ _ _ _ hne)]
  exact hx
theorem mu_ok {t k : ByteArray} {g : Int} (h1 : t.size ≤ 100) (h2 : k.size ≤ 100) (h3 : g ≤ 1099511627776) : ∀ x ∈ [(⟨t, k, g⟩ : Mu)], x.table.size ≤ 100 ∧ x.key.size ≤ 100 ∧ x.gone ≤ 1099511627776 := by
  intro x hx
  rw [List.mem_singleton.1 hx]
  exact ⟨h1, h2, h3⟩
theorem off_blk {b0 q : Nat} (h : b0 ≠ q) (n0 c0 : Nat) : ∀ b o k c, (.slice (some ⟨b0, 0, none⟩) n0 c0 : Value) = .slice (some ⟨b, o, none⟩) k c → b ≠ q := by
  intro b o k c e
  cases e
  exact h

theorem info_st : Tryd.prog.info? 9 = some (Tryd.prog.info? 9).get! ∧ (Tryd.prog.info? 9).get!.zero = some (.string ⟨#[]⟩) ∧ (Tryd.prog.info? 9).get!.size = 1 ∧ (Tryd.prog.info? 9).get!.bytes = 16 := ⟨by kernel_rfl, by kernel_rfl, by kernel_rfl, by kernel_rfl⟩
theorem info_st2 : (Tryd.prog.info? 9).map (fun i => (i.zero, i.size, i.bytes)) = some (some (.string ⟨#[]⟩), 1, 16) := by kernel_rfl
theorem und_sts : Tryd.prog.underlying 64 = some (.slice 9) := by kernel_rfl
theorem made_sts (N : Nat) : (madeCells (Value.string ⟨#[]⟩).cells (N * 1)).toList = (List.replicate N (⟨#[]⟩ : ByteArray)).map Value.string := by
  apply List.ext_getElem?
  intro j
  simp only [madeCells, Nat.mul_one]
  by_cases hj : j < N
  · simp [hj, Value.cells, Nat.mod_one]
  · rw [List.getElem?_eq_none (by simp; omega), List.getElem?_eq_none (by simp; omega)]
theorem run_sts0 (w : World) (N : Nat) (hN : N ≤ 100000) : ∃ w', (Instr.makeSlice 64 (.int .i64 (N : Int)) (.int .i64 (N : Int))).run Tryd.prog w = .ok (.slice (some ⟨w.heap.size, 0, none⟩) N N) w' ∧
    TxIn w' (.slice (some ⟨w.heap.size, 0, none⟩) N N) (List.replicate N ⟨#[]⟩) ∧ Ext w w' := by
  obtain ⟨w4, he, hown, hg⟩ := run_makeSlice_full w w.heap.size 64 9 _ _ 1 und_sts info_st.1 info_st.2.1 info_st.2.2.1 .i64 .i64 N (by omega) (by rw [info_st.2.2.2]; omega) (by unfold maxLen; omega) (Nat.le_refl _)
  rw [made_sts] at hown
  have h := SliceIn.of_owns hown
  exact ⟨w4, he, by unfold TxIn; rw [List.length_replicate]; exact h, (Ext.refl w).grown hg nofun⟩
end Go.Proofs.YtmjhdfifbjdgpaaDoor

/- As XRegion, where an operation may also turn memory that other operations do not look at: each operation has its own relation between the worlds ahead of it and behind it; what is known of a value stays under the relations of the other operations. -/
namespace Go.Proofs.YtmjhdfifbjdgpaaDoor
open Go

def Fresh (G : Facts) (j : Nat) : Prop := ∀ w, G j w
/-- The values that an operation looks at. -/
def look (o : Oper) (a : Act) : List Value := o.op.operands.toList.map a.eval
theorem look_put {ops : Array Oper} (o : Oper) (a : Act) (dst : Option Tmp) (v : Value) (h : ∀ d, dst = some d → d ∉ o.looksAt ops) : look o (a.put dst v) = look o a := by
  unfold look
  refine List.map_congr_left fun x hx => Act.eval_put fun d hd hxd => h d hd ?_
  subst hxd
  exact List.mem_append_left _ (List.mem_filterMap.2 ⟨.tmp d, hx, rfl⟩)
section
variable (P : Program) (ops : Array Oper) (C : World → Prop) (E : Nat → World → World → Prop) (T : Nat → Option (List Value → Value → World → Prop)) (n : Nat) (Q : Exit → Act → World → Prop)
/-- What is owed of operation i; V: the values that it may yield, φ: what is known of them. -/
def OwesE (i : Nat) (o : Oper) (a : Act) (G : Facts) (V : Value → Prop) (φ : Value → World → Prop) : Prop :=
  (Region.wanted o (yielded ops a.tmps) = false ∧ V = (· = undef) ∧ φ = fun _ _ => True) ∨
  (Region.wanted o (yielded ops a.tmps) = true ∧ ∃ need : List Nat, need.all (ancB ops 4 i) = true ∧
    ((T i = none ∧ ∃ u, (∀ w, C w → (∀ j ∈ need, G j w) → o.quietAt P a (fun _ => False) w u) ∧ V = (· = u) ∧ φ = fun _ _ => True) ∨
     (∃ Φ, T i = some Φ ∧ (∀ w, C w → (∀ j ∈ need, G j w) → yields P o a w fun u w' => C w' ∧ E i w w' ∧ Φ (look o a) u w') ∧ V = (fun _ => True) ∧ φ = Φ (look o a))))

def rStepE (i : Nat) (o : Oper) (K : Act → Facts → Prop) (a : Act) (G : Facts) : Prop :=
  ∃ V φ, OwesE P ops C E T i o a G V φ ∧ ∀ v, V v → Live C (G.upd i (φ v)) → K (a.put o.dst v) (G.upd i (φ v))

def rOpE (i : Nat) (K : Act → Facts → Prop) (a : Act) (G : Facts) : Prop :=
  match ops[i]? with
  | none => K a G
  | some o => rStepE P ops C E T i o K a G

def wpAnyRE : Nat → Array Bool → Act → Facts → Prop
  | 0, listed, a, G => Region.ready .any ops listed = [] ∧ fin C Q a G
  | fuel + 1, listed, a, G =>
    (Region.ready .any ops listed = [] → fin C Q a G) ∧
    ∀ i ∈ Region.ready .any ops listed, if i = n then tailAny P ops C Q fuel listed i a G else rOpE P ops C E T i (wpAnyRE fuel (listed.setIfInBounds i true)) a G

/-- The walk in the order of the text. -/
def wpRelE : List Oper → Nat → Act → Facts → Prop
  | [], _, a, G => fin C Q a G
  | o :: rest, k, a, G => if k = n then tailL P ops C Q (o :: rest) a G else rStepE P ops C E T k o (wpRelE rest (k + 1)) a G
end

section
variable {P : Program} {ops : Array Oper} {C : World → Prop} {E : Nat → World → World → Prop} {T : Nat → Option (List Value → Value → World → Prop)} {n : Nat} {Q : Exit → Act → World → Prop}

theorem wpOp_of_rOpE (hT : ∀ i Φ, T i = some Φ → ∀ A k v w w', k ≠ i → E k w w' → Φ A v w → Φ A v w') {i : Nat} {K : Act → Facts → Prop} {K' : Act → World → Prop} {Q' : Exit → Act → World → Prop} {a : Act} {G : Facts} {w : World}
    (hG : ∀ j k w w', j ≠ k → E k w w' → G j w → G j w') (hC : C w) (hw : ∀ j, G j w) (hfi : Fresh G i)
    (h : ∀ a' G' w', (∀ j k w w', j ≠ k → E k w w' → G' j w → G' j w') → (∀ j, j ≠ i → Fresh G j → Fresh G' j) → C w' → (∀ j, G' j w') → K a' G' → K' a' w') (hr : rOpE P ops C E T i K a G) : wpOp P ops Q' i K' a w := by
  unfold rOpE at hr
  unfold wpOp
  have stay : ∀ (φ : World → Prop), (∀ k w w', k ≠ i → E k w w' → φ w → φ w') → ∀ j k w w', j ≠ k → E k w w' → (G.upd i φ) j w → (G.upd i φ) j w' :=
    fun φ hφ j k w w' hne hE hh => ⟨hG j k _ _ hne hE hh.1, fun hji => hφ k _ _ (fun e => hne (hji.trans e.symm)) hE (hh.2 hji)⟩
  have fresh : ∀ (φ : World → Prop), ∀ j, j ≠ i → Fresh G j → Fresh (G.upd i φ) j := fun φ j hne hf w => ⟨hf w, fun e => absurd e hne⟩
  split
  · rename_i ho; simp only [ho] at hr; exact h _ _ _ hG (fun _ _ hf => hf) hC hw hr
  · rename_i o ho
    simp only [ho] at hr
    obtain ⟨V, φ, hO, hn⟩ := hr
    rcases hO with ⟨hwt, rfl, rfl⟩ | ⟨hwt, need, _, hO⟩
    · rw [if_neg (by rw [hwt]; simp)]
      have hf : ∀ j, (G.upd i (fun _ => True)) j w := fun j => ⟨hw j, fun _ => trivial⟩
      exact h _ _ _ (stay _ (fun _ _ _ _ _ h => h)) (fresh _) hC hf (hn undef rfl ⟨w, hC, hf⟩)
    · rw [if_pos hwt]
      left
      rcases hO with ⟨_, u, hy, rfl, rfl⟩ | ⟨Φ, hTi, hy, rfl, rfl⟩
      · have hf : ∀ j, (G.upd i (fun _ => True)) j w := fun j => ⟨hw j, fun _ => trivial⟩
        exact quietAt_wp (hy w hC fun j _ => hw j) (h _ _ _ (stay _ (fun _ _ _ _ _ h => h)) (fresh _) hC hf (hn u rfl ⟨w, hC, hf⟩))
      · refine yields_wp (hy w hC fun j _ => hw j) fun u w' ⟨hC', hE, hΦ⟩ => ?_
        have hf : ∀ j, (G.upd i (Φ (look o a) u)) j w' := fun j => ⟨if e : j = i then e ▸ hfi w' else hG j i _ _ e hE (hw j), fun _ => hΦ⟩
        exact h _ _ _ (stay _ (fun k w1 w2 hne h1 h2 => hT i Φ hTi _ k u w1 w2 hne h1 h2)) (fresh _) hC' hf (hn u trivial ⟨w', hC', hf⟩)

theorem unl_set {listed : Array Bool} {i j : Nat} (h : (listed.setIfInBounds i true).getD j true = false) : j ≠ i ∧ listed.getD j true = false := by
  by_cases e : i = j
  · subst e
    exfalso
    rcases Nat.lt_or_ge i listed.size with h' | h'
    · simp [h'] at h
    · simp at h; try omega
  · rw [getD_set_ne true e] at h
    exact ⟨fun h => e h.symm, h⟩
theorem wpAny_of_RE (hT : ∀ i Φ, T i = some Φ → ∀ A k v w w', k ≠ i → E k w w' → Φ A v w → Φ A v w') (hn : tailB ops n = true) :
    ∀ (fuel : Nat) (listed : Array Bool) (a : Act) (G : Facts) (w : World), Down ops listed → listed.size = ops.size → (∀ j k w w', j ≠ k → E k w w' → G j w → G j w') → (∀ j, listed.getD j true = false → Fresh G j) → C w → (∀ j, G j w) → wpAnyRE P ops C E T n Q fuel listed a G → wpAny P .any ops Q fuel listed a w
  | 0, _, _, _, w, _, _, _, _, hC, hw, h => ⟨h.1, h.2 w hC hw⟩
  | fuel + 1, listed, a, _, w, hd, hsz, hG, hF, hC, hw, h => by
    refine ⟨fun h0 => h.1 h0 w hC hw, fun i hi => ?_⟩
    have h2 := h.2 i hi
    by_cases hin : i = n
    · rw [if_pos hin] at h2
      subst hin
      exact h2 w hC hw
    · rw [if_neg hin] at h2
      exact wpOp_of_rOpE hT hG hC hw (hF i (mem_ready.1 hi).1) (fun a' G' w' hG' hF' hC' hw' hk => wpAny_of_RE hT hn fuel _ a' G' w' (hd.set hi) (by simpa using hsz) hG' (fun j hj => hF' j (unl_set hj).1 (hF j (unl_set hj).2)) hC' hw' hk) h2

theorem rOp_monoE {i : Nat} {a : Act} {G : Facts} {K K' : Act → Facts → Prop} (hL : Live C G) (h : ∀ a' G', Live C G' → K a' G' → K' a' G') (hr : rOpE P ops C E T i K a G) : rOpE P ops C E T i K' a G := by
  unfold rOpE at *
  split
  · rename_i ho; simp only [ho] at hr; exact h _ _ hL hr
  · rename_i o ho
    simp only [ho] at hr
    obtain ⟨V, φ, hO, hn⟩ := hr
    exact ⟨V, φ, hO, fun v hv hl => h _ _ hl (hn v hv hl)⟩

theorem OwesE.fwd {i j : Nat} {o : Oper} (hs : ∀ cs b, o.op ≠ .select cs b) {a : Act} {G : Facts} {V : Value → Prop} {φ : Value → World → Prop} {dst : Option Tmp} (hd : ∀ d, dst = some d → d ∉ o.looksAt ops)
    (h : OwesE P ops C E T i o a G V φ) (u : Value) (ψ : World → Prop) : OwesE P ops C E T i o (a.put dst u) (G.upd j ψ) V φ := by
  have hw := wanted_put (ops := ops) o a dst u hd
  rcases h with ⟨h1, h2, h3⟩ | ⟨h1, need, hn, h⟩
  · exact .inl ⟨hw.trans h1, h2, h3⟩
  · refine .inr ⟨hw.trans h1, need, hn, ?_⟩
    rcases h with ⟨hT, x, hy, h2, h3⟩ | ⟨Φ, hT, hy, h2, h3⟩
    · exact .inl ⟨hT, x, fun w hC hf => (quietAt_put (ops := ops) hs a dst u hd).2 (hy w hC fun k hk => (hf k hk).1), h2, h3⟩
    · have hl := look_put (ops := ops) o a dst u hd
      exact .inr ⟨Φ, hT, fun w hC hf => (yields_put (ops := ops) hs a dst u hd).2 (by rw [hl]; exact hy w hC fun k hk => (hf k hk).1), h2, by rw [hl]; exact h3⟩

theorem OwesE.bwd {i j : Nat} {o : Oper} (hs : ∀ cs b, o.op ≠ .select cs b) {a : Act} {G : Facts} {V : Value → Prop} {φ : Value → World → Prop} {dst : Option Tmp} (hd : ∀ d, dst = some d → d ∉ o.looksAt ops)
    (hnot : ∀ need : List Nat, need.all (ancB ops 4 j) = true → i ∉ need) {u : Value} {ψ : World → Prop} (h : OwesE P ops C E T j o (a.put dst u) (G.upd i ψ) V φ) : OwesE P ops C E T j o a G V φ := by
  have hw := wanted_put (ops := ops) o a dst u hd
  have up : ∀ {need : List Nat} {w : World}, need.all (ancB ops 4 j) = true → (∀ k ∈ need, G k w) → ∀ k ∈ need, (G.upd i ψ) k w :=
    fun hn hf k hk => ⟨hf k hk, fun hki => absurd (hki ▸ hk) (hnot _ hn)⟩
  rcases h with ⟨h1, h2, h3⟩ | ⟨h1, need, hn, h⟩
  · exact .inl ⟨hw.symm.trans h1, h2, h3⟩
  · refine .inr ⟨hw.symm.trans h1, need, hn, ?_⟩
    rcases h with ⟨hT, x, hy, h2, h3⟩ | ⟨Φ, hT, hy, h2, h3⟩
    · exact .inl ⟨hT, x, fun w hC hf => (quietAt_put (ops := ops) hs a dst u hd).1 (hy w hC (up hn hf)), h2, h3⟩
    · have hl := look_put (ops := ops) o a dst u hd
      exact .inr ⟨Φ, hT, fun w hC hf => (yields_put (ops := ops) hs a dst u hd).1 (by rw [← hl]; exact hy w hC (up hn hf)), h2, by rw [← hl]; exact h3⟩

theorem OwesE.live {i : Nat} {o : Oper} {a : Act} {G : Facts} {V : Value → Prop} {φ : Value → World → Prop} (hG : ∀ j k w w', j ≠ k → E k w w' → G j w → G j w') (hfi : Fresh G i) (hL : Live C G) (h : OwesE P ops C E T i o a G V φ) : ∃ v, V v ∧ Live C (G.upd i (φ v)) := by
  obtain ⟨w, hC, hf⟩ := hL
  rcases h with ⟨_, rfl, rfl⟩ | ⟨_, need, _, h⟩
  · exact ⟨undef, rfl, w, hC, fun j => ⟨hf j, fun _ => trivial⟩⟩
  · rcases h with ⟨_, x, _, rfl, rfl⟩ | ⟨Φ, _, hy, rfl, rfl⟩
    · exact ⟨x, rfl, w, hC, fun j => ⟨hf j, fun _ => trivial⟩⟩
    · obtain ⟨v, w', hC', hE, hΦ⟩ := yields_some (hy w hC fun k _ => hf k)
      exact ⟨v, trivial, w', hC', fun j => ⟨if e : j = i then e ▸ hfi w' else hG j i _ _ e hE (hf j), fun _ => hΦ⟩⟩

theorem OwesE.unique {i : Nat} {o : Oper} {a : Act} {G : Facts} {V V' : Value → Prop} {φ φ' : Value → World → Prop} (hL : Live C G) (h : OwesE P ops C E T i o a G V φ) (h' : OwesE P ops C E T i o a G V' φ') : V = V' ∧ φ = φ' := by
  obtain ⟨w, hC, hf⟩ := hL
  rcases h with ⟨hw, rfl, rfl⟩ | ⟨hw, need, _, h⟩ <;> rcases h' with ⟨hw', rfl, rfl⟩ | ⟨hw', need', _, h'⟩
  · exact ⟨rfl, rfl⟩
  · rw [hw] at hw'; cases hw'
  · rw [hw] at hw'; cases hw'
  · rcases h with ⟨hT, x, hy, rfl, rfl⟩ | ⟨Φ, hT, hy, rfl, rfl⟩ <;> rcases h' with ⟨hT', x', hy', rfl, rfl⟩ | ⟨Φ', hT', hy', rfl, rfl⟩
    · have := quietAt_unique (hy w hC fun k _ => hf k) (hy' w hC fun k _ => hf k)
      subst this
      exact ⟨rfl, rfl⟩
    · rw [hT] at hT'; cases hT'
    · rw [hT] at hT'; cases hT'
    · rw [hT] at hT'; cases hT'; exact ⟨rfl, rfl⟩

/-- Two operations that may both come up now and are apart change places. -/
theorem rOp_swapE {i j : Nat} {oi oj : Oper} {listed : Array Bool} (hd : Down ops listed) (hri : i ∈ Region.ready .any ops listed) (hrj : j ∈ Region.ready .any ops listed)
    (hi : ops[i]? = some oi) (hj : ops[j]? = some oj) (hap : oi.apart ops oj = true)
    (hsi : ∀ cs b, oi.op ≠ .select cs b) (hsj : ∀ cs b, oj.op ≠ .select cs b) {K : Act → Facts → Prop} {a : Act} {G : Facts} (hG : ∀ j k w w', j ≠ k → E k w w' → G j w → G j w') (hfi : Fresh G i) (hL : Live C G)
    (h : rOpE P ops C E T i (fun a' G' => rOpE P ops C E T j K a' G') a G) : rOpE P ops C E T j (fun a' G' => rOpE P ops C E T i K a' G') a G := by
  obtain ⟨h1, h2, h3⟩ := Oper.apart_spec hap
  obtain ⟨hiun, oi', hoi', _⟩ := mem_ready.1 hri
  obtain ⟨_, oj', hoj', hallj⟩ := mem_ready.1 hrj
  rw [hi] at hoi'; cases hoi'
  rw [hj] at hoj'; cases hoj'
  have notIn : ∀ need : List Nat, need.all (ancB ops 4 j) = true → i ∉ need := by
    intro need hn hmem
    have := anc_listed hd 4 j i oj hj hallj (List.all_eq_true.1 hn i hmem)
    rcases Nat.lt_or_ge i listed.size with h' | h'
    · simp [h'] at hiun this; rw [hiun] at this; cases this
    · simp [Array.getElem?_eq_none h'] at this
  unfold rOpE at h ⊢
  simp only [hi, hj] at h ⊢
  obtain ⟨Vi, φi, hOi, hi'⟩ := h
  obtain ⟨v0, hv0, hl0⟩ := hOi.live hG hfi hL
  obtain ⟨Vj, φj, hOj, _⟩ := hi' v0 hv0 hl0
  have hOj := OwesE.bwd hsj h1 notIn hOj
  refine ⟨Vj, φj, hOj, fun u hu _ => ⟨Vi, φi, OwesE.fwd hsi h3 hOi u _, fun v hv hlv => ?_⟩⟩
  rw [upd_comm] at hlv ⊢
  have hlv' : Live C (G.upd i (φi v)) := let ⟨w, hC, hf⟩ := hlv; ⟨w, hC, fun k => (hf k).1⟩
  obtain ⟨Vj', φj', hOj', hk⟩ := hi' v hv hlv'
  obtain ⟨rfl, rfl⟩ := hOj.unique hL (OwesE.bwd hsj h1 notIn hOj')
  rw [← Act.put_comm a v u h2]
  exact hk u hu hlv

theorem rOp_stayE {i : Nat} {a : Act} {G : Facts} {K : Act → Facts → Prop} (hT : ∀ i Φ, T i = some Φ → ∀ A k v w w', k ≠ i → E k w w' → Φ A v w → Φ A v w') (hG : ∀ j k w w', j ≠ k → E k w w' → G j w → G j w')
    (hr : rOpE P ops C E T i K a G) : rOpE P ops C E T i (fun a' G' => ((∀ j k w w', j ≠ k → E k w w' → G' j w → G' j w') ∧ ∀ j, j ≠ i → Fresh G j → Fresh G' j) ∧ K a' G') a G := by
  unfold rOpE at *
  split
  · rename_i ho; simp only [ho] at hr; exact ⟨⟨hG, fun _ _ h => h⟩, hr⟩
  · rename_i o ho
    simp only [ho] at hr
    obtain ⟨V, φ, hO, hn⟩ := hr
    refine ⟨V, φ, hO, fun v hv hl => ⟨⟨?_, fun j hne hf w => ⟨hf w, fun e => absurd e hne⟩⟩, hn v hv hl⟩⟩
    have stay : ∀ (ψ : World → Prop), (∀ k w w', k ≠ i → E k w w' → ψ w → ψ w') → ∀ j k w w', j ≠ k → E k w w' → (G.upd i ψ) j w → (G.upd i ψ) j w' :=
      fun ψ hψ j k w w' hne hE hh => ⟨hG j k _ _ hne hE hh.1, fun hji => hψ k _ _ (fun e => hne (hji.trans e.symm)) hE (hh.2 hji)⟩
    rcases hO with ⟨_, rfl, rfl⟩ | ⟨_, need, _, hO⟩
    · exact stay _ (fun _ _ _ _ _ h => h)
    · rcases hO with ⟨_, x, _, rfl, rfl⟩ | ⟨Φ, hTi, _, rfl, rfl⟩
      · exact stay _ (fun _ _ _ _ _ h => h)
      · exact stay _ (fun k w w' hne h1 h2 => hT i _ hTi _ k v w w' hne h1 h2)

theorem wpAnyR_firstE (hT : ∀ i Φ, T i = some Φ → ∀ A k v w w', k ≠ i → E k w w' → Φ A v w → Φ A v w') (hn : tailB ops n = true) {i : Nat} {oi : Oper} (hi : ops[i]? = some oi) (hsel : ∀ (j : Nat) (o : Oper) cs b, ops[j]? = some o → o.op ≠ .select cs b) :
    ∀ (fuel : Nat) (listed : Array Bool) (a : Act) (G : Facts), Down ops listed → (∀ j k w w', j ≠ k → E k w w' → G j w → G j w') → (∀ j, listed.getD j true = false → Fresh G j) → Live C G →
      (∀ j oj, ops[j]? = some oj → j ≠ i → listed.getD j true = false → (∀ e ∈ oj.after, Region.binds .any e = true → e.on ≠ i) → oi.apart ops oj = true) →
      i ∈ Region.ready .any ops listed →
      (if i = n then tailAny P ops C Q fuel listed i a G else rOpE P ops C E T i (wpAnyRE P ops C E T n Q fuel (listed.setIfInBounds i true)) a G) → wpAnyRE P ops C E T n Q (fuel + 1) listed a G := by
  intro fuel
  induction fuel with
  | zero =>
    intro listed a G hd hG hF hL _ hr H
    refine ⟨fun h => (by rw [h] at hr; cases hr), fun j hj => ?_⟩
    by_cases hji : j = i
    · subst hji; exact H
    · exfalso
      have hin : i ≠ n := fun h => by subst h; exact hji (tail_alone hd hn hr hj)
      rw [if_neg hin] at H
      have hrj := ready_mono hj hji
      unfold rOpE at H
      simp only [hi] at H
      obtain ⟨V, φ, hO, hn⟩ := H
      obtain ⟨v, hv, hl⟩ := hO.live hG (hF i (mem_ready.1 hr).1) hL
      have := (hn v hv hl).1
      rw [this] at hrj
      cases hrj
  | succ fuel ih =>
    intro listed a G hd hG hF hL hfree hr H
    refine ⟨fun h => (by rw [h] at hr; cases hr), fun j hj => ?_⟩
    by_cases hji : j = i
    · subst hji; exact H
    · have hin : i ≠ n := fun h => by subst h; exact hji (tail_alone hd hn hr hj)
      have hjn : j ≠ n := fun h => by subst h; exact hji (tail_alone hd hn hj hr).symm
      rw [if_neg hin] at H
      rw [if_neg hjn]
      obtain ⟨hjun, oj, hoj, hall⟩ := mem_ready.1 hj
      have hnot : ∀ e ∈ oj.after, Region.binds .any e = true → e.on ≠ i := fun e he hb heq => by
        have h1 := hall e he hb
        have h0 := (mem_ready.1 hr).1
        rw [heq] at h1
        rcases Nat.lt_or_ge i listed.size with h' | h'
        · simp [h'] at h0 h1; rw [h0] at h1; cases h1
        · simp [Array.getElem?_eq_none h'] at h1
      have hfree' : ∀ k ok, ops[k]? = some ok → k ≠ i → (listed.setIfInBounds j true).getD k true = false →
          (∀ e ∈ ok.after, Region.binds .any e = true → e.on ≠ i) → oi.apart ops ok = true := fun k ok hk hki hun hno => by
        refine hfree k ok hk hki ?_ hno
        by_cases hjk : j = k
        · subst hjk; exact hjun
        · rw [getD_set_ne true hjk] at hun; exact hun
      have H2 : rOpE P ops C E T i (fun a' G' => rOpE P ops C E T j (wpAnyRE P ops C E T n Q fuel ((listed.setIfInBounds i true).setIfInBounds j true)) a' G') a G :=
        rOp_monoE hL (fun a' G' _ hk => by have := hk.2 j (ready_mono hj hji); rwa [if_neg hjn] at this) H
      have H3 := rOp_swapE hd hr hj hi hoj (hfree j oj hoj hji hjun hnot) (fun cs b => hsel i oi cs b hi) (fun cs b => hsel j oj cs b hoj) hG (hF i (mem_ready.1 hr).1) hL H2
      refine rOp_monoE hL (fun a' G' hL' h3 => ih (listed.setIfInBounds j true) a' G' (hd.set hj) h3.1.1 (fun k hk => h3.1.2 k (unl_set hk).1 (hF k (unl_set hk).2)) hL' hfree' (ready_mono hr (Ne.symm hji)) ?_) (rOp_stayE hT hG H3)
      rw [if_neg hin]
      rw [Array.setIfInBounds_comm _ _ (Ne.symm hji)] at *
      exact h3.2

theorem wpAnyR_lexE (hT : ∀ i Φ, T i = some Φ → ∀ A k v w w', k ≠ i → E k w w' → Φ A v w → Φ A v w') (hn : tailB ops n = true) (hs : Region.noSelect ops = true) : ∀ (l : List Oper) (k : Nat) (listed : Array Bool) (a : Act) (G : Facts), Down ops listed → (∀ j k w w', j ≠ k → E k w w' → G j w → G j w') → (∀ j, listed.getD j true = false → Fresh G j) → Live C G →
    (∀ j, l[j]? = ops[k + j]?) → Region.lexFrom .any ops l.length k listed = true → wpRelE P ops C E T n Q l k a G → wpAnyRE P ops C E T n Q l.length listed a G
  | [], _, _, _, _, _, _, _, _, _, hB, h => ⟨by simpa [Region.lexFrom] using hB, h⟩
  | o :: l, k, listed, a, G, hd, hG, hF, hL, hl, hB, h => by
    have h0 : ops[k]? = some o := by simpa using (hl 0).symm
    simp only [List.length_cons, Region.lexFrom, Bool.and_eq_true] at hB
    obtain ⟨⟨hr, hf⟩, hB'⟩ := hB
    have hr' : k ∈ Region.ready .any ops listed := by simpa using hr
    refine wpAnyR_firstE hT hn h0 (Region.noSelect_spec hs) l.length listed a G hd hG hF hL (Region.free_spec h0 hf) hr' ?_
    simp only [wpRelE] at h
    by_cases hkn : k = n
    · rw [if_pos hkn] at h ⊢
      intro w hC hw
      have hch := tail_chain (P := P) (Q := Q) hn (o :: l) k listed a w (by omega) hd hl (by simp only [List.length_cons, Region.lexFrom, Bool.and_eq_true]; exact ⟨⟨hr, hf⟩, hB'⟩) (h w hC hw)
      exact hch.2 k hr'
    · rw [if_neg hkn] at h ⊢
      have hst : rOpE P ops C E T k (wpRelE P ops C E T n Q l (k + 1)) a G := by unfold rOpE; simp only [h0]; exact h
      exact rOp_monoE hL (fun a' G' hL' h' => wpAnyR_lexE hT hn hs l (k + 1) _ a' G' (hd.set hr') h'.1.1 (fun j hj => h'.1.2 j (unl_set hj).1 (hF j (unl_set hj).2)) hL' (fun j => by have := hl (j + 1); simpa [Nat.add_assoc, Nat.add_comm 1 j] using this) hB' h'.2) (rOp_stayE hT hG hst)

/-- **A region that draws its order, walked once.** n: the number of its last operation, if that one is taken by a law of its own; else any number from the region's size on. -/
theorem wp_region_relE (C : World → Prop) (E : Nat → World → World → Prop) (T : Nat → Option (List Value → Value → World → Prop)) (hT : ∀ i Φ, T i = some Φ → ∀ A k v w w', k ≠ i → E k w w' → Φ A v w → Φ A v w')
    {id : Nat} {Q : Exit → Act → World → Prop} {a : Act} {w : World} {l : List Oper} (n : Nat) (hn : tailB l.toArray n = true) (hm : P.follows .mixedOrders = true) (hB : Region.lexB .any l.toArray = true) (hC : C w.drew)
    (h : wpRelE P l.toArray C E T n Q l 0 a Facts.top) : (Code.region id l.toArray true).wp P Q a w := by
  simp only [Region.lexB, Bool.and_eq_true] at hB
  have hG : ∀ (j k : Nat) (w w' : World), j ≠ k → E k w w' → Facts.top j w → Facts.top j w' := fun _ _ _ _ _ _ h => h
  have hF : ∀ j, Fresh Facts.top j := fun _ _ => trivial
  have hd : Down l.toArray (Array.replicate l.toArray.size false) := by
    intro k o _ hk
    simp only [Array.getD, Array.size_replicate] at hk
    split at hk
    · simp at hk
    · cases hk
  refine wp_region_any hm (wpAny_of_RE hT hn _ _ _ Facts.top _ hd (by simp) hG (fun j _ => hF j) hC (fun _ => trivial) ?_)
  have := wpAnyR_lexE (C := C) hT hn hB.1 l 0 (Array.replicate l.toArray.size false) a Facts.top hd hG (fun j _ => hF j) ⟨_, hC, fun _ => trivial⟩ (by simp) (by simpa using hB.2) h
  simpa using this
end

/-! ### The steps -/
section
variable {P : Program} {ops : Array Oper} {C : World → Prop} {E : Nat → World → World → Prop} {T : Nat → Option (List Value → Value → World → Prop)} {n : Nat} {Q : Exit → Act → World → Prop} {o : Oper} {rest : List Oper} {k : Nat} {a : Act} {G : Facts}

def StaysE (E : Nat → World → World → Prop) (i : Nat) (Φ : Value → World → Prop) : Prop := ∀ k, k ≠ i → ∀ v w w', E k w w' → Φ v w → Φ v w'
def TabOKE (E : Nat → World → World → Prop) : Tab → Prop
  | [] => True
  | (i, φ) :: L => StaysE E i φ ∧ TabOKE E L
def Tab.atE (L : Tab) (i : Nat) : Option (List Value → Value → World → Prop) := (L.at i).map fun Φ _ => Φ
theorem Tab.staysE {L : Tab} (h : TabOKE E L) : ∀ i Φ, L.atE i = some Φ → ∀ A k v w w', k ≠ i → E k w w' → Φ A v w → Φ A v w' := by
  induction L with
  | nil => intro i Φ hi; cases hi
  | cons p L ih =>
    obtain ⟨j, φ⟩ := p
    intro i Φ hi A k v w w' hne
    simp only [Tab.atE, Tab.at] at hi
    split at hi
    · rename_i e; cases hi; subst e; exact h.1 k hne v w w'
    · exact ih h.2 i Φ hi A k v w w' hne
/-- Tables whose facts may name the values that the operation looks at. -/
def TabP := List (Nat × (List Value → Value → World → Prop))
def TabP.at : TabP → Nat → Option (List Value → Value → World → Prop)
  | [], _ => none
  | (i, φ) :: L, k => if k = i then some φ else TabP.at L k
def TabOKP (E : Nat → World → World → Prop) : TabP → Prop
  | [] => True
  | (i, φ) :: L => (∀ A k, k ≠ i → ∀ v w w', E k w w' → φ A v w → φ A v w') ∧ TabOKP E L
theorem TabP.staysE {L : TabP} (h : TabOKP E L) : ∀ i Φ, TabP.at L i = some Φ → ∀ A k v w w', k ≠ i → E k w w' → Φ A v w → Φ A v w' := by
  induction L with
  | nil => intro i Φ hi; cases hi
  | cons p L ih =>
    obtain ⟨j, φ⟩ := p
    intro i Φ hi A k v w w' hne
    simp only [TabP.at] at hi
    split at hi
    · rename_i e; cases hi; subst e; exact h.1 A k hne v w w'
    · exact ih h.2 i Φ hi A k v w w' hne

theorem relE_nil (h : ∀ w, C w → (∀ j, G j w) → Q .normal a w) : wpRelE P ops C E T n Q [] k a G := h
theorem relE_step (hkn : (k == n) = false) (h : rStepE P ops C E T k o (wpRelE P ops C E T n Q rest (k + 1)) a G) : wpRelE P ops C E T n Q (o :: rest) k a G := by
  have : k ≠ n := by simpa using hkn
  unfold wpRelE
  rw [if_neg this]
  exact h
theorem relE_tail (hkn : (k == n) = true) (ho : ops[k]? = some o) (h : ∀ w, C w → (∀ j, G j w) → wpList P ops Q (o :: rest) a w) : wpRelE P ops C E T n Q (o :: rest) k a G := by
  have : k = n := by simpa using hkn
  unfold wpRelE
  rw [if_pos this]
  exact h
theorem relE_quiet (hkn : (k == n) = false) (hw : Region.wanted o (yielded ops a.tmps) = true) (hT : T k = none) (hne : noEnter o.op = true)
    (h : ∀ K : Act → Prop, (∀ a, wpRelE P ops C E T n Q rest (k + 1) a G → K a) → o.quiet P a (fun w => C w ∧ ∀ j ∈ ([] : List Nat), G j w) K) : wpRelE P ops C E T n Q (o :: rest) k a G := by
  obtain ⟨v, hq, hr⟩ := h _ (fun _ h => h)
  refine relE_step hkn ⟨(· = v), fun _ _ => True, .inr ⟨hw, [], rfl, .inl ⟨hT, v, fun w hC hf => ?_, rfl, rfl⟩⟩, fun u hu _ => by subst hu; rw [Facts.upd_true]; exact hr⟩
  have := hq w ⟨hC, hf⟩
  unfold Oper.quietAt at *
  have hno := noEnter_run (P := P) (a := a) (w := w) hne
  generalize (execOp a.eval o).run P w = r at *
  cases r with
  | ok n w' => cases n <;> simp only [Oper.quietUpon] at this ⊢ <;> first | exact this | exact absurd rfl (hno _ _ _)
  | halt x w' => exact this
/-- What is asked behind an operation: behind a name that simp does not open. -/
def RgPostE (C : World → Prop) (E : World → World → Prop) (w : World) (Φ : Value → World → Prop) (v : Value) (w' : World) : Prop := C w' ∧ E w w' ∧ Φ v w'
theorem relE_fact (need : List Nat) {Φ : Value → World → Prop} (hkn : (k == n) = false) (hw : Region.wanted o (yielded ops a.tmps) = true) (hT : T k = some (fun _ => Φ)) (hn : need.all (ancB ops 4 k) = true)
    (h : ∀ w, C w → (∀ j ∈ need, G j w) → yields P o a w (RgPostE C (E k) w Φ))
    (hk : ∀ v w, C w → (∀ j, G j w) → Φ v w → wpRelE P ops C E T n Q rest (k + 1) (a.put o.dst v) (G.upd k (Φ v))) : wpRelE P ops C E T n Q (o :: rest) k a G :=
  relE_step hkn ⟨fun _ => True, Φ, .inr ⟨hw, need, hn, .inr ⟨fun _ => Φ, hT, h, rfl, rfl⟩⟩, fun v _ ⟨w, hC, hf⟩ => hk v w hC (fun j => (hf j).1) ((hf k).2 rfl)⟩
theorem relE_factP (need : List Nat) {Φ : List Value → Value → World → Prop} (hkn : (k == n) = false) (hw : Region.wanted o (yielded ops a.tmps) = true) (hT : T k = some Φ) (hn : need.all (ancB ops 4 k) = true)
    (h : ∀ w, C w → (∀ j ∈ need, G j w) → yields P o a w (RgPostE C (E k) w (Φ (look o a))))
    (hk : ∀ v w, C w → (∀ j, G j w) → Φ (look o a) v w → wpRelE P ops C E T n Q rest (k + 1) (a.put o.dst v) (G.upd k (Φ (look o a) v))) : wpRelE P ops C E T n Q (o :: rest) k a G :=
  relE_step hkn ⟨fun _ => True, Φ (look o a), .inr ⟨hw, need, hn, .inr ⟨Φ, hT, h, rfl, rfl⟩⟩, fun v _ ⟨w, hC, hf⟩ => hk v w hC (fun j => (hf j).1) ((hf k).2 rfl)⟩
theorem relE_val (need : List Nat) {u : Value} (hkn : (k == n) = false) (hw : Region.wanted o (yielded ops a.tmps) = true) (hT : T k = some (fun _ v _ => v = u)) (hn : need.all (ancB ops 4 k) = true)
    (h : ∀ w, C w → (∀ j ∈ need, G j w) → yields P o a w (RgPostE C (E k) w (fun x _ => x = u)))
    (hk : wpRelE P ops C E T n Q rest (k + 1) (a.put o.dst u) G) : wpRelE P ops C E T n Q (o :: rest) k a G :=
  relE_fact need hkn hw hT hn h (fun v w _ _ hv => by
    have hv : v = u := hv
    subst hv
    have : G.upd k (fun _ => v = v) = G := by funext k w; simp [Facts.upd]
    show wpRelE P ops C E T n Q rest (k + 1) (a.put o.dst v) (G.upd k (fun _ => v = v))
    rw [this]; exact hk)
/-- A store of a whole variable, as the region's walk meets it. -/
theorem yields_storeBox {w : World} {R : Value → World → Prop} (ty : TypeId) (x y : Operand) (ho : o.op = .store ty x y)
    (g : Nat) (cells old : Array Value) (t : TypeId) (hx : a.eval x = .pointer (some ⟨g, 0, none⟩)) (hy : a.eval y = .agg cells)
    (hg : w.heap[g]? = some (.cells old t (0, 0))) (hi : (P.info? ty).map (·.size) = some cells.size) (hold : old.size = cells.size) (h1 : cells.all (·.oneCell') = true)
    (hR : ∀ w', w'.heap[g]? = some (.cells cells t (0, 0)) → w.grownBy w' (some g) → R undef w') : yields P o a w R := by
  unfold yields execOp
  simp only [ho, hx, hy, Instr.storeAt, Instr.sureAddr, Sem.run_bind, Sem.run_pure, Result.andThen_ok, run_storeVar_row w g t ty old cells hg hi hold h1]
  exact hR _ (setRow_heap w g old cells t (0, 0) hg) ⟨rfl, rfl, rfl, by simp [World.setRow], fun k _ hne => setRow_other w g k cells (fun e => hne (by rw [e]))⟩
/-- As the kit's 'run_append_own': and the slice that was appended to is a row of one's own still. -/
theorem run_append_keep {P : Program} (w : World) (base : Nat) (t ty e : TypeId) (i : TypeInfo) (z : Value) (size bytes : Nat) (ht : P.underlying t = some (.slice e)) (hi : P.info? e = some i) (hz : i.zero = some z)
    (hsize : i.size = size) (hby : i.bytes = bytes) (hzs : z.cells.size = size) (hsz : 0 < size)
    (v : Value) (n : Nat) (xs : List Value) (hown : w.ownsRow base e size v n xs)
    (a : Addr) (m c : Nat) (news : List Value) (hl : news.length = m * size) (hnews : ∀ j u, news[j]? = some u → w.cell? (a.add j) = some u) (h1 : ∀ u ∈ news, u.oneCell' = true)
    (h63 : n + m ≤ maxLen) (hbytes : (n + m) * bytes ≤ 140737488355328) (hbase : base ≤ w.heap.size) :
    ∃ v' w', (Builtin.append_ #[t, t] ty #[v, .slice (some a) m c]).run P w = .ok v' w' ∧ w'.ownsRow base e size v' (n + m) (xs ++ news) ∧ w.grownBy w' v.ownBlock ∧ w'.ownsRow base e size v n xs := by
  obtain ⟨v', w', hr, h2, h3, _⟩ := run_append_own (P := P) w base t ty e i z size bytes ht hi hz hsize hby hzs hsz v n xs hown a m c news hl hnews h1 h63 hbytes hbase
  refine ⟨v', w', hr, h2, h3, ?_⟩
  subst hsize
  subst hby
  have hsmall : n + m ≤ 9223372036854775807 := by simp only [maxLen] at h63; omega
  rcases hown.2 with ⟨rfl, rfl⟩ | ⟨g, cap, cur, rfl, hbg, hg, hnc, hcm, hcs, htake⟩
  · have hx : xs = [] := List.eq_nil_of_length_eq_zero (by simpa using hown.1)
    subst hx
    exact World.ownsRow_nil _ _ _ _
  · by_cases hroom : n + m ≤ cap
    · have hfit : n * i.size + news.length ≤ cur.size := by rw [hl, hcs, ← Nat.add_mul]; exact Nat.mul_le_mul_right _ hroom
      have hr2 := run_append_room (P := P) w t ty e i ht hi g n cap cur hg a m c news hl hnews h1 hroom hfit
      rw [hr] at hr2
      cases hr2
      obtain ⟨hl2, h2'⟩ := h2
      rcases h2' with ⟨e, _⟩ | ⟨g2, cap2, cur2, e, hb2, hg2, hn2, hm2, hs2, ht2⟩
      · cases e
      · cases e
        refine ⟨hown.1, .inr ⟨g, cap, cur2, rfl, hbg, hg2, hnc, hcm, hs2, ?_⟩⟩
        have h5 := congrArg (List.take (n * i.size)) ht2
        rw [List.take_take, Nat.min_eq_left (Nat.mul_le_mul_right _ (Nat.le_add_right n m)), List.take_left' hown.1] at h5
        exact h5
    · have holds : ∀ j u, xs[j]? = some u → w.cell? ((⟨g, 0, none⟩ : Addr).add j) = some u := hown.cells (g := g) rfl
      have hr2 := run_append_grow (P := P) w t ty e i z ht hi hz ⟨g, 0, none⟩ n cap xs hown.1 holds a m c news hl hnews (by omega) (by omega) (growslice_fits (by omega) hbytes)
      rw [hr] at hr2
      cases hr2
      exact (show w.drew.ownsRow base e i.size (.slice (some ⟨g, 0, none⟩) n cap) n xs from hown).alloc _
/-- 'append' to a row of one's own, as the region's walk meets it. -/
theorem yields_append {Tt e : TypeId} {z : Value} {size bytes : Nat} (info : (P.info? e).map (fun i => (i.zero, i.size, i.bytes)) = some (some z, size, bytes)) (und : P.underlying Tt = some (.slice e)) (hzs : z.cells.size = size) (hsz : 0 < size) (s x : Operand)
    (hop : o.op = Op.call { callee := Callee.builtin Builtin.append, args := #[s, x], argTypes := #[Tt, Tt] }) {w : World}
    (B : Nat) (hB : B ≤ w.heap.size) (v : Value) (m : Nat) (xs : List Value) (hown : w.ownsRow B e size v m xs) (hs : a.eval s = v) (g c : Nat) (c' : Nat) (news : List Value) (hx : a.eval x = .slice (some ⟨g, 0, none⟩) c c')
    (hl : news.length = c * size) (hnews : ∀ j u, news[j]? = some u → w.cell? ⟨g, j, none⟩ = some u) (h1 : ∀ u ∈ news, u.oneCell' = true) (h63 : m + c ≤ maxLen) (hb : (m + c) * bytes ≤ 140737488355328) {R : Value → World → Prop}
    (hR : ∀ v' w', w'.ownsRow B e size v' (m + c) (xs ++ news) → w.grownBy w' v.ownBlock → w'.ownsRow B e size v m xs → R v' w') : yields P o a w R := by
  obtain ⟨i0, hi, hz0, hz1, hz2⟩ := info_parts info
  obtain ⟨v', w', hr, h2, h3, h4⟩ := run_append_keep (P := P) w B Tt o.type e i0 z size bytes und hi hz0 hz1 hz2 hzs hsz v m xs hown ⟨g, 0, none⟩ c c' news hl (fun j u hj => by rw [Addr.add_lit, Nat.zero_add]; exact hnews j u hj) h1 h63 hb hB
  unfold yields execOp
  simp only [hop, resolve, invoke, builtin, Sem.run_bind, Sem.run_pure, Result.andThen_ok, List.map_toArray, List.map_cons, List.map_nil, hs, hx, hr]
  exact hR v' w' h2 h3 h4
end
end Go.Proofs.YtmjhdfifbjdgpaaDoor

/- Appends to rows of one's own inside regions that draw their order: what an append does to the block it may write to, cell by cell. -/
namespace Go.Proofs.YtmjhdfifbjdgpaaDoor
open Go Go.RowKit

/-- An append of N to a row of one's own that holds X (k elements). -/
def AppE (T : TypeId) (size S k : Nat) (X N : List Value) (x y : World) : Prop :=
  ∃ vo, x.ownsRow S T size vo k X ∧ x.grownBy y vo.ownBlock ∧ ∀ g, vo.ownBlock = some g → ∀ cur, x.heap[g]? = some (.cells cur T (0, 0)) →
    ∃ cur2, y.heap[g]? = some (.cells cur2 T (0, 0)) ∧ cur2.size = cur.size ∧ ∀ i, cur2[i]? = cur[i]? ∨ (k * size ≤ i ∧ i < k * size + N.length ∧ cur2[i]? = N[i - k * size]?)
section
variable {T : TypeId} {size S k : Nat} {X N : List Value} {x y : World}
theorem AppE.to {w : World} (hS : w.heap.size ≤ S) (h : AppE T size S k X N x y) (hE : Ext w x) : Ext w y := by
  obtain ⟨vo, ho, hg, _⟩ := h
  exact hE.grown hg (fun q hq => by have := (ho.lt q hq).1; omega)
theorem AppE.le (h : AppE T size S k X N x y) : x.heap.size ≤ y.heap.size := by
  obtain ⟨vo, ho, hg, _⟩ := h
  exact hg.size
theorem AppE.keep (h : AppE T size S k X N x y) {S' : Nat} {v : Value} {m : Nat} {Y : List Value} (ho : x.ownsRow S' T size v m Y) (hY : ∀ i u, Y[i]? = some u → k * size ≤ i → i < k * size + N.length → N[i - k * size]? = some u) : y.ownsRow S' T size v m Y := by
  obtain ⟨vo, _, hg, hc⟩ := h
  refine ⟨ho.1, ho.2.imp id ?_⟩
  rintro ⟨g, cap, cur, rfl, hb, hh, hmc, hcm, hcs, ht⟩
  by_cases e : vo.ownBlock = some g
  · obtain ⟨cur2, h2, hs2, hi⟩ := hc g e cur hh
    refine ⟨g, cap, cur2, rfl, hb, h2, hmc, hcm, by rw [hs2, hcs], ?_⟩
    apply List.ext_getElem?
    intro i
    by_cases hlt : i < m * size
    · have hYi : Y[i]? = cur[i]? := by rw [← ht, List.getElem?_take, if_pos hlt, Array.getElem?_toList]
      rw [List.getElem?_take, if_pos hlt, Array.getElem?_toList]
      rcases hi i with h1 | ⟨h1, h1', h2⟩
      · rw [h1, hYi]
      · have hl : i < Y.length := by rw [ho.1]; exact hlt
        rw [h2, hY i _ (List.getElem?_eq_getElem hl) h1 h1', List.getElem?_eq_getElem hl]
    · rw [List.getElem?_take, if_neg hlt, List.getElem?_eq_none (by rw [ho.1]; omega)]
  · exact ⟨g, cap, cur, rfl, hb, by rw [hg.block g (Array.getElem?_eq_some_iff.1 hh).1 (fun h => e h.symm)]; exact hh, hmc, hcm, hcs, ht⟩
theorem AppE.keep_short (h : AppE T size S k X N x y) {S' : Nat} {v : Value} {m : Nat} {Y : List Value} (ho : x.ownsRow S' T size v m Y) (hm : m ≤ k) : y.ownsRow S' T size v m Y :=
  h.keep ho fun i u hu h1 _ => by
    have h2 := (List.getElem?_eq_some_iff.1 hu).1
    rw [ho.1] at h2
    have := Nat.mul_le_mul_right size hm
    omega
theorem AppE.keep_long (h : AppE T size S k X N x y) (hX : X.length = k * size) {S' : Nat} {v : Value} {m : Nat} {R : List Value} (ho : x.ownsRow S' T size v m (X ++ N ++ R)) : y.ownsRow S' T size v m (X ++ N ++ R) :=
  h.keep ho fun i u hu h1 h2 => by
    rw [List.append_assoc, List.getElem?_append_right (by omega), hX, List.getElem?_append_left (by omega)] at hu
    exact hu
/-- A variable of one element, of the row's type. -/
theorem AppE.box (h : AppE T size S k X N x y) {b : Nat} {cs : Array Value} {U : TypeId} (hb : BoxAt x b cs U) (hcs : U = T → ∀ i u, cs[i]? = some u → k * size ≤ i → i < k * size + N.length → N[i - k * size]? = some u) : BoxAt y b cs U := by
  obtain ⟨vo, ho, hg, hc⟩ := h
  by_cases e : vo.ownBlock = some b
  · rcases ho.2 with ⟨rfl, _⟩ | ⟨g, cap, cur, rfl, hb', hh, _⟩
    · cases e
    · have e' : g = b := Option.some.inj e
      subst e'
      have hb2 : x.heap[g]? = some (.cells cs U (0, 0)) := hb
      rw [hh] at hb2
      cases hb2
      obtain ⟨cur2, h2, hs2, hi⟩ := hc g rfl cs hh
      have e2 : cur2 = cs := by
        apply Array.ext_getElem?
        intro i
        rcases hi i with h1 | ⟨h1, h1', h3⟩
        · exact h1
        · by_cases hl : i < cs.size
          · rw [h3, hcs rfl i _ (Array.getElem?_eq_getElem hl) h1 h1', Array.getElem?_eq_getElem hl]
          · rw [Array.getElem?_eq_none (by omega), Array.getElem?_eq_none (by omega)]
      unfold BoxAt
      rw [h2, e2]
  · exact hb.grown hg (fun h => e h.symm)
end
/-- 'append' to a row of one's own, told cell by cell. -/
theorem run_append_cells {P : Program} (w : World) (base : Nat) (t ty e : TypeId) (i : TypeInfo) (z : Value) (size bytes : Nat) (ht : P.underlying t = some (.slice e)) (hi : P.info? e = some i) (hz : i.zero = some z)
    (hsize : i.size = size) (hby : i.bytes = bytes) (hzs : z.cells.size = size) (hsz : 0 < size)
    (v : Value) (n : Nat) (xs : List Value) (hown : w.ownsRow base e size v n xs)
    (a : Addr) (m c : Nat) (news : List Value) (hl : news.length = m * size) (hnews : ∀ j u, news[j]? = some u → w.cell? (a.add j) = some u) (h1 : ∀ u ∈ news, u.oneCell' = true)
    (h63 : n + m ≤ maxLen) (hbytes : (n + m) * bytes ≤ 140737488355328) (hbase : base ≤ w.heap.size) :
    ∃ v' w', (Builtin.append_ #[t, t] ty #[v, .slice (some a) m c]).run P w = .ok v' w' ∧ w'.ownsRow base e size v' (n + m) (xs ++ news) ∧ AppE e size base n xs news w w' ∧ w.grownBy w' v.ownBlock := by
  obtain ⟨v', w', hr, h2, h3, _⟩ := run_append_own (P := P) w base t ty e i z size bytes ht hi hz hsize hby hzs hsz v n xs hown a m c news hl hnews h1 h63 hbytes hbase
  refine ⟨v', w', hr, h2, ⟨v, hown, h3, ?_⟩, h3⟩
  subst hsize
  subst hby
  have hsmall : n + m ≤ 9223372036854775807 := by simp only [maxLen] at h63; omega
  rcases hown.2 with ⟨rfl, rfl⟩ | ⟨g, cap, cur, rfl, hbg, hg, hnc, hcm, hcs, htake⟩
  · intro g hgv; cases hgv
  · intro g' hgv cur' hc'
    have e' : g = g' := Option.some.inj hgv
    subst e'
    rw [hg] at hc'
    cases hc'
    by_cases hroom : n + m ≤ cap
    · have hfit : n * i.size + news.length ≤ cur.size := by rw [hl, hcs, ← Nat.add_mul]; exact Nat.mul_le_mul_right _ hroom
      have hr2 := run_append_room (P := P) w t ty e i ht hi g n cap cur hg a m c news hl hnews h1 hroom hfit
      rw [hr] at hr2
      cases hr2
      refine ⟨_, setRow_heap w g cur _ e (0, 0) hg, ?_, fun j => ?_⟩
      · simp; omega
      · simp only [List.getElem?_toArray]
        rcases Nat.lt_or_ge j (n * i.size) with hj | hj
        · left
          rw [List.append_assoc, List.getElem?_append_left (by simp; omega), List.getElem?_take, if_pos hj, Array.getElem?_toList]
        · rcases Nat.lt_or_ge j (n * i.size + news.length) with hj2 | hj2
          · right
            refine ⟨hj, hj2, ?_⟩
            have hl0 : (cur.toList.take (n * i.size)).length = n * i.size := by simp; omega
            rw [List.append_assoc, List.getElem?_append_right (by omega), hl0, List.getElem?_append_left (by omega)]
          · left
            have hl0 : (cur.toList.take (n * i.size) ++ news).length = n * i.size + news.length := by simp; omega
            rw [List.getElem?_append_right (by omega), hl0, List.getElem?_drop, show n * i.size + news.length + (j - (n * i.size + news.length)) = j by omega, Array.getElem?_toList]
    · have holds : ∀ j u, xs[j]? = some u → w.cell? ((⟨g, 0, none⟩ : Addr).add j) = some u := hown.cells (g := g) rfl
      have hr2 := run_append_grow (P := P) w t ty e i z ht hi hz ⟨g, 0, none⟩ n cap xs hown.1 holds a m c news hl hnews (by omega) (by omega) (growslice_fits (by omega) hbytes)
      rw [hr] at hr2
      cases hr2
      refine ⟨cur, ?_, rfl, fun _ => .inl rfl⟩
      have hlt := (Array.getElem?_eq_some_iff.1 hg).1
      exact (heap_alloc_old w.drew _ hlt).trans hg
theorem AppE.refl {T : TypeId} {size S k : Nat} {X N : List Value} {x : World} {v : Value} (h : x.ownsRow S T size v k X) : AppE T size S k X N x x :=
  ⟨v, h, ⟨rfl, rfl, rfl, Nat.le_refl _, fun _ _ _ => rfl⟩, fun _ _ cur hc => ⟨cur, hc, rfl, fun _ => .inl rfl⟩⟩
/-- Operations j with p j = some (k, X, N) append N to a row of one's own that holds X; the others let memory grow. -/
def NE (T : TypeId) (size S : Nat) (p : Nat → Option (Nat × List Value × List Value)) (j : Nat) (x y : World) : Prop :=
  (p j = none ∧ Ext x y) ∨ ∃ k X N, p j = some (k, X, N) ∧ AppE T size S k X N x y
theorem NE_ext {T : TypeId} {size S : Nat} {p : Nat → Option (Nat × List Value × List Value)} {j : Nat} {x y : World} (hj : p j = none) (h : Ext x y) : NE T size S p j x y := .inl ⟨hj, h⟩
theorem NE_app {T : TypeId} {size S : Nat} {p : Nat → Option (Nat × List Value × List Value)} {j : Nat} {x y : World} {k : Nat} {X N : List Value} (hj : p j = some (k, X, N)) (h : AppE T size S k X N x y) : NE T size S p j x y := .inr ⟨k, X, N, hj, h⟩
theorem NE_to {T : TypeId} {size S : Nat} {p : Nat → Option (Nat × List Value × List Value)} {j : Nat} {x y w : World} (hS : w.heap.size ≤ S) (h : NE T size S p j x y) (hE : Ext w x) : Ext w y := by
  rcases h with ⟨_, h⟩ | ⟨_, _, _, _, h⟩
  · exact hE.trans h
  · exact h.to hS hE
theorem NE_le {T : TypeId} {size S : Nat} {p : Nat → Option (Nat × List Value × List Value)} {j : Nat} {x y : World} (h : NE T size S p j x y) : x.heap.size ≤ y.heap.size := by
  rcases h with ⟨_, h⟩ | ⟨_, _, _, _, h⟩
  · exact h.le
  · exact h.le
theorem NE_own {T : TypeId} {size S : Nat} {p : Nat → Option (Nat × List Value × List Value)} {j : Nat} {x y : World} (h : NE T size S p j x y) {S' : Nat} {v : Value} {m : Nat} {Y : List Value} (ho : x.ownsRow S' T size v m Y)
    (hY : ∀ k X N, p j = some (k, X, N) → ∀ i u, Y[i]? = some u → k * size ≤ i → i < k * size + N.length → N[i - k * size]? = some u) : y.ownsRow S' T size v m Y := by
  rcases h with ⟨_, h⟩ | ⟨k, X, N, hj, h⟩
  · exact ownsRow_ext ho h
  · exact h.keep ho (hY k X N hj)
theorem NE_box {T : TypeId} {size S : Nat} {p : Nat → Option (Nat × List Value × List Value)} {j : Nat} {x y : World} (h : NE T size S p j x y) {b : Nat} {cs : Array Value} {U : TypeId} (hb : BoxAt x b cs U)
    (hY : ∀ k X N, p j = some (k, X, N) → U = T → ∀ i u, cs[i]? = some u → k * size ≤ i → i < k * size + N.length → N[i - k * size]? = some u) : BoxAt y b cs U := by
  rcases h with ⟨_, h⟩ | ⟨k, X, N, hj, h⟩
  · exact hb.ext h
  · exact h.box hb (hY k X N hj)
/-- 'append' of any slice to a row of one's own, as the region's walk meets it. -/
theorem yields_app {P : Program} {o : Oper} {a : Act} {Tt e : TypeId} {z : Value} {size bytes : Nat} (info : (P.info? e).map (fun i => (i.zero, i.size, i.bytes)) = some (some z, size, bytes)) (und : P.underlying Tt = some (.slice e)) (hzs : z.cells.size = size) (hsz : 0 < size) (s x : Operand)
    (hop : o.op = Op.call { callee := Callee.builtin Builtin.append, args := #[s, x], argTypes := #[Tt, Tt] }) {w : World}
    (B : Nat) (hB : B ≤ w.heap.size) (v : Value) (m : Nat) (xs : List Value) (hown : w.ownsRow B e size v m xs) (hs : a.eval s = v) {u : Value} {c : Nat} {news : List Value} (hin : SliceIn w u c news) (hx : a.eval x = u)
    (hl : news.length = c * size) (h1 : ∀ u ∈ news, u.oneCell' = true) (h63 : m + c ≤ maxLen) (hb : (m + c) * bytes ≤ 140737488355328) {R : Value → World → Prop}
    (hR : ∀ v' w', w'.ownsRow B e size v' (m + c) (xs ++ news) → AppE e size B m xs news w w' → w.grownBy w' v.ownBlock → R v' w') : yields P o a w R := by
  obtain ⟨i0, hi, hz0, hz1, hz2⟩ := info_parts info
  obtain ⟨ao, cp, rfl, hc, hcm, ha, hcell⟩ := hin
  cases ao with
  | none =>
    have hc0 := ha rfl
    obtain rfl : c = 0 := by omega
    obtain rfl : news = [] := List.eq_nil_of_length_eq_zero (by omega)
    subst hc0
    have hr := run_append_owned_none (P := P) (w := w) B Tt o.type e i0 size und hi v m xs hown
    unfold yields execOp
    simp only [hop, resolve, invoke, builtin, Sem.run_bind, Sem.run_pure, Result.andThen_ok, List.map_toArray, List.map_cons, List.map_nil, hs, hx, hr]
    exact hR _ _ (by rw [List.append_nil]; exact hown) (AppE.refl hown) ⟨rfl, rfl, rfl, Nat.le_refl _, fun _ _ _ => rfl⟩
  | some ad =>
    obtain ⟨v', w', hr, h2, h3, h4⟩ := run_append_cells (P := P) w B Tt o.type e i0 z size bytes und hi hz0 hz1 hz2 hzs hsz v m xs hown ad c cp news hl (fun j u hj => by
      obtain ⟨b, o, e, h⟩ := hcell j u hj
      cases e
      rw [Addr.add_lit]
      exact h) h1 h63 hb hB
    unfold yields execOp
    simp only [hop, resolve, invoke, builtin, Sem.run_bind, Sem.run_pure, Result.andThen_ok, List.map_toArray, List.map_cons, List.map_nil, hs, hx, hr]
    exact hR v' w' h2 h3 h4
end Go.Proofs.YtmjhdfifbjdgpaaDoor
