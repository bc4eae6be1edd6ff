/- store: what mutations leave of tables in memory: step by step. -/
import Derived.Test.YtimbikbbbfpeeaaGreatDoorP16
import Derived.Test.YtimbikbbbfpeeaaGreatDoorP4
set_option linter.unusedSimpArgs false
set_option linter.unusedVariables false
namespace Go.Proofs.YtimbikbbbfpeeaaGreatDoor
open Go Go.RowKit

theorem kput_kput {α : Type} {key : α → ByteArray} {x y : α} (h : key x = key y) : ∀ (L : List α), kput key x (kput key y L) = kput key x L
  | [] => by
    simp only [kput]
    rw [h, if_neg (by rw [kb_irrefl]; decide), if_pos rfl]
  | z :: l => by
    have ih := kput_kput h l
    simp only [kput]
    by_cases h1 : kb (key z) (key y) = true
    · rw [if_pos h1, if_pos (by rw [h]; exact h1)]
      simp only [kput]
      rw [if_pos (by rw [h]; exact h1), ih]
    · rw [if_neg h1]
      by_cases h2 : key z = key y
      · rw [if_pos h2]
        simp only [kput]
        rw [h, if_neg (by rw [kb_irrefl]; decide), if_pos rfl, if_neg h1, if_pos h2]
      · rw [if_neg h2]
        simp only [kput]
        rw [h, if_neg (by rw [kb_irrefl]; decide), if_pos rfl, if_neg h1, if_neg h2]
theorem tbq_kput (t : Tb) (ts : List Tb) : (kput Tb.name t ts).map Tb.q = kput Tq.name t.q (ts.map Tb.q) := kput_map (key := Tb.name) (key' := Tq.name) (f := Tb.q) (fun _ => rfl) t ts
theorem tbq_find (k : ByteArray) (ts : List Tb) : kfind Tq.name k (ts.map Tb.q) = (kfind Tb.name k ts).map Tb.q := kfind_map (key := Tb.name) (key' := Tq.name) (f := Tb.q) (fun _ => rfl) k ts

/-- The named of some tables. -/
def namedT (nm : List ByteArray) (ts : List Tb) : List Tb := ts.filter fun t => nm.any fun k => decide (k = t.name)
structure MutsA (w w' : World) (D mt : Nat) (ts ts' : List Tb) (nm : List ByteArray) : Prop where
  touch : Touch w w' (mt :: blocksT (namedT nm ts))
  at_ : TbsAt w' D mt ts'
  old : ∀ b ∈ blocksT ts', b ∈ blocksT ts ∨ w.heap.size ≤ b
  keep : ∀ t ∈ ts, t.name ∉ nm → t ∈ ts'
  rest : ∀ t' ∈ ts', t'.name ∉ nm → t' ∈ ts
  named : ∀ t' ∈ ts', t'.name ∈ nm → (∃ t ∈ ts, t.name = t'.name ∧ t'.blocks = t.blocks) ∨ ∀ b ∈ t'.blocks, w.heap.size ≤ b
  len : ts'.length ≤ 8
section
variable {w x w' : World} {C D mt : Nat} {ts tk : List Tb} {nm : List ByteArray}
theorem MutsA.start (h : TbsAt w C mt ts) (hl : ts.length ≤ 8) (nm : List ByteArray) : MutsA w w C mt ts ts nm :=
  ⟨Touch.refl _ _, h, fun _ hb => .inl hb, fun _ ht _ => ht, fun _ ht _ => ht, fun t ht _ => .inl ⟨t, ht, rfl, rfl⟩, hl⟩
theorem MutsA.ext (A : MutsA w x C mt ts tk nm) (hE : Ext x w') : MutsA w w' C mt ts tk nm :=
  ⟨(A.touch.trans (Touch.of_ext hE [])).mono (fun k hk _ => by simpa using hk), A.at_.ext hE, A.old, A.keep, A.rest, A.named, A.len⟩
theorem MutsA.mono (A : MutsA w x C mt ts tk nm) (hC : C ≤ D) : MutsA w x D mt ts tk nm := ⟨A.touch, A.at_.mono hC, A.old, A.keep, A.rest, A.named, A.len⟩
theorem mem_namedT {nm : List ByteArray} {ts : List Tb} {t : Tb} : t ∈ namedT nm ts ↔ t ∈ ts ∧ t.name ∈ nm := by
  unfold namedT
  rw [List.mem_filter]
  simp
theorem MutsA.join (A : MutsA w x C mt ts tk nm) {t t' : Tb} {p : Pa} (ht : t ∈ tk) (hn : t.name ∈ nm) (J : JoinA x w' (C + D) t t' p) : MutsA w w' (C + D) mt ts (kput Tb.name t' tk) nm := by
  have hbl : t'.blocks = t.blocks := by unfold Tb.blocks; rw [J.tb, J.mp, J.ms]
  have hnt : t'.name = t.name := J.name
  have hsz := A.touch.size
  have hfind := kfind_of_mem A.at_.rises ht
  refine ⟨?_, (A.at_.mono (Nat.le_add_right _ _)).turn ht J.touch J.at_ J.name J.tb J.mp J.ms, fun b hb => ?_, fun u hu hun => ?_, fun u hu hun => ?_, fun u hu hun => ?_, ?_⟩
  · refine (A.touch.trans J.touch).mono fun k hk hlt => ?_
    rcases List.mem_append.1 hk with hk | hk
    · exact hk
    · have hkb : k ∈ t.blocks := by simp only [Tb.blocks]; exact List.mem_cons_of_mem _ hk
      rcases A.named t ht hn with ⟨u, hu, hun, hub⟩ | hf
      · exact List.mem_cons_of_mem _ (mem_blocksT.2 ⟨u, mem_namedT.2 ⟨hu, by rw [hun]; exact hn⟩, by rw [← hub]; exact hkb⟩)
      · have := hf k hkb; omega
  · obtain ⟨u, hu, hbu⟩ := mem_blocksT.1 hb
    rcases kput_mem hu with e | hu
    · rw [e, hbl] at hbu
      exact A.old b (mem_blocksT.2 ⟨t, ht, hbu⟩)
    · exact A.old b (mem_blocksT.2 ⟨u, hu, hbu⟩)
  · exact kput_old (A.keep u hu hun) fun e => hun (by rw [e, hnt]; exact hn)
  · rcases kput_mem hu with rfl | hu
    · exact absurd (by rw [hnt]; exact hn) hun
    · exact A.rest u hu hun
  · rcases kput_mem hu with rfl | hu
    · rw [hbl, hnt]
      exact A.named t ht hn
    · exact A.named u hu hun
  · rw [kput_length A.at_.rises, hnt, hfind]
    exact A.len
theorem MutsA.new (A : MutsA w x C mt ts tk nm) {name : ByteArray} {t : Tb} (hn : name ∈ nm) (hl : tk.length < 8) (hf : kfind Tb.name name tk = none) (N : NewT x w' C mt tk name t) : MutsA w w' C mt ts (kput Tb.name t tk) nm := by
  have hsz := A.touch.size
  have htn : t.name = name := N.name
  refine ⟨(A.touch.trans N.touch).mono fun k hk _ => ?_, N.at_, fun b hb => ?_, fun u hu hun => kput_old (A.keep u hu hun) fun e => hun (by rw [e, htn]; exact hn), fun u hu hun => ?_, fun u hu hun => ?_, ?_⟩
  · rcases List.mem_append.1 hk with hk | hk
    · exact hk
    · rw [List.mem_singleton.1 hk]; simp
  · obtain ⟨u, hu, hbu⟩ := mem_blocksT.1 hb
    rcases kput_mem hu with e | hu
    · rw [e] at hbu
      have := N.fresh b hbu
      exact .inr (by omega)
    · exact A.old b (mem_blocksT.2 ⟨u, hu, hbu⟩)
  · rcases kput_mem hu with rfl | hu
    · exact absurd (by rw [htn]; exact hn) hun
    · exact A.rest u hu hun
  · rcases kput_mem hu with rfl | hu
    · exact .inr fun b hb => by have := N.fresh b hb; omega
    · exact A.named u hu hun
  · rw [kput_length A.at_.rises, htn, hf]
    simp; omega
end
theorem mutQ1_old {ts : List Tb} {t : Tb} {m : Mq} (hf : kfind Tb.name m.table ts = some t) : mutQ1 (ts.map Tb.q) m = (joinB t.q m.pt, kput Tq.name (joinT t.q m.pt) (ts.map Tb.q)) := by
  unfold mutQ1 tabQ
  rw [tbq_find, hf]
  rfl
theorem mutQ1_full {ts : List Tb} {m : Mq} (hf : kfind Tb.name m.table ts = none) (hl : 8 ≤ ts.length) : mutQ1 (ts.map Tb.q) m = (false, ts.map Tb.q) := by
  unfold mutQ1
  rw [tbq_find, hf, List.length_map]
  simp [hl]
theorem mutQ1_new {ts : List Tb} {m : Mq} (hf : kfind Tb.name m.table ts = none) (hl : ts.length < 8) : mutQ1 (ts.map Tb.q) m = (joinB ⟨m.table, [], []⟩ m.pt, kput Tq.name (joinT ⟨m.table, [], []⟩ m.pt) (ts.map Tb.q)) := by
  unfold mutQ1 tabQ
  rw [tbq_find, hf, List.length_map]
  rw [if_neg (by simp; omega)]
  rfl
theorem mutsQ_cons (ts : List Tq) (m : Mq) (l : List Mq) : mutsQ ts (m :: l) = if (mutQ1 ts m).1 then mutsQ (mutQ1 ts m).2 l else mutQ1 ts m := rfl
end Go.Proofs.YtimbikbbbfpeeaaGreatDoor

/- A region that draws its order and has a gate: from operation n on each waits for all ahead of n. Ahead of the gate it is walked as in XRegion; behind it as in XRegionE, with relations and facts that are chosen there. -/
namespace Go.Proofs.YtimbikbbbfpeeaaGreatDoor
open Go

/-- From n on each operation waits for all that are ahead of n. -/
def gateB (ops : Array Oper) (n : Nat) : Bool := (List.range ops.size).all fun k => k < n || (List.range n).all fun i => ancB ops ops.size k i
section
variable {P : Program} {ops : Array Oper} {C : World → Prop} {E : World → World → Prop} {T : Nat → Option (Value → World → Prop)} {n N : Nat} {Q Q1 : Exit → Act → World → Prop}
variable (P ops C E T n) (KG : Array Bool → Act → Facts → Prop) in
def wpAnyG : Nat → Array Bool → Act → Facts → Prop
  | 0, listed, a, G => (∀ j ∈ Region.ready .any ops listed, n ≤ j) ∧ KG listed a G
  | fuel + 1, listed, a, G => Region.ready .any ops listed ≠ [] ∧ ∀ i ∈ Region.ready .any ops listed, i < n ∧ rOp P ops C E T i (wpAnyG fuel (listed.setIfInBounds i true)) a G
theorem gate_all {listed : Array Bool} (hd : Down ops listed) (hg : gateB ops n = true) {k : Nat} (hk : n ≤ k) (hi : k ∈ Region.ready .any ops listed) : ∀ j, j < n → listed.getD j false = true := by
  obtain ⟨_, o, ho, hall⟩ := mem_ready.1 hi
  have hlt : k < ops.size := (Array.getElem?_eq_some_iff.1 ho).1
  simp only [gateB, Bool.or_eq_true, decide_eq_true_eq, List.all_eq_true, List.mem_range] at hg
  rcases hg k hlt with h | h
  · omega
  · exact fun j hj => anc_listed hd _ k j o ho hall (h j hj)
theorem gate_low {listed : Array Bool} (hd : Down ops listed) (hg : gateB ops n = true) {i : Nat} (hi : i ∈ Region.ready .any ops listed) (hin : i < n) : ∀ j ∈ Region.ready .any ops listed, j < n := fun j hj => by
  rcases Nat.lt_or_ge j n with h | h
  · exact h
  · exact absurd hi (listed_not_ready (gate_all hd hg h hj i hin))
theorem wpAnyG_first {KG : Array Bool → Act → Facts → Prop} (hT : ∀ i Φ, T i = some Φ → ∀ v w w', E w w' → Φ v w → Φ v w') (hg : gateB ops n = true) {i : Nat} {oi : Oper} (hi : ops[i]? = some oi) (hin : i < n) (hsel : ∀ (j : Nat) (o : Oper) cs b, ops[j]? = some o → o.op ≠ .select cs b) :
    ∀ (fuel : Nat) (listed : Array Bool) (a : Act) (G : Facts), Down ops listed → (∀ j w w', E w w' → G j w → G j w') → Live C G →
      (∀ j oj, ops[j]? = some oj → j ≠ i → listed.getD j true = false → (∀ e ∈ oj.after, Region.binds .any e = true → e.on ≠ i) → oi.apart ops oj = true) →
      i ∈ Region.ready .any ops listed →
      rOp P ops C E T i (wpAnyG P ops C E T n KG fuel (listed.setIfInBounds i true)) a G → wpAnyG P ops C E T n KG (fuel + 1) listed a G := by
  intro fuel
  induction fuel with
  | zero =>
    intro listed a G hd hG hL _ hr H
    refine ⟨fun h => (by rw [h] at hr; cases hr), fun j hj => ⟨gate_low hd hg hr hin j hj, ?_⟩⟩
    by_cases hji : j = i
    · subst hji; exact H
    · exfalso
      have hrj := ready_mono hj hji
      have hjn := gate_low hd hg hr hin j hj
      unfold rOp at H
      simp only [hi] at H
      obtain ⟨V, φ, hO, hn⟩ := H
      obtain ⟨v, hv, hl⟩ := hO.live hG hL
      have := (hn v hv hl).1 j hrj
      omega
  | succ fuel ih =>
    intro listed a G hd hG hL hfree hr H
    refine ⟨fun h => (by rw [h] at hr; cases hr), fun j hj => ⟨gate_low hd hg hr hin j hj, ?_⟩⟩
    by_cases hji : j = i
    · subst hji; exact H
    · have hjn := gate_low hd hg hr hin j hj
      obtain ⟨hjun, oj, hoj, hall⟩ := mem_ready.1 hj
      have hnot : ∀ e ∈ oj.after, Region.binds .any e = true → e.on ≠ i := fun e he hb heq => by
        have h1 := hall e he hb
        have h0 := (mem_ready.1 hr).1
        rw [heq] at h1
        rcases Nat.lt_or_ge i listed.size with h' | h'
        · simp [h'] at h0 h1; rw [h0] at h1; cases h1
        · simp [Array.getElem?_eq_none h'] at h1
      have hfree' : ∀ k ok, ops[k]? = some ok → k ≠ i → (listed.setIfInBounds j true).getD k true = false →
          (∀ e ∈ ok.after, Region.binds .any e = true → e.on ≠ i) → oi.apart ops ok = true := fun k ok hk hki hun hno => by
        refine hfree k ok hk hki ?_ hno
        by_cases hjk : j = k
        · subst hjk; exact hjun
        · rw [getD_set_ne true hjk] at hun; exact hun
      have H2 : rOp P ops C E T i (fun a' G' => rOp P ops C E T j (wpAnyG P ops C E T n KG fuel ((listed.setIfInBounds i true).setIfInBounds j true)) a' G') a G :=
        rOp_mono hL (fun a' G' _ hk => (hk.2 j (ready_mono hj hji)).2) H
      have H3 := rOp_swap hd hr hj hi hoj (hfree j oj hoj hji hjun hnot) (fun cs b => hsel i oi cs b hi) (fun cs b => hsel j oj cs b hoj) hG hL H2
      refine rOp_mono hL (fun a' G' hL' h3 => ih (listed.setIfInBounds j true) a' G' (hd.set hj) h3.1 hL' hfree' (ready_mono hr (Ne.symm hji)) ?_) (rOp_stay hT hG H3)
      have h4 := h3.2
      rw [Array.setIfInBounds_comm _ _ (Ne.symm hji)] at h4
      exact h4
/-- What is known at the gate. -/
def GateK (ops : Array Oper) (C : World → Prop) (Q1 : Exit → Act → World → Prop) (n m : Nat) (listed : Array Bool) (a : Act) (G : Facts) : Prop :=
  Down ops listed ∧ Region.lexFrom .any ops m n listed = true ∧ fin C Q1 a G
theorem wpAnyG_lex (hT : ∀ i Φ, T i = some Φ → ∀ v w w', E w w' → Φ v w → Φ v w') (hg : gateB ops n = true) (hs : Region.noSelect ops = true) (hN : n ≤ N) (hnk : n ≤ ops.size) (m : Nat) : ∀ (l : List Oper) (k : Nat) (listed : Array Bool) (a : Act) (G : Facts), k + l.length = n → Down ops listed → (∀ j, j < k → listed.getD j false = true) → listed.size = ops.size → (∀ j w w', E w w' → G j w → G j w') → Live C G →
    (∀ j, j < l.length → l[j]? = ops[k + j]?) → Region.lexFrom .any ops (l.length + m) k listed = true → wpRel P ops C E T N Q1 l k a G → wpAnyG P ops C E T n (GateK ops C Q1 n m) l.length listed a G
  | [], k, listed, a, G, hk, hd, hup, _, _, _, _, hB, h => by
    obtain rfl : k = n := by simpa using hk
    refine ⟨fun j hj => ?_, hd, by simpa using hB, h⟩
    rcases Nat.lt_or_ge j k with h' | h'
    · exact absurd hj (listed_not_ready (hup j h'))
    · exact h'
  | o :: l, k, listed, a, G, hk, hd, hup, hsz, hG, hL, hl, hB, h => by
    have h0 : ops[k]? = some o := by simpa using (hl 0 (by simp)).symm
    have e : (o :: l).length + m = (l.length + m) + 1 := by simp; omega
    rw [e] at hB
    simp only [Region.lexFrom, Bool.and_eq_true] at hB
    obtain ⟨⟨hr, hf⟩, hB'⟩ := hB
    have hr' : k ∈ Region.ready .any ops listed := by simpa using hr
    simp at hk
    refine wpAnyG_first hT hg h0 (by omega) (Region.noSelect_spec hs) l.length listed a G hd hG hL (Region.free_spec h0 hf) hr' ?_
    simp only [wpRel] at h
    rw [if_neg (by omega)] at h
    have hst : rOp P ops C E T k (wpRel P ops C E T N Q1 l (k + 1)) a G := by unfold rOp; simp only [h0]; exact h
    refine rOp_mono hL (fun a' G' hL' h' => wpAnyG_lex hT hg hs hN hnk m l (k + 1) _ a' G' (by omega) (hd.set hr') (fun j hj => ?_) (by simpa using hsz) h'.1 hL' (fun j hj => by have := hl (j + 1) (by simpa using hj); simpa [Nat.add_assoc, Nat.add_comm 1 j] using this) hB' h'.2) (rOp_stay hT hG hst)
    by_cases hjk : j = k
    · subst hjk
      have : j < listed.size := by omega
      simp [Array.getD, this]
    · rw [getD_set_ne false (Ne.symm hjk)]
      exact hup j (by omega)
theorem wpAny_of_G (hT : ∀ i Φ, T i = some Φ → ∀ v w w', E w w' → Φ v w → Φ v w') (m : Nat) (hend : ∀ (listed : Array Bool) (a : Act) (w : World), Down ops listed → listed.size = ops.size → Region.lexFrom .any ops m n listed = true → Q1 .normal a w → wpAny P .any ops Q m listed a w) :
    ∀ (fuel : Nat) (listed : Array Bool) (a : Act) (G : Facts) (w : World), Down ops listed → listed.size = ops.size → (∀ j w w', E w w' → G j w → G j w') → C w → (∀ j, G j w) → wpAnyG P ops C E T n (GateK ops C Q1 n m) fuel listed a G → wpAny P .any ops Q (fuel + m) listed a w
  | 0, listed, a, _, w, _, hsz, _, hC, hw, h => by
    rw [Nat.zero_add]
    exact hend listed a w h.2.1 hsz h.2.2.1 (h.2.2.2 w hC hw)
  | fuel + 1, listed, a, _, w, hd, hsz, hG, hC, hw, h => by
    have e : fuel + 1 + m = (fuel + m) + 1 := by omega
    rw [e]
    exact ⟨fun h0 => absurd h0 h.1, fun i hi => wpOp_of_rOp hT hG hC hw (fun a' G' w' hG' hC' hw' hk => wpAny_of_G hT m hend fuel _ a' G' w' (hd.set hi) (by simpa using hsz) hG' hC' hw' hk) (h.2 i hi).2⟩
end

/-- What is owed at the gate: a relation for each operation behind it, a table of facts, the walk. -/
structure Gate (P : Program) (l : List Oper) (n : Nat) (Q : Exit → Act → World → Prop) (a : Act) (w : World) : Prop where
  go : ∃ (C : World → Prop) (E : Nat → World → World → Prop) (T : Nat → Option (List Value → Value → World → Prop)) (n2 : Nat), (∀ i Φ, T i = some Φ → ∀ A k v w w', k ≠ i → E k w w' → Φ A v w → Φ A v w') ∧ tailB l.toArray n2 = true ∧ C w ∧ wpRelE P l.toArray C E T n2 Q (l.drop n) n a Facts.top
/-- **A region with a gate at n.** N: a number from n on. -/
theorem wp_region_gate {P : Program} {id : Nat} {Q : Exit → Act → World → Prop} {a : Act} {w : World} {l : List Oper} (n : Nat) (L : Tab) (hg : gateB l.toArray n = true) (hn : n ≤ l.length) (hm : P.follows .mixedOrders = true) (hB : Region.lexB .any l.toArray = true) (hT : TabOK L)
    (h : wpRel P l.toArray (Ext w) Ext L.at l.length (fun _ a' w' => Gate P l n Q a' w') (l.take n) 0 a Facts.top) : (Code.region id l.toArray true).wp P Q a w := by
  simp only [Region.lexB, Bool.and_eq_true] at hB
  have hG : ∀ (j : Nat) (w w' : World), Ext w w' → Facts.top j w → Facts.top j w' := fun _ _ _ _ h => h
  have hd : Down l.toArray (Array.replicate l.toArray.size false) := by
    intro k o _ hk
    simp only [Array.getD, Array.size_replicate] at hk
    split at hk
    · simp at hk
    · cases hk
  have hlen : (l.take n).length = n := by simp; omega
  have hsum : n + (l.length - n) = l.length := by omega
  refine wp_region_any hm ?_
  have hS := wpAnyG_lex (P := P) (C := Ext w) (Q1 := fun _ a' w' => Gate P l n Q a' w') (N := l.length) (Tab.stays hT) hg hB.1 (by simpa using hn) (by simpa using hn) (l.length - n) (l.take n) 0 (Array.replicate l.toArray.size false) a Facts.top (by rw [hlen]; omega) hd (fun j hj => by omega) (by simp) hG ⟨_, (Ext.refl w).drew, fun _ => trivial⟩
    (fun j hj => by rw [hlen] at hj; simp [hj]) (by rw [hlen, hsum]; simpa using hB.2) h
  rw [hlen] at hS
  have := wpAny_of_G (P := P) (Q := Q) (Tab.stays hT) (l.length - n) (fun listed a w hd hsz hB2 hGa => ?_) n _ a Facts.top w.drew hd (by simp) hG (Ext.refl w).drew (fun _ => trivial) hS
  · rw [hsum] at this
    simpa using this
  · obtain ⟨C2, E2, T2, n2, hT2, hn2, hC2, hw2⟩ := hGa.go
    have hF : ∀ j, Fresh Facts.top j := fun _ _ => trivial
    have hl2 : (l.drop n).length = l.length - n := by simp
    have hlex := wpAnyR_lexE (C := C2) hT2 hn2 hB.1 (l.drop n) n listed a Facts.top hd (fun _ _ _ _ _ _ h => h) (fun j _ => hF j) ⟨w, hC2, fun _ => trivial⟩ (fun j => by simp) (by rw [hl2]; exact hB2) hw2
    rw [hl2] at hlex
    exact wpAny_of_RE hT2 hn2 _ listed a Facts.top w hd hsz (fun _ _ _ _ _ _ h => h) (fun j _ => hF j) hC2 (fun _ => trivial) hlex
end Go.Proofs.YtimbikbbbfpeeaaGreatDoor

/- store: (*Store).muts: mutations joined. -/
namespace Go.Proofs.YtimbikbbbfpeeaaGreatDoor
open Go Go.RowKit
attribute [local go_sem] yields yUpon

theorem mutsQ_drop {ts : List Tq} {M : List Mq} {k : Nat} (h : k < M.length) : mutsQ ts (M.drop k) = if (mutQ1 ts M[k]).1 then mutsQ (mutQ1 ts M[k]).2 (M.drop (k + 1)) else mutQ1 ts M[k] := by
  rw [List.drop_eq_getElem_cons h, mutsQ_cons]

/-- While a new table is made: operation n turns the map. -/
def OfE (n k : Nat) (x y : World) : Prop := k ≠ n → Ext x y
theorem OfE_off {n k : Nat} {x y : World} (hk : k ≠ n) (h : OfE n k x y) : Ext x y := h hk
structure OfC (w0 : World) (C m : Nat) (ts : List Tb) (name : ByteArray) (b : Nat) (ky : ByteArray) (gn : Int) (rv : Value) (rs : List (Ro × Value)) (y : World) : Prop where
  box : BoxAt y b #[.string name, .string ky, .int .i64 gn, rv] 54
  rows : RowsT y rv rs
  st : Ext w0 y ∨ ∃ t w3, NewT w0 w3 C m ts name t ∧ Ext w3 y

def OfF (w0 : World) (C m : Nat) (ts : List Tb) (name : ByteArray) (v : Value) (y : World) : Prop := ∃ (t : Tb) (w3 : World), v = .pointer (some ⟨t.tb, 0, none⟩) ∧ NewT w0 w3 C m ts name t ∧ Ext w3 y
theorem OfF.ext {w0 x y : World} {C m : Nat} {ts : List Tb} {name : ByteArray} {v : Value} (hE : Ext x y) (h : OfF w0 C m ts name v x) : OfF w0 C m ts name v y := let ⟨t, w3, h1, h2, h3⟩ := h; ⟨t, w3, h1, h2, h3.trans hE⟩
theorem NewT.from_ {w0 w w' : World} {C m : Nat} {ts : List Tb} {name : ByteArray} {t : Tb} (hE : Ext w0 w) (h : NewT w w' C m ts name t) : NewT w0 w' C m ts name t :=
  ⟨((Touch.of_ext hE []).trans h.touch).mono (fun k hk _ => by simpa using hk), h.at_, h.name, h.parts, h.since, fun b hb => Nat.le_trans hE.size (h.fresh b hb)⟩
theorem OfC.mem {w0 y y' : World} {C m b : Nat} {ts : List Tb} {name ky : ByteArray} {gn : Int} {rv : Value} {rs : List (Ro × Value)} (h : OfC w0 C m ts name b ky gn rv rs y) (hE : Ext y y') : OfC w0 C m ts name b ky gn rv rs y' :=
  ⟨h.box.ext hE, h.rows.ext hE, h.st.imp (fun h => h.trans hE) (fun ⟨t, w3, h1, h2⟩ => ⟨t, w3, h1, h2.trans hE⟩)⟩
theorem of_turn {w0 y : World} {C m b ps : Nat} {ts : List Tb} {name ky : ByteArray} {gn : Int} {rv : Value} {rs : List (Ro × Value)} (hp : w0.cell? ⟨ps, 1, none⟩ = some (.map (some m))) (hpm : ps ≠ m) (h0 : TbsAt w0 C m ts) (hk : name.size ≤ 1000000) (hf : kfind Tb.name name ts = none) (hlen : ts.length ≤ 1000)
    (h : OfC w0 C m ts name b ky gn rv rs y) :
    Calls Tryz.prog 129 #[.pointer (some ⟨ps, 0, none⟩), .string name] y fun e w' => ∃ v, e = .returned v ∧ OfC w0 C m ts name b ky gn rv rs w' ∧ OfF w0 C m ts name v w' := by
  rcases h.st with hE | ⟨t, w3, hN, hE⟩
  · refine (of_new ps name y (hE.cell hp) hpm (h0.ext hE) hk hf hlen).mono ?_
    rintro e w' ⟨t, rfl, hN⟩
    have hno : ∀ e, NoBox y [m] e := fun e => NoBox.smap (h0.map.ext hE) e
    refine ⟨_, rfl, ⟨hN.touch.box h.box fun hb => hno _ _ hb _ h.box, hN.touch.rowsT (hno _) (hno _) h.rows, .inr ⟨t, w', hN.from_ hE, Ext.refl _⟩⟩, ⟨t, w', rfl, hN.from_ hE, Ext.refl _⟩⟩
  · refine (of_old ps name t y (hE.cell (hN.touch.cell hp (by simpa using hpm))) (hN.at_.ext hE) hk ?_).mono ?_
    · rw [kfind_put h0.rises, hN.name, if_pos rfl]
    · rintro e w' ⟨rfl, rfl⟩
      exact ⟨_, rfl, h, ⟨t, w3, rfl, hN, hE⟩⟩

set_option maxRecDepth 100000 in
set_option maxHeartbeats 8000000 in
theorem muts_any (ps : Nat) (v : Value) (M : List Mt) (ts : List Tb) (C D mt : Nat) (w : World) (hp : w.cell? ⟨ps, 1, none⟩ = some (.map (some mt))) (hps : ps ∉ mt :: blocksT ts) (h : TbsAt w C mt ts) (hl : ts.length ≤ 8) (hM : MtsT w v M)
    (hMo : ∀ x ∈ M, x.table.size ≤ 1000000 ∧ x.pa.key.size ≤ 1000000 ∧ x.pa.ps.length ≤ 100 ∧ ∀ r ∈ x.pa.ps, r.1.cols.length ≤ D) (hC : C + M.length * D ≤ 400000) :
    Calls Tryz.prog 78 #[.pointer (some ⟨ps, 0, none⟩), v] w fun e w' => ∃ ts', e = .returned (.bool (mutsQ (ts.map Tb.q) (M.map Mt.q)).1) ∧ MutsA w w' (C + M.length * D) mt ts ts' (M.map Mt.table) ∧ ts'.map Tb.q = (mutsQ (ts.map Tb.q) (M.map Mt.q)).2 := by
  have hMt := hM
  obtain ⟨am, cm, rfl, hcm, hcmm, _⟩ := hM.mts.get
  obtain ⟨n, hn⟩ : ∃ n, n = M.length := ⟨_, rfl⟩
  obtain ⟨nm, hnm⟩ : ∃ nm, nm = M.map Mt.table := ⟨_, rfl⟩
  obtain ⟨R, hR⟩ : ∃ R, R = mutsQ (ts.map Tb.q) (M.map Mt.q) := ⟨_, rfl⟩
  rw [← hn] at hcm hC hMt ⊢
  rw [← hnm, ← hR]
  have HN := Lib.hid hn
  have HNM := Lib.hid hnm
  have HR := Lib.hid hR
  have HM := Lib.hid hMt
  have HMO := Lib.hid hMo
  have HH := Lib.hid h
  have HPS := Lib.hid hps
  have hpsl := (World.block_lt_of_cell? w _ hp)
  simp only at hpsl
  have hno : ∀ wr tk x, MutsA w wr x mt ts tk nm → (∀ e, 99 ≠ e → NoBox w (mt :: blocksT (namedT nm ts)) e) ∧ ps ∉ mt :: blocksT (namedT nm ts) := fun wr tk x A => by
    have hsub : ∀ b ∈ mt :: blocksT (namedT nm ts), b ∈ mt :: blocksT ts := fun b hb => by
      rcases List.mem_cons.1 hb with rfl | hb
      · simp
      · obtain ⟨t, ht, hb⟩ := mem_blocksT.1 hb
        exact List.mem_cons_of_mem _ (mem_blocksT.2 ⟨t, (mem_namedT.1 ht).1, hb⟩)
    exact ⟨fun e he => (HH.out.noBox he).sub hsub, fun hb => HPS.out (hsub _ hb)⟩
  have HNO := Lib.hid hno
  have hst := MutsA.start h hl nm
  have HP := Lib.hid hp
  clear hn hnm hR hMt hMo h hps hM hno hp
  go_enter Tryz.func78, Tryz.ntmps78
  go_wp2
  go_loopw [9] (fun i wr => ∃ (k : Nat) (tk : List Tb), k ≤ n ∧ i = .int .i64 (k : Int) ∧ MutsA w wr (C + k * D) mt ts tk nm ∧ Hid (R = mutsQ (tk.map Tb.q) ((M.map Mt.q).drop k))) (fun i _ => n - (intOf i).toNat)
  case atStart => exact ⟨0, ts, Nat.zero_le _, rfl, hst.mono (by omega), HR.out⟩
  case round =>
    obtain ⟨k, tk, hk, rfl, A, HRk⟩ := hrel
    clear hst
    obtain ⟨hnb, hpn⟩ := HNO.out wr tk _ A
    have hp1 := A.touch.cell HP.out hpn
    by_cases hlt : k < n
    · have hkF : k < M.length := by rw [← HN.out]; exact hlt
      have hMr : MtsT wr (.slice am n cm) M := ⟨A.touch.tin (hnb _ (by decide)) HM.out.tin, fun m hm => A.touch.rowsT (hnb _ (by decide)) (hnb _ (by decide)) (HM.out.rows m hm)⟩
      obtain ⟨a1, c1, ee, _, _, hget⟩ := hMr.mts.get
      injection ee with ea en ec
      subst ea
      clear en ec
      obtain ⟨b, o, e1, ⟨g0, g1, g2, g3⟩⟩ := hget k hkF
      subst e1
      obtain ⟨ra, rc, hrv⟩ := (hMr.rows _ (List.getElem_mem hkF)).shape
      have hrw := hMr.rows _ (List.getElem_mem hkF)
      rw [hrv] at g3 hrw
      obtain ⟨q1, q2, q3, q4⟩ := HMO.out _ (List.getElem_mem hkF)
      have hstep : R = if (mutQ1 (tk.map Tb.q) (M[k]).q).1 then mutsQ (mutQ1 (tk.map Tb.q) (M[k]).q).2 ((M.map Mt.q).drop (k + 1)) else mutQ1 (tk.map Tb.q) (M[k]).q := by
        rw [HRk.out, mutsQ_drop (by simpa using hkF), List.getElem_map]
      have hnk : (M[k]).table ∈ nm := by rw [HNM.out]; exact List.mem_map_of_mem (List.getElem_mem hkF)
      have hqq : (M[k]).q = ⟨(M[k]).table, ⟨(M[k]).pa.key, (M[k]).pa.gone, (M[k]).pa.ps.map (·.1)⟩⟩ := rfl
      obtain ⟨tb, htb⟩ : ∃ t, t = (M[k]).table := ⟨_, rfl⟩
      obtain ⟨ky, hky⟩ : ∃ t, t = (M[k]).pa.key := ⟨_, rfl⟩
      obtain ⟨gn, hgn⟩ : ∃ t, t = (M[k]).pa.gone := ⟨_, rfl⟩
      obtain ⟨rs, hrs⟩ : ∃ t, t = (M[k]).pa.ps := ⟨_, rfl⟩
      rw [hqq] at hstep
      rw [← htb, ← hky, ← hgn, ← hrs] at hstep
      rw [← htb] at g0 q1 hnk
      rw [← hky] at g1 q2
      rw [← hgn] at g2
      rw [← hrs] at g3 hrw q3 q4
      obtain ⟨rn, hrn⟩ : ∃ n, n = rs.length := ⟨_, rfl⟩
      rw [← hrn] at g3 hrw
      have HST := Lib.hid hstep
      have hCk : C + k * D + D ≤ 400000 := by
        have h1 : (k + 1) * D ≤ n * D := Nat.mul_le_mul_right D hlt
        rw [Nat.add_mul, Nat.one_mul] at h1
        omega
      have eCk : C + k * D + D = C + (k + 1) * D := by rw [Nat.add_mul, Nat.one_mul]; omega
      have HEC := Lib.hid eCk
      clear hqq htb hky hgn hrs hrv hrn hstep hget hMr HRk hnb hpn eCk
      obtain ⟨W, hW⟩ : ∃ W, W = wr.alloc (.cells #[.string tb, .string ky, .int .i64 gn, .slice ra rn rc] 54) := ⟨_, rfl⟩
      have hEW : Ext wr W := by rw [hW]; exact (Ext.refl wr).alloc _
      have hbm : BoxAt W wr.heap.size #[.string tb, .string ky, .int .i64 gn, .slice ra rn rc] 54 := by rw [hW]; exact BoxAt.made wr _ _
      have hpW := hEW.cell hp1
      have AW := A.ext hEW
      have hrW := hrw.ext hEW
      have t1 : decide ((k : Int) < (n : Int)) = true := by simp; omega
      have hlook : ∀ w', Ext wr w' → (Instr.lookup 73 (.map (some mt)) (.string tb) false).run Tryz.prog w' = .ok (((kfind Tb.name tb tk).map fun t => .pointer (some ⟨t.tb, 0, none⟩)).getD (.pointer none)) w' := fun w' hE' => tabs_look (A.at_.ext hE') q1
      have HLK := Lib.hid hlook
      have hp0 := hp1
      have hrW0 := hrw
      clear hlook
      have HQ4 := Lib.hid q4
      clear hp1 hrw q4
      cases hf : kfind Tb.name tb tk with
      | some t =>
        obtain ⟨htm, htn⟩ := kfind_some hf
        rw [hf] at HLK
        simp only [Option.map_some, Option.getD_some] at HLK
        have K1 : ∀ w', Ext wr w' → Calls Tryz.prog 130 #[.pointer (some ⟨t.tb, 0, none⟩), .agg #[.string ky, .int .i64 gn, .slice ra rn rc]] w' fun e w'' => ∃ t', e = .returned (.bool (joinB t.q ⟨ky, gn, rs.map (·.1)⟩)) ∧ JoinA w' w'' (C + k * D + D) t t' ⟨ky, gn, .slice ra rn rc, rs⟩ := fun w' hE' =>
          tjoin_any ⟨ky, gn, .slice ra rn rc, rs⟩ w' ((A.at_.ext hE').tabs t htm) ((hrW0.ext hE')) q2 q3 HQ4.out hCk
        have hm1 := mutQ1_old (m := ⟨tb, ⟨ky, gn, rs.map (·.1)⟩⟩) hf
        rw [hm1] at HST
        have HK1 := Lib.hid K1
        obtain ⟨bj, hbj⟩ : ∃ b, b = joinB t.q ⟨ky, gn, rs.map (·.1)⟩ := ⟨_, rfl⟩
        rw [← hbj] at HST HK1
        have K2 : ∀ w', Ext wr w' → Calls Tryz.prog 129 #[.pointer (some ⟨ps, 0, none⟩), .string tb] w' fun e w'' => e = .returned (.pointer (some ⟨t.tb, 0, none⟩)) ∧ w' = w'' := fun w' hE' => of_old ps tb t w' (hE'.cell hp0) (A.at_.ext hE') q1 hf
        have HK2 := Lib.hid K2
        have HTM := Lib.hid htm
        have HTN := Lib.hid htn
        have HA := Lib.hid A
        clear hbj K1 K2 hm1 hf htm htn A AW
        cases bj
        case false =>
          go_wp2_with fail
          rw [← hW]
          clear hW
          refine wp_region_tab 23 [(1, fun v _ => v = .pointer (some ⟨ps, 0, none⟩)), (6, fun v _ => v = .pointer (some ⟨t.tb, 0, none⟩)), (20, fun v _ => v = .pointer (some ⟨t.tb, 0, none⟩))] (by kernel_rfl) (by kernel_rfl) (by kernel_rfl) ⟨stays_eq _, stays_eq _, stays_eq _, trivial⟩ ?_
          have z0 := held hpW
          have m0 := held (show W.cell? ⟨wr.heap.size, 0, none⟩ = some (.string tb) by rw [hbm.cell]; rfl)
          have m1 := held (show W.cell? ⟨wr.heap.size, 1, none⟩ = some (.string ky) by rw [hbm.cell]; rfl)
          have m2 := held (show W.cell? ⟨wr.heap.size, 2, none⟩ = some (.int .i64 gn) by rw [hbm.cell]; rfl)
          have m3 := held (show W.cell? ⟨wr.heap.size, 3, none⟩ = some (.slice ra rn rc) by rw [hbm.cell]; rfl)
          refine rg_quiet rfl rfl rfl rfl ?_; intro K hK; go_big_quiet_op; go_big_quiet_on
          refine rg_val [] rfl rfl rfl (by kernel_rfl) (fun w1 hE hf => ?_) ?_
          · go_simp
            exact rg_done hE (Ext.refl w1) rfl
          simp only [Act.put, List.setIfInBounds_toArray, List.set_cons_zero, List.set_cons_succ]
          refine rg_quiet rfl rfl rfl rfl ?_; intro K hK; go_big_quiet_op; go_big_quiet_on
          refine rg_quiet rfl rfl rfl rfl ?_; intro K hK; go_big_quiet_op; go_big_quiet_on
          refine rg_quiet rfl rfl rfl rfl ?_; intro K hK; go_big_quiet_op; go_big_quiet_on
          refine rg_quiet rfl rfl rfl rfl ?_; intro K hK; go_big_quiet_op; go_big_quiet_on
          refine rg_val [] rfl rfl rfl (by kernel_rfl) (fun w1 hE1 hf => ?_) ?_
          · exact yields_lookup (.tmp 16) (.tmp 18) rfl (by rfl) (by rfl) (HLK.out w1 (hEW.trans hE1)) (rg_done hE1 (Ext.refl w1) rfl)
          simp only [Act.put, List.setIfInBounds_toArray, List.set_cons_zero, List.set_cons_succ]
          refine rg_quiet rfl rfl rfl rfl ?_; intro K hK; go_big_quiet_op; go_big_quiet_on
          refine rg_quiet rfl rfl rfl rfl ?_; intro K hK; go_big_quiet_op; go_big_quiet_on
          refine rel_skip rfl rfl ?_
          simp only [Act.put, List.setIfInBounds_toArray, List.set_cons_zero, List.set_cons_succ]
          refine rel_skip rfl rfl ?_
          simp only [Act.put, List.setIfInBounds_toArray, List.set_cons_zero, List.set_cons_succ]
          refine rel_skip rfl rfl ?_
          simp only [Act.put, List.setIfInBounds_toArray, List.set_cons_zero, List.set_cons_succ]
          refine rel_skip rfl rfl ?_
          simp only [Act.put, List.setIfInBounds_toArray, List.set_cons_zero, List.set_cons_succ]
          refine rel_skip rfl rfl ?_
          simp only [Act.put, List.setIfInBounds_toArray, List.set_cons_zero, List.set_cons_succ]
          refine rel_skip rfl rfl ?_
          simp only [Act.put, List.setIfInBounds_toArray, List.set_cons_zero, List.set_cons_succ]
          refine rg_quiet rfl rfl rfl rfl ?_; intro K hK; go_big_quiet_op; go_big_quiet_on
          refine rg_quiet rfl rfl rfl rfl ?_; intro K hK; go_big_quiet_op; go_big_quiet_on
          refine rg_quiet rfl rfl rfl rfl ?_; intro K hK; go_big_quiet_op; go_big_quiet_on
          refine rg_quiet rfl rfl rfl rfl ?_; intro K hK; go_big_quiet_op; go_big_quiet_on
          refine rg_quiet rfl rfl rfl rfl ?_; intro K hK; go_big_quiet_op; go_big_quiet_on
          refine rg_val [] rfl rfl rfl (by kernel_rfl) (fun w1 hE1 hf => ?_) ?_
          · go_simp
            exact (HK2.out w1 (hEW.trans hE1)).mono fun e w' ⟨he, hw⟩ => ⟨_, he, rg_done hE1 (hw ▸ Ext.refl w1) rfl⟩
          simp only [Act.put, List.setIfInBounds_toArray, List.set_cons_zero, List.set_cons_succ]
          refine rg_quiet rfl rfl rfl rfl ?_; intro K hK; go_big_quiet_op; go_big_quiet_on
          refine rg_quiet rfl rfl rfl rfl ?_; intro K hK; go_big_quiet_op; go_big_quiet_on
          refine rel_tail rfl rfl fun w2 hE2 hG => ?_
          clear hG z0 m0 m1 m2 m3
          go_wp2_with (go_at_call 130; go_must (refine (HK1.out w2 (hEW.trans hE2)).mono ?_); rintro e w3 ⟨t', rfl, hJ⟩)
          have A3 := (HA.out.ext (hEW.trans hE2)).join HTM.out (by rw [HTN.out]; exact hnk) hJ
          refine bodyPost_ret (v := .bool false) ?_ rfl ?_
          · simp [results, Tryz.results78, go_sem]
          have e2 := HST.out
          rw [if_neg (by decide)] at e2
          rw [e2]
          refine ⟨_, rfl, A3.mono ?_, ?_⟩
          · rw [HEC.out]
            have := Nat.mul_le_mul_right D hlt
            simp at this ⊢; omega
          · rw [tbq_kput, hJ.q]; rfl
        case true =>
          go_wp2_with fail
          rw [← hW]
          clear hW
          refine wp_region_tab 23 [(1, fun v _ => v = .pointer (some ⟨ps, 0, none⟩)), (6, fun v _ => v = .pointer (some ⟨t.tb, 0, none⟩)), (20, fun v _ => v = .pointer (some ⟨t.tb, 0, none⟩))] (by kernel_rfl) (by kernel_rfl) (by kernel_rfl) ⟨stays_eq _, stays_eq _, stays_eq _, trivial⟩ ?_
          have z0 := held hpW
          have m0 := held (show W.cell? ⟨wr.heap.size, 0, none⟩ = some (.string tb) by rw [hbm.cell]; rfl)
          have m1 := held (show W.cell? ⟨wr.heap.size, 1, none⟩ = some (.string ky) by rw [hbm.cell]; rfl)
          have m2 := held (show W.cell? ⟨wr.heap.size, 2, none⟩ = some (.int .i64 gn) by rw [hbm.cell]; rfl)
          have m3 := held (show W.cell? ⟨wr.heap.size, 3, none⟩ = some (.slice ra rn rc) by rw [hbm.cell]; rfl)
          refine rg_quiet rfl rfl rfl rfl ?_; intro K hK; go_big_quiet_op; go_big_quiet_on
          refine rg_val [] rfl rfl rfl (by kernel_rfl) (fun w1 hE hf => ?_) ?_
          · go_simp
            exact rg_done hE (Ext.refl w1) rfl
          simp only [Act.put, List.setIfInBounds_toArray, List.set_cons_zero, List.set_cons_succ]
          refine rg_quiet rfl rfl rfl rfl ?_; intro K hK; go_big_quiet_op; go_big_quiet_on
          refine rg_quiet rfl rfl rfl rfl ?_; intro K hK; go_big_quiet_op; go_big_quiet_on
          refine rg_quiet rfl rfl rfl rfl ?_; intro K hK; go_big_quiet_op; go_big_quiet_on
          refine rg_quiet rfl rfl rfl rfl ?_; intro K hK; go_big_quiet_op; go_big_quiet_on
          refine rg_val [] rfl rfl rfl (by kernel_rfl) (fun w1 hE1 hf => ?_) ?_
          · exact yields_lookup (.tmp 16) (.tmp 18) rfl (by rfl) (by rfl) (HLK.out w1 (hEW.trans hE1)) (rg_done hE1 (Ext.refl w1) rfl)
          simp only [Act.put, List.setIfInBounds_toArray, List.set_cons_zero, List.set_cons_succ]
          refine rg_quiet rfl rfl rfl rfl ?_; intro K hK; go_big_quiet_op; go_big_quiet_on
          refine rg_quiet rfl rfl rfl rfl ?_; intro K hK; go_big_quiet_op; go_big_quiet_on
          refine rel_skip rfl rfl ?_
          simp only [Act.put, List.setIfInBounds_toArray, List.set_cons_zero, List.set_cons_succ]
          refine rel_skip rfl rfl ?_
          simp only [Act.put, List.setIfInBounds_toArray, List.set_cons_zero, List.set_cons_succ]
          refine rel_skip rfl rfl ?_
          simp only [Act.put, List.setIfInBounds_toArray, List.set_cons_zero, List.set_cons_succ]
          refine rel_skip rfl rfl ?_
          simp only [Act.put, List.setIfInBounds_toArray, List.set_cons_zero, List.set_cons_succ]
          refine rel_skip rfl rfl ?_
          simp only [Act.put, List.setIfInBounds_toArray, List.set_cons_zero, List.set_cons_succ]
          refine rel_skip rfl rfl ?_
          simp only [Act.put, List.setIfInBounds_toArray, List.set_cons_zero, List.set_cons_succ]
          refine rg_quiet rfl rfl rfl rfl ?_; intro K hK; go_big_quiet_op; go_big_quiet_on
          refine rg_quiet rfl rfl rfl rfl ?_; intro K hK; go_big_quiet_op; go_big_quiet_on
          refine rg_quiet rfl rfl rfl rfl ?_; intro K hK; go_big_quiet_op; go_big_quiet_on
          refine rg_quiet rfl rfl rfl rfl ?_; intro K hK; go_big_quiet_op; go_big_quiet_on
          refine rg_quiet rfl rfl rfl rfl ?_; intro K hK; go_big_quiet_op; go_big_quiet_on
          refine rg_val [] rfl rfl rfl (by kernel_rfl) (fun w1 hE1 hf => ?_) ?_
          · go_simp
            exact (HK2.out w1 (hEW.trans hE1)).mono fun e w' ⟨he, hw⟩ => ⟨_, he, rg_done hE1 (hw ▸ Ext.refl w1) rfl⟩
          simp only [Act.put, List.setIfInBounds_toArray, List.set_cons_zero, List.set_cons_succ]
          refine rg_quiet rfl rfl rfl rfl ?_; intro K hK; go_big_quiet_op; go_big_quiet_on
          refine rg_quiet rfl rfl rfl rfl ?_; intro K hK; go_big_quiet_op; go_big_quiet_on
          refine rel_tail rfl rfl fun w2 hE2 hG => ?_
          clear hG z0 m0 m1 m2 m3
          go_wp2_with (go_at_call 130; go_must (refine (HK1.out w2 (hEW.trans hE2)).mono ?_); rintro e w3 ⟨t', rfl, hJ⟩)
          have A3 := (HA.out.ext (hEW.trans hE2)).join HTM.out (by rw [HTN.out]; exact hnk) hJ
          go_roundw
          case rel =>
            refine ⟨k + 1, _, by omega, by go_num, A3.mono (by rw [HEC.out]; exact Nat.le_refl _), Lib.hid ?_⟩
            have e2 := HST.out
            simp only [↓reduceIte] at e2
            rw [e2, tbq_kput, hJ.q]
            rfl
          case measure => simp [intOf]; omega
      | none =>
        by_cases h8 : tk.length < 8
        · rw [hf] at HLK
          simp only [Option.map_none, Option.getD_none] at HLK
          have hm1 := mutQ1_new (m := ⟨tb, ⟨ky, gn, rs.map (·.1)⟩⟩) hf h8
          rw [hm1] at HST
          have hln : ∀ w', Ext wr w' → (Builtin.len_ #[73] 3 #[.map (some mt)]).run Tryz.prog w' = .ok (.int .i64 (tk.length : Int)) w' := fun w' hE' => tabs_len (A.at_.ext hE') _
          have HLN := Lib.hid hln
          have h8' : decide ((8 : Int) ≤ (tk.length : Int)) = false := by simp; omega
          have HA := Lib.hid A
          have HF := Lib.hid hf
          have HH8 := Lib.hid h8
          clear hm1 hf A AW hln h8
          obtain ⟨bj, hbj⟩ : ∃ b, b = joinB ⟨tb, [], []⟩ ⟨ky, gn, rs.map (·.1)⟩ := ⟨_, rfl⟩
          rw [← hbj] at HST
          have HBJ := Lib.hid hbj
          clear hbj
          have hpne : ps ≠ mt := fun e => HPS.out (by rw [e]; simp)
          have K3 : ∀ w2, Ext wr w2 → ∀ w3 t, NewT w2 w3 (C + k * D) mt tk tb t → ∀ w4, Ext w3 w4 → RowsT w4 (.slice ra rn rc) rs → Calls Tryz.prog 130 #[.pointer (some ⟨t.tb, 0, none⟩), .agg #[.string ky, .int .i64 gn, .slice ra rn rc]] w4 fun e w' => ∃ t', e = .returned (.bool bj) ∧ MutsA w w' (C + k * D + D) mt ts (kput Tb.name t' (kput Tb.name t tk)) nm ∧ t'.q = joinT ⟨tb, [], []⟩ ⟨ky, gn, rs.map (·.1)⟩ ∧ t'.name = t.name := fun w2 h2 w3 t hN w4 h4 hr => by
            have hA3 := ((HA.out.ext h2).new hnk HH8.out HF.out hN).ext h4
            have htm : t ∈ kput Tb.name t tk := mem_kput t tk
            have htq : t.q = ⟨tb, [], []⟩ := by
              show (⟨t.name, t.parts.map Pa.q, t.since⟩ : Tq) = _
              rw [hN.name, hN.parts, hN.since]; rfl
            refine (tjoin_any ⟨ky, gn, .slice ra rn rc, rs⟩ w4 (hA3.at_.tabs t htm) hr q2 q3 HQ4.out hCk).mono ?_
            rintro e w' ⟨t', rfl, hJ⟩
            refine ⟨t', ?_, hA3.join htm (by rw [hN.name]; exact hnk) hJ, ?_, hJ.name⟩
            · rw [HBJ.out, htq]; rfl
            · rw [hJ.q, htq]; rfl
          have HK3 := Lib.hid K3
          clear K3
          cases bj
          case false =>
            go_wp2_with fail
            rw [← hW]
            clear hW
            refine wp_region_gate 17 [(1, fun v _ => v = .pointer (some ⟨ps, 0, none⟩)), (6, fun v _ => v = .pointer none), (10, fun v _ => v = .pointer (some ⟨ps, 0, none⟩)), (13, fun v _ => v = .int .i64 (tk.length : Int))] (by kernel_rfl) (by simp) (by kernel_rfl) (by kernel_rfl) ⟨stays_eq _, stays_eq _, stays_eq _, stays_eq _, trivial⟩ ?_
            have z0 := held hpW
            have m0 := held (show W.cell? ⟨wr.heap.size, 0, none⟩ = some (.string tb) by rw [hbm.cell]; rfl)
            simp only [List.take_succ_cons, List.take_zero]
            refine rg_quiet rfl rfl rfl rfl ?_; intro K hK; go_big_quiet_op; go_big_quiet_on
            refine rg_val [] rfl rfl rfl (by kernel_rfl) (fun w1 hE hf => ?_) ?_
            · go_simp
              exact rg_done hE (Ext.refl w1) rfl
            simp only [Act.put, List.setIfInBounds_toArray, List.set_cons_zero, List.set_cons_succ]
            refine rg_quiet rfl rfl rfl rfl ?_; intro K hK; go_big_quiet_op; go_big_quiet_on
            refine rg_quiet rfl rfl rfl rfl ?_; intro K hK; go_big_quiet_op; go_big_quiet_on
            refine rg_quiet rfl rfl rfl rfl ?_; intro K hK; go_big_quiet_op; go_big_quiet_on
            refine rg_quiet rfl rfl rfl rfl ?_; intro K hK; go_big_quiet_op; go_big_quiet_on
            refine rg_val [] rfl rfl rfl (by kernel_rfl) (fun w1 hE1 hf => ?_) ?_
            · exact yields_lookup (.tmp 16) (.tmp 18) rfl (by rfl) (by rfl) (HLK.out w1 (hEW.trans hE1)) (rg_done hE1 (Ext.refl w1) rfl)
            simp only [Act.put, List.setIfInBounds_toArray, List.set_cons_zero, List.set_cons_succ]
            refine rg_quiet rfl rfl rfl rfl ?_; intro K hK; go_big_quiet_op; go_big_quiet_on
            refine rg_quiet rfl rfl rfl rfl ?_; intro K hK; go_big_quiet_op; go_big_quiet_on
            refine rg_quiet rfl rfl rfl rfl ?_; intro K hK; go_big_quiet_op; go_big_quiet_on
            refine rg_val [] rfl rfl rfl (by kernel_rfl) (fun w1 hE hf => ?_) ?_
            · go_simp
              exact rg_done hE (Ext.refl w1) rfl
            simp only [Act.put, List.setIfInBounds_toArray, List.set_cons_zero, List.set_cons_succ]
            refine rg_quiet rfl rfl rfl rfl ?_; intro K hK; go_big_quiet_op; go_big_quiet_on
            refine rg_quiet rfl rfl rfl rfl ?_; intro K hK; go_big_quiet_op; go_big_quiet_on
            refine rg_val [] rfl rfl rfl (by kernel_rfl) (fun w1 hE1 hf => ?_) ?_
            · go_simp
              rw [HLN.out w1 (hEW.trans hE1)]
              exact rg_done hE1 (Ext.refl w1) rfl
            simp only [Act.put, List.setIfInBounds_toArray, List.set_cons_zero, List.set_cons_succ]
            refine rg_quiet rfl rfl rfl rfl ?_; intro K hK; go_big_quiet_op; go_big_quiet_on
            refine rg_quiet rfl rfl rfl rfl ?_; intro K hK; go_big_quiet_op; go_big_quiet_on
            refine rg_quiet rfl rfl rfl rfl ?_; intro K hK; go_big_quiet_op; go_big_quiet_on
            refine rel_nil fun w2 hE2 _ => ?_
            clear z0 m0
            have hp2 := (hEW.trans hE2).cell hp0
            have hbm2 := hbm.ext hE2
            have hr2 := hrW.ext hE2
            have H2 := Lib.hid (HA.out.at_.ext (hEW.trans hE2))
            refine ⟨OfC w2 (C + k * D) mt tk tb wr.heap.size ky gn (.slice ra rn rc) rs, OfE 20, TabP.at [(19, fun _ v _ => v = .string tb), (20, fun _ v y => OfF w2 (C + k * D) mt tk tb v y), (22, fun _ v _ => v = .agg #[.string ky, .int .i64 gn, .slice ra rn rc])], 23, TabP.staysE ⟨(fun _ _ _ _ _ _ _ h => h), (fun _ k hk v x y hE h => OfF.ext (OfE_off hk hE) h), (fun _ _ _ _ _ _ _ h => h), trivial⟩, by kernel_rfl, ⟨hbm2, hr2, .inl (Ext.refl _)⟩, ?_⟩
            simp only [List.drop_succ_cons, List.drop_zero]
            refine relE_quiet rfl rfl rfl rfl ?_; intro K hK; go_big_quiet_op; (first | refine ⟨_, fun _ _ => rfl, hK _ ?_⟩ | refine hK _ ?_); clear hK K
            refine relE_quiet rfl rfl rfl rfl ?_; intro K hK; go_big_quiet_op; (first | refine ⟨_, fun _ _ => rfl, hK _ ?_⟩ | refine hK _ ?_); clear hK K
            refine relE_val [] rfl rfl rfl (by kernel_rfl) (fun z hz hf => ?_) ?_
            · have q0 : z.cell? ⟨wr.heap.size, 0, none⟩ = some (.string tb) := hz.box.cell 0
              go_simp
              exact ⟨hz, (fun _ => Ext.refl z), rfl⟩
            simp only [Act.put, List.setIfInBounds_toArray, List.set_cons_zero, List.set_cons_succ]
            refine relE_fact [] rfl rfl rfl (by kernel_rfl) (fun z hz hf => ?_) (fun v4 z4 hC4 hG4 h4 => ?_)
            · go_simp
              exact (of_turn hp2 hpne H2.out q1 HF.out (by have := HH8.out; omega) hz).mono fun e w' ⟨v, he, h1, h2⟩ => ⟨v, he, h1, fun h => absurd rfl h, h2⟩
            obtain ⟨q4, hq4⟩ : ∃ q, v4 = .pointer (some ⟨q, 0, none⟩) := let ⟨t, _, e, _⟩ := h4; ⟨t.tb, e⟩
            subst hq4
            clear hC4 hG4 h4
            simp only [Act.put, List.setIfInBounds_toArray, List.set_cons_zero, List.set_cons_succ]
            refine relE_quiet rfl rfl rfl rfl ?_; intro K hK; go_big_quiet_op; (first | refine ⟨_, fun _ _ => rfl, hK _ ?_⟩ | refine hK _ ?_); clear hK K
            refine relE_val [] rfl rfl rfl (by kernel_rfl) (fun z hz hf => ?_) ?_
            · have q0 : z.cell? ⟨wr.heap.size, 1, none⟩ = some (.string ky) := hz.box.cell 1
              have q1 : z.cell? ⟨wr.heap.size, 2, none⟩ = some (.int .i64 gn) := hz.box.cell 2
              have q2 : z.cell? ⟨wr.heap.size, 3, none⟩ = some (.slice ra rn rc) := hz.box.cell 3
              go_simp
              exact ⟨hz, (fun _ => Ext.refl z), rfl⟩
            simp only [Act.put, List.setIfInBounds_toArray, List.set_cons_zero, List.set_cons_succ]
            refine relE_tail rfl rfl fun w4 hC hG => ?_
            obtain ⟨t, w3, e2, hN, hE4⟩ := (hG 20).2 rfl
            cases e2
            have hr4 := hC.rows
            clear hG
            go_wp2_with (go_at_call 130; go_must (refine (HK3.out w2 (hEW.trans hE2) w3 t hN w4 hE4 hr4).mono ?_); rintro e w5 ⟨t', rfl, hA5, hq5, hn5⟩)
            refine bodyPost_ret (v := .bool false) ?_ rfl ?_
            · simp [results, Tryz.results78, go_sem]
            have e2 := HST.out
            rw [if_neg (by decide)] at e2
            rw [e2]
            rw [kput_kput hn5] at hA5
            refine ⟨_, rfl, hA5.mono ?_, ?_⟩
            · rw [HEC.out]
              have := Nat.mul_le_mul_right D hlt
              simp at this ⊢; omega
            · rw [tbq_kput, hq5]
          case true =>
            go_wp2_with fail
            rw [← hW]
            clear hW
            refine wp_region_gate 17 [(1, fun v _ => v = .pointer (some ⟨ps, 0, none⟩)), (6, fun v _ => v = .pointer none), (10, fun v _ => v = .pointer (some ⟨ps, 0, none⟩)), (13, fun v _ => v = .int .i64 (tk.length : Int))] (by kernel_rfl) (by simp) (by kernel_rfl) (by kernel_rfl) ⟨stays_eq _, stays_eq _, stays_eq _, stays_eq _, trivial⟩ ?_
            have z0 := held hpW
            have m0 := held (show W.cell? ⟨wr.heap.size, 0, none⟩ = some (.string tb) by rw [hbm.cell]; rfl)
            simp only [List.take_succ_cons, List.take_zero]
            refine rg_quiet rfl rfl rfl rfl ?_; intro K hK; go_big_quiet_op; go_big_quiet_on
            refine rg_val [] rfl rfl rfl (by kernel_rfl) (fun w1 hE hf => ?_) ?_
            · go_simp
              exact rg_done hE (Ext.refl w1) rfl
            simp only [Act.put, List.setIfInBounds_toArray, List.set_cons_zero, List.set_cons_succ]
            refine rg_quiet rfl rfl rfl rfl ?_; intro K hK; go_big_quiet_op; go_big_quiet_on
            refine rg_quiet rfl rfl rfl rfl ?_; intro K hK; go_big_quiet_op; go_big_quiet_on
            refine rg_quiet rfl rfl rfl rfl ?_; intro K hK; go_big_quiet_op; go_big_quiet_on
            refine rg_quiet rfl rfl rfl rfl ?_; intro K hK; go_big_quiet_op; go_big_quiet_on
            refine rg_val [] rfl rfl rfl (by kernel_rfl) (fun w1 hE1 hf => ?_) ?_
            · exact yields_lookup (.tmp 16) (.tmp 18) rfl (by rfl) (by rfl) (HLK.out w1 (hEW.trans hE1)) (rg_done hE1 (Ext.refl w1) rfl)
            simp only [Act.put, List.setIfInBounds_toArray, List.set_cons_zero, List.set_cons_succ]
            refine rg_quiet rfl rfl rfl rfl ?_; intro K hK; go_big_quiet_op; go_big_quiet_on
            refine rg_quiet rfl rfl rfl rfl ?_; intro K hK; go_big_quiet_op; go_big_quiet_on
            refine rg_quiet rfl rfl rfl rfl ?_; intro K hK; go_big_quiet_op; go_big_quiet_on
            refine rg_val [] rfl rfl rfl (by kernel_rfl) (fun w1 hE hf => ?_) ?_
            · go_simp
              exact rg_done hE (Ext.refl w1) rfl
            simp only [Act.put, List.setIfInBounds_toArray, List.set_cons_zero, List.set_cons_succ]
            refine rg_quiet rfl rfl rfl rfl ?_; intro K hK; go_big_quiet_op; go_big_quiet_on
            refine rg_quiet rfl rfl rfl rfl ?_; intro K hK; go_big_quiet_op; go_big_quiet_on
            refine rg_val [] rfl rfl rfl (by kernel_rfl) (fun w1 hE1 hf => ?_) ?_
            · go_simp
              rw [HLN.out w1 (hEW.trans hE1)]
              exact rg_done hE1 (Ext.refl w1) rfl
            simp only [Act.put, List.setIfInBounds_toArray, List.set_cons_zero, List.set_cons_succ]
            refine rg_quiet rfl rfl rfl rfl ?_; intro K hK; go_big_quiet_op; go_big_quiet_on
            refine rg_quiet rfl rfl rfl rfl ?_; intro K hK; go_big_quiet_op; go_big_quiet_on
            refine rg_quiet rfl rfl rfl rfl ?_; intro K hK; go_big_quiet_op; go_big_quiet_on
            refine rel_nil fun w2 hE2 _ => ?_
            clear z0 m0
            have hp2 := (hEW.trans hE2).cell hp0
            have hbm2 := hbm.ext hE2
            have hr2 := hrW.ext hE2
            have H2 := Lib.hid (HA.out.at_.ext (hEW.trans hE2))
            refine ⟨OfC w2 (C + k * D) mt tk tb wr.heap.size ky gn (.slice ra rn rc) rs, OfE 20, TabP.at [(19, fun _ v _ => v = .string tb), (20, fun _ v y => OfF w2 (C + k * D) mt tk tb v y), (22, fun _ v _ => v = .agg #[.string ky, .int .i64 gn, .slice ra rn rc])], 23, TabP.staysE ⟨(fun _ _ _ _ _ _ _ h => h), (fun _ k hk v x y hE h => OfF.ext (OfE_off hk hE) h), (fun _ _ _ _ _ _ _ h => h), trivial⟩, by kernel_rfl, ⟨hbm2, hr2, .inl (Ext.refl _)⟩, ?_⟩
            simp only [List.drop_succ_cons, List.drop_zero]
            refine relE_quiet rfl rfl rfl rfl ?_; intro K hK; go_big_quiet_op; (first | refine ⟨_, fun _ _ => rfl, hK _ ?_⟩ | refine hK _ ?_); clear hK K
            refine relE_quiet rfl rfl rfl rfl ?_; intro K hK; go_big_quiet_op; (first | refine ⟨_, fun _ _ => rfl, hK _ ?_⟩ | refine hK _ ?_); clear hK K
            refine relE_val [] rfl rfl rfl (by kernel_rfl) (fun z hz hf => ?_) ?_
            · have q0 : z.cell? ⟨wr.heap.size, 0, none⟩ = some (.string tb) := hz.box.cell 0
              go_simp
              exact ⟨hz, (fun _ => Ext.refl z), rfl⟩
            simp only [Act.put, List.setIfInBounds_toArray, List.set_cons_zero, List.set_cons_succ]
            refine relE_fact [] rfl rfl rfl (by kernel_rfl) (fun z hz hf => ?_) (fun v4 z4 hC4 hG4 h4 => ?_)
            · go_simp
              exact (of_turn hp2 hpne H2.out q1 HF.out (by have := HH8.out; omega) hz).mono fun e w' ⟨v, he, h1, h2⟩ => ⟨v, he, h1, fun h => absurd rfl h, h2⟩
            obtain ⟨q4, hq4⟩ : ∃ q, v4 = .pointer (some ⟨q, 0, none⟩) := let ⟨t, _, e, _⟩ := h4; ⟨t.tb, e⟩
            subst hq4
            clear hC4 hG4 h4
            simp only [Act.put, List.setIfInBounds_toArray, List.set_cons_zero, List.set_cons_succ]
            refine relE_quiet rfl rfl rfl rfl ?_; intro K hK; go_big_quiet_op; (first | refine ⟨_, fun _ _ => rfl, hK _ ?_⟩ | refine hK _ ?_); clear hK K
            refine relE_val [] rfl rfl rfl (by kernel_rfl) (fun z hz hf => ?_) ?_
            · have q0 : z.cell? ⟨wr.heap.size, 1, none⟩ = some (.string ky) := hz.box.cell 1
              have q1 : z.cell? ⟨wr.heap.size, 2, none⟩ = some (.int .i64 gn) := hz.box.cell 2
              have q2 : z.cell? ⟨wr.heap.size, 3, none⟩ = some (.slice ra rn rc) := hz.box.cell 3
              go_simp
              exact ⟨hz, (fun _ => Ext.refl z), rfl⟩
            simp only [Act.put, List.setIfInBounds_toArray, List.set_cons_zero, List.set_cons_succ]
            refine relE_tail rfl rfl fun w4 hC hG => ?_
            obtain ⟨t, w3, e2, hN, hE4⟩ := (hG 20).2 rfl
            cases e2
            have hr4 := hC.rows
            clear hG
            go_wp2_with (go_at_call 130; go_must (refine (HK3.out w2 (hEW.trans hE2) w3 t hN w4 hE4 hr4).mono ?_); rintro e w5 ⟨t', rfl, hA5, hq5, hn5⟩)
            rw [kput_kput hn5] at hA5
            go_roundw
            case rel =>
              refine ⟨k + 1, _, by omega, by go_num, hA5.mono (by rw [HEC.out]; exact Nat.le_refl _), Lib.hid ?_⟩
              have e2 := HST.out
              simp only [↓reduceIte] at e2
              rw [e2, tbq_kput, hq5]
            case measure => simp [intOf]; omega
        · rw [hf] at HLK
          simp only [Option.map_none, Option.getD_none] at HLK
          have hm1 := mutQ1_full (m := ⟨tb, ⟨ky, gn, rs.map (·.1)⟩⟩) hf (by omega)
          rw [hm1] at HST
          have hln : ∀ w', Ext wr w' → (Builtin.len_ #[73] 3 #[.map (some mt)]).run Tryz.prog w' = .ok (.int .i64 (tk.length : Int)) w' := fun w' hE' => tabs_len (A.at_.ext hE') _
          have HLN := Lib.hid hln
          have h8' : (8 : Int) ≤ (tk.length : Int) := by omega
          have HA := Lib.hid A
          clear hm1 hf A AW hln h8
          go_wp2_with fail
          rw [← hW]
          clear hW
          refine wp_region_tab 26 [(1, fun v _ => v = .pointer (some ⟨ps, 0, none⟩)), (6, fun v _ => v = .pointer none), (10, fun v _ => v = .pointer (some ⟨ps, 0, none⟩)), (13, fun v _ => v = .int .i64 (tk.length : Int))] (by kernel_rfl) (by kernel_rfl) (by kernel_rfl) ⟨stays_eq _, stays_eq _, stays_eq _, stays_eq _, trivial⟩ ?_
          have z0 := held hpW
          have m0 := held (show W.cell? ⟨wr.heap.size, 0, none⟩ = some (.string tb) by rw [hbm.cell]; rfl)
          refine rg_quiet rfl rfl rfl rfl ?_; intro K hK; go_big_quiet_op; go_big_quiet_on
          refine rg_val [] rfl rfl rfl (by kernel_rfl) (fun w1 hE hf => ?_) ?_
          · go_simp
            exact rg_done hE (Ext.refl w1) rfl
          simp only [Act.put, List.setIfInBounds_toArray, List.set_cons_zero, List.set_cons_succ]
          refine rg_quiet rfl rfl rfl rfl ?_; intro K hK; go_big_quiet_op; go_big_quiet_on
          refine rg_quiet rfl rfl rfl rfl ?_; intro K hK; go_big_quiet_op; go_big_quiet_on
          refine rg_quiet rfl rfl rfl rfl ?_; intro K hK; go_big_quiet_op; go_big_quiet_on
          refine rg_quiet rfl rfl rfl rfl ?_; intro K hK; go_big_quiet_op; go_big_quiet_on
          refine rg_val [] rfl rfl rfl (by kernel_rfl) (fun w1 hE1 hf => ?_) ?_
          · exact yields_lookup (.tmp 16) (.tmp 18) rfl (by rfl) (by rfl) (HLK.out w1 (hEW.trans hE1)) (rg_done hE1 (Ext.refl w1) rfl)
          simp only [Act.put, List.setIfInBounds_toArray, List.set_cons_zero, List.set_cons_succ]
          refine rg_quiet rfl rfl rfl rfl ?_; intro K hK; go_big_quiet_op; go_big_quiet_on
          refine rg_quiet rfl rfl rfl rfl ?_; intro K hK; go_big_quiet_op; go_big_quiet_on
          refine rg_quiet rfl rfl rfl rfl ?_; intro K hK; go_big_quiet_op; go_big_quiet_on
          refine rg_val [] rfl rfl rfl (by kernel_rfl) (fun w1 hE hf => ?_) ?_
          · go_simp
            exact rg_done hE (Ext.refl w1) rfl
          simp only [Act.put, List.setIfInBounds_toArray, List.set_cons_zero, List.set_cons_succ]
          refine rg_quiet rfl rfl rfl rfl ?_; intro K hK; go_big_quiet_op; go_big_quiet_on
          refine rg_quiet rfl rfl rfl rfl ?_; intro K hK; go_big_quiet_op; go_big_quiet_on
          refine rg_val [] rfl rfl rfl (by kernel_rfl) (fun w1 hE1 hf => ?_) ?_
          · go_simp
            rw [HLN.out w1 (hEW.trans hE1)]
            exact rg_done hE1 (Ext.refl w1) rfl
          simp only [Act.put, List.setIfInBounds_toArray, List.set_cons_zero, List.set_cons_succ]
          refine rg_quiet rfl rfl rfl rfl ?_; intro K hK; go_big_quiet_op; go_big_quiet_on
          refine rg_quiet rfl rfl rfl rfl ?_; intro K hK; go_big_quiet_op; go_big_quiet_on
          refine rg_quiet rfl rfl rfl rfl ?_; intro K hK; go_big_quiet_op; go_big_quiet_on
          refine rel_skip rfl rfl ?_
          simp only [Act.put, List.setIfInBounds_toArray, List.set_cons_zero, List.set_cons_succ]
          refine rel_skip rfl rfl ?_
          simp only [Act.put, List.setIfInBounds_toArray, List.set_cons_zero, List.set_cons_succ]
          refine rel_skip rfl rfl ?_
          simp only [Act.put, List.setIfInBounds_toArray, List.set_cons_zero, List.set_cons_succ]
          refine rel_skip rfl rfl ?_
          simp only [Act.put, List.setIfInBounds_toArray, List.set_cons_zero, List.set_cons_succ]
          refine rel_skip rfl rfl ?_
          simp only [Act.put, List.setIfInBounds_toArray, List.set_cons_zero, List.set_cons_succ]
          refine rel_skip rfl rfl ?_
          simp only [Act.put, List.setIfInBounds_toArray, List.set_cons_zero, List.set_cons_succ]
          refine rel_skip rfl rfl ?_
          simp only [Act.put, List.setIfInBounds_toArray, List.set_cons_zero, List.set_cons_succ]
          refine rel_skip rfl rfl ?_
          simp only [Act.put, List.setIfInBounds_toArray, List.set_cons_zero, List.set_cons_succ]
          refine rg_quiet rfl rfl rfl rfl ?_; intro K hK; go_big_quiet_op; go_big_quiet_on
          refine rel_nil fun w2 hE2 _ => ?_
          clear z0 m0
          go_wp2_with fail
          refine bodyPost_ret (v := .bool false) ?_ rfl ?_
          · simp [results, Tryz.results78, go_sem]
          have e2 := HST.out
          rw [if_neg (by decide)] at e2
          rw [e2]
          refine ⟨tk, rfl, ((HA.out.ext (hEW.trans hE2)).mono ?_), rfl⟩
          have := Nat.mul_le_mul_right D hlt
          have := HEC.out
          simp at *; omega
    · obtain rfl : k = n := by omega
      go_wp2
      go_ret
      have := HRk.out
      rw [List.drop_eq_nil_of_le (by rw [List.length_map, HN.out]; exact Nat.le_refl _)] at this
      rw [this]
      exact ⟨tk, rfl, A, rfl⟩
end Go.Proofs.YtimbikbbbfpeeaaGreatDoor
