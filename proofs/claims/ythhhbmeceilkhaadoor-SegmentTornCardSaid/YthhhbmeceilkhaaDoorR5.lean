/- clerestorylaw00.SameStrings of two slices that read alike. -/
import Derived.Test.YthhhbmeceilkhaaDoorR4
import Derived.Test.YthhhbmeceilkhaaDoorR2
set_option linter.unusedSimpArgs false
set_option linter.unusedVariables false
namespace Go.Proofs.YthhhbmeceilkhaaDoor
open Go Go.RowKit
attribute [local go_sem] yields yUpon

theorem StrsIn.ext {w w' : World} (hE : Ext w w') {v : Value} {l : List (List UInt8)} (h : StrsIn w v l) : StrsIn w' v l := SliceIn.ext hE h
theorem StrsIn.get {w : World} {v : Value} {l : List (List UInt8)} (h : StrsIn w v l) : ∃ a c, v = .slice a l.length c ∧ l.length ≤ c ∧ c ≤ maxLen ∧ ∀ k (h : k < l.length), ∃ b o, a = some ⟨b, o, none⟩ ∧ w.cell? ⟨b, o + k, none⟩ = some (.string (str l[k])) := by
  obtain ⟨a, c, rfl, hc, hcm, _, hcell⟩ := h
  exact ⟨a, c, rfl, hc, hcm, fun k hk => hcell k _ (by simp [scells, hk])⟩

set_option maxRecDepth 100000 in
set_option maxHeartbeats 2000000 in
theorem sameStr_any (v v' : Value) (l : List (List UInt8)) (w : World) (hin : StrsIn w v l) (hin' : StrsIn w v' l) :
    Calls Tryd.prog 13 #[v, v'] w fun e w' => e = .returned (.bool true) ∧ Ext w w' := by
  obtain ⟨a, c, rfl, hc, hcm, hcell⟩ := hin.get
  obtain ⟨a', c', rfl, hc', hcm', hcell'⟩ := hin'.get
  have HC := Lib.hid hcell
  have HC' := Lib.hid hcell'
  clear hcell hin hcell' hin'
  unfold maxLen at hcm hcm'
  go_enter Tryd.func13, Tryd.ntmps13
  go_wp2
  go_loopw [5] (fun i wr => ∃ k : Nat, k ≤ l.length ∧ i = .int .i64 k ∧ Ext w wr) (fun i _ => l.length - (intOf i).toNat)
  case atStart => exact ⟨0, Nat.zero_le _, rfl, Ext.refl w⟩
  case round =>
    obtain ⟨k, hk, rfl, hE⟩ := hrel
    by_cases hlt : k < l.length
    · obtain ⟨b, o, rfl, hco⟩ := HC.out k hlt
      obtain ⟨b', o', rfl, hco'⟩ := HC'.out k hlt
      obtain ⟨x, hx⟩ : ∃ x, x = str l[k] := ⟨_, rfl⟩
      rw [← hx] at hco hco'
      clear hx
      replace hco := hE.cell hco
      replace hco' := hE.cell hco'
      go_wp2
      go_quiet (fail)
      go_wp2
      go_roundw
      case rel => exact ⟨k + 1, by omega, by go_num, hE.drewN _⟩
      case measure => simp [intOf]; omega
    · obtain rfl : k = l.length := by omega
      go_wp2
      go_ret
      exact ⟨rfl, hE⟩
end Go.Proofs.YthhhbmeceilkhaaDoor

/- Plain law: behind what is good a record goes on; lengths of many records; prefixes of slices of texts. -/
namespace Go.Proofs.YthhhbmeceilkhaaDoor
open Go Go.RowKit

theorem scan_sound (s : List UInt8) : ∀ (m at_ : Nat), s.length - at_ ≤ m → s.drop at_ = puts at_ (scan s at_).1 ++ s.drop (scan s at_).2 ∧ (scan s at_).2 = at_ + (puts at_ (scan s at_).1).length := by
  intro m
  induction m with
  | zero =>
    intro at_ h
    have hr : rd s false at_ = none := by
      cases hr : rd s false at_ with
      | none => rfl
      | some p =>
        obtain ⟨b, e⟩ := p
        obtain ⟨_, _, h3, h4⟩ := rd_spec hr
        have := sput_pos false at_ b
        omega
    rw [scan_none hr]; simp [puts]
  | succ m ih =>
    intro at_ h
    cases hr : rd s false at_ with
    | none => rw [scan_none hr]; simp [puts]
    | some p =>
      obtain ⟨b, e⟩ := p
      obtain ⟨_, h2, h3, h4⟩ := rd_spec hr
      have hp := sput_pos false at_ b
      obtain ⟨i1, i2⟩ := ih e (by omega)
      rw [scan_some hr]
      simp only [puts, ← h3, List.append_assoc, List.length_append]
      refine ⟨by rw [← i1]; exact h2, by omega⟩
theorem scan_take (s : List UInt8) : s.take (scan s 0).2 = puts 0 (scan s 0).1 ∧ (scan s 0).2 = (puts 0 (scan s 0).1).length := by
  obtain ⟨h1, h2⟩ := scan_sound s _ 0 (Nat.le_refl _)
  rw [Nat.zero_add] at h2
  refine ⟨?_, h2⟩
  rw [List.drop_zero] at h1
  generalize (scan s 0).2 = g at h1 h2 ⊢
  generalize (scan s 0).1 = m at h1 h2 ⊢
  rw [h1]
  exact List.take_left' h2.symm
theorem scan_more (s body : List UInt8) : scan (s.take (scan s 0).2 ++ sput false (scan s 0).2 body) 0 = ((scan s 0).1 ++ [body], (scan s 0).2 + (sput false (scan s 0).2 body).length) := by
  obtain ⟨h1, h2⟩ := scan_take s
  have e : s.take (scan s 0).2 ++ sput false (scan s 0).2 body = puts 0 ((scan s 0).1 ++ [body]) := by
    rw [puts_append, h1, Nat.zero_add, ← h2]
    simp [puts]
  rw [e, scan_all, ← e, List.length_append, h1, ← h2]
theorem puts_le : ∀ (l : List (List UInt8)) (n : Nat), (∀ x ∈ l, x.length ≤ 400) → (puts n l).length ≤ l.length * 2812
  | [], _, _ => by simp [puts]
  | b :: l, n, h => by
    have h1 := puts_le l (n + (sput false n b).length) fun x hx => h x (List.mem_cons_of_mem _ hx)
    have h2 := lenS_le _ n b.length (Nat.le_refl _)
    have h3 := h b (List.mem_cons_self ..)
    have h4 := sput_lenS false n b
    simp only [puts, List.length_append, List.length_cons]
    omega
theorem puts_take {l : List (List UInt8)} {k : Nat} (hk : k < l.length) : puts 0 (l.take k) ++ sput false (puts 0 (l.take k)).length l[k] = puts 0 (l.take (k + 1)) := by
  rw [List.take_succ_eq_append_getElem hk, puts_append]
  simp [puts]
theorem take_le {l : List (List UInt8)} {k : Nat} (hk : k < l.length) (h : ∀ x ∈ l.take k, x.length ≤ 400) (hx : l[k].length ≤ 400) : ∀ x ∈ l.take (k + 1), x.length ≤ 400 := by
  rw [List.take_succ_eq_append_getElem hk]
  intro x hm
  rcases List.mem_append.1 hm with hm | hm
  · exact h x hm
  · rw [List.mem_singleton.1 hm]; exact hx
theorem StrsIn.pre {w : World} {a : Option Addr} {n c : Nat} {m r : List (List UInt8)} (h : StrsIn w (.slice a n c) (m ++ r)) : StrsIn w (.slice a m.length c) m := by
  obtain ⟨a', c', e, hc, hcm, ha, hcell⟩ := h
  injection e with e1 e2 e3
  subst e1 e2 e3
  refine ⟨_, _, rfl, by simp at hc; omega, hcm, ha, fun j u hj => hcell j u ?_⟩
  have hjl : j < m.length := by
    rcases Nat.lt_or_ge j m.length with h | h
    · exact h
    · rw [List.getElem?_eq_none (by simpa using h)] at hj; cases hj
  unfold scells at hj ⊢
  rw [List.map_append, List.getElem?_append_left (by simpa using hjl)]
  exact hj
theorem StrsIn.at {w : World} {v : Value} {m r : List (List UInt8)} {x : List UInt8} (h : StrsIn w v (m ++ x :: r)) : ∃ b o c, v = .slice (some ⟨b, o, none⟩) (m ++ x :: r).length c ∧ (m ++ x :: r).length ≤ c ∧ c ≤ maxLen ∧ w.cell? ⟨b, o + m.length, none⟩ = some (.string (str x)) := by
  obtain ⟨a, c, rfl, hc, hcm, hcell⟩ := h.get
  obtain ⟨b, o, rfl, hx⟩ := hcell m.length (by simp)
  exact ⟨b, o, c, rfl, hc, hcm, by simpa using hx⟩
end Go.Proofs.YthhhbmeceilkhaaDoor

/- Plain law for SegmentTorn: whole records ahead of a place; a byte turned. -/
namespace Go.Proofs.YthhhbmeceilkhaaDoor
open Go Go.RowKit

theorem wholes_lt (K : Nat) : ∀ (l : List (List UInt8)) (n j : Nat), j ≤ wholes n K l → (j < wholes n K l ↔ j < l.length ∧ n + (puts n (l.take (j + 1))).length ≤ K)
  | [], n, j, h => by simp [wholes]
  | b :: l, n, 0, h => by
    simp only [wholes, List.take_succ_cons, List.take_zero, puts, List.append_nil, List.length_cons]
    split <;> simp_all
  | b :: l, n, j + 1, h => by
    simp only [wholes] at h ⊢
    by_cases hc : n + (sput false n b).length ≤ K
    · rw [if_pos hc] at h ⊢
      have := wholes_lt K l (n + (sput false n b).length) j (by omega)
      simp only [List.take_succ_cons, puts, List.length_append, List.length_cons]
      omega
    · rw [if_neg hc] at h; omega
theorem torn_full (l : List (List UInt8)) {K : Nat} (hK : K ≤ (puts 0 l).length) : scan ((puts 0 l).take K) 0 = (l.take (wholes 0 K l), (puts 0 (l.take (wholes 0 K l))).length) := by
  have h := scan_torn l ((puts 0 l).take K) 0 ((puts 0 l).drop K) (Nat.zero_le _) (by rw [List.drop_zero, List.take_append_drop])
  rw [show ((puts 0 l).take K).length = K by rw [List.length_take]; omega, Nat.zero_add] at h
  exact h
theorem puts_pre (l : List (List UInt8)) (n : Nat) : (puts 0 l).take (puts 0 (l.take n)).length = puts 0 (l.take n) := by
  conv => lhs; rw [show l = l.take n ++ l.drop n from (List.take_append_drop n l).symm, puts_append]
  conv => lhs; arg 1; rw [List.take_append_drop]
  exact List.take_left' rfl
theorem turned {l : List (List UInt8)} {C : List UInt8} {i : Nat} (hC : C.take i = (puts 0 l).take i) :
    ∃ r g, scan C 0 = (l.take (wholes 0 i l) ++ r, g) ∧ (puts 0 (l.take (wholes 0 i l))).length ≤ g := by
  have he := wholes_end i l 0 (Nat.zero_le _)
  rw [Nat.zero_add] at he
  have hp := puts_pre l (wholes 0 i l)
  generalize wholes 0 i l = n at he hp ⊢
  have h1 : C.take (puts 0 (l.take n)).length = puts 0 (l.take n) := by
    have h2 := congrArg (List.take (puts 0 (l.take n)).length) hC
    rw [List.take_take, List.take_take, Nat.min_eq_left he, hp] at h2
    exact h2
  have hcl : (puts 0 (l.take n)).length ≤ C.length := by
    have := congrArg List.length h1
    rw [List.length_take] at this
    omega
  have h := scan_puts C (l.take n) 0 (C.drop (puts 0 (l.take n)).length) (by
    rw [List.drop_zero]
    conv => lhs; rw [← List.take_append_drop (puts 0 (l.take n)).length C]
    rw [h1])
  refine ⟨_, _, h, ?_⟩
  rw [Nat.zero_add]
  exact (scan_le C _ _ (Nat.le_refl _) hcl).2
theorem puts_nil {l : List (List UInt8)} : (puts 0 l).length = 0 ↔ l.length = 0 := by
  cases l with
  | nil => simp [puts]
  | cons b l =>
    have := sput_pos false 0 b
    simp only [puts, List.length_append, List.length_cons]
    omega
/-- Where the records end. -/
def endsL (l : List (List UInt8)) (k : Nat) : List Int := (List.range k).map fun j => ((puts 0 (l.take (j + 1))).length : Int)
@[simp] theorem endsL_length (l : List (List UInt8)) (k : Nat) : (endsL l k).length = k := by simp [endsL]
theorem endsL_succ (l : List (List UInt8)) (k : Nat) : endsL l (k + 1) = endsL l k ++ [((puts 0 (l.take (k + 1))).length : Int)] := by simp [endsL, List.range_succ]
theorem endsL_get {l : List (List UInt8)} {k j : Nat} (h : j < k) : (endsL l k)[j]? = some ((puts 0 (l.take (j + 1))).length : Int) := by simp [endsL, h]
theorem xor_take (L : List UInt8) (i : Nat) (x : UInt8) : (L.set i x).take i = L.take i := by
  rw [List.take_set_of_le (Nat.le_refl _)]
end Go.Proofs.YthhhbmeceilkhaaDoor

/- A text of so many noughts: make, convert. -/
namespace Go.Proofs.YthhhbmeceilkhaaDoor
open Go Go.RowKit

theorem info_b8z : Tryd.prog.info? 5 = some (Tryd.prog.info? 5).get! ∧ (Tryd.prog.info? 5).get!.zero = some (.int .u8 0) ∧ (Tryd.prog.info? 5).get!.size = 1 ∧ (Tryd.prog.info? 5).get!.bytes = 1 := ⟨by kernel_rfl, by kernel_rfl, by kernel_rfl, by kernel_rfl⟩
theorem made_zeros (N : Nat) : (madeCells (Value.int .u8 0).cells (N * 1)).toList = bcells (List.replicate N 0) := by
  apply List.ext_getElem?
  intro j
  simp only [madeCells, Nat.mul_one, bcells]
  by_cases hj : j < N
  · simp [hj, Value.cells, Nat.mod_one]
  · rw [List.getElem?_eq_none (by simp; omega), List.getElem?_eq_none (by simp; omega)]
/-- 'make([]byte, N)'. -/
theorem run_zeros (w : World) (N : Nat) (hN : N ≤ 16777216) : ∃ w', (Instr.makeSlice 22 (.int .i64 (N : Int)) (.int .i64 (N : Int))).run Tryd.prog w = .ok (.slice (some ⟨w.heap.size, 0, none⟩) N N) w' ∧
    w'.ownsRow w.heap.size 5 1 (.slice (some ⟨w.heap.size, 0, none⟩) N N) N (bcells (List.replicate N 0)) ∧ w.grownBy w' none := by
  obtain ⟨w4, he, hown, hg⟩ := run_makeSlice_full w w.heap.size 22 5 _ _ 1 und_bytes info_b8z.1 info_b8z.2.1 info_b8z.2.2.1 .i64 .i64 N (by omega) (by rw [info_b8z.2.2.2]; omega) (by unfold maxLen; omega) (Nat.le_refl _)
  rw [made_zeros] at hown
  exact ⟨w4, he, hown, hg⟩
/-- The same, and the text that it is: facts for the walk. -/
theorem run_zero_text (w : World) (N : Nat) (hN : N ≤ 16777216) : ∃ w', (Instr.makeSlice 22 (.int .i64 (N : Int)) (.int .i64 (N : Int))).run Tryd.prog w = .ok (.slice (some ⟨w.heap.size, 0, none⟩) N N) w' ∧
    (convert 22 9 (.slice (some ⟨w.heap.size, 0, none⟩) N N)).run Tryd.prog w' = .ok (.string (str (List.replicate N 0))) w' ∧ Ext w w' := by
  obtain ⟨w4, he, hown, hg⟩ := run_zeros w N hN
  refine ⟨w4, he, ?_, (Ext.refl w).grown hg nofun⟩
  refine run_convert_bytesIn _ 22 9 5 und_bytes und_u8 und_string ?_
  have := SliceIn.of_owns hown
  unfold BytesIn
  rw [List.length_replicate]
  exact this
section
variable {ops : Array Oper} {Q : Exit → Act → World → Prop} {a : Act} {w : World} {rest : List Oper} {o : Oper}
theorem yields_zeros (x y : Operand) (hop : o.op = Op.makeSlice 22 x y) {N : Nat} (hx : a.eval x = .int .i64 (N : Int)) (hy : a.eval y = .int .i64 (N : Int)) (hN : N ≤ 16777216) {R : Value → World → Prop}
    (hR : ∀ v' w', OwnB w' w.heap.size v' (List.replicate N 0) → Ext w w' → R v' w') : yields Tryd.prog o a w R := by
  obtain ⟨w', he, hown, hg⟩ := run_zeros w N hN
  unfold yields execOp
  simp only [hop, hx, hy, Sem.run_bind, he, Result.andThen_ok, Sem.run_pure]
  exact hR _ w' (by unfold OwnB; rw [List.length_replicate]; exact hown) ((Ext.refl w).grown hg nofun)
theorem wpList_zeros (hw : Region.wanted o (yielded ops a.tmps) = true) (x y : Operand) (hop : o.op = Op.makeSlice 22 x y) {N : Nat} (hx : a.eval x = .int .i64 (N : Int)) (hy : a.eval y = .int .i64 (N : Int)) (hN : N ≤ 16777216)
    (hK : ∀ v' w', OwnB w' w.heap.size v' (List.replicate N 0) → Ext w w' → wpList Tryd.prog ops Q rest (a.put o.dst v') w') : wpList Tryd.prog ops Q (o :: rest) a w := by
  unfold wpList
  rw [if_pos hw]
  exact .inl (yields_wp (yields_zeros (R := fun v w' => wpList Tryd.prog ops Q rest (a.put o.dst v) w') x y hop hx hy hN hK) fun v w' h => h)
end
end Go.Proofs.YthhhbmeceilkhaaDoor
