/- Package note: notes in memory; New, Drop, Get, Add. -/
import Derived.Test.YtimbikbbbfpeeaaGreatDoorP2
import Derived.RegionTactic
import Derived.BigRegion
import Derived.Test.YtimbikbbbfpeeaaGreatDoorP1
set_option linter.unusedSimpArgs false
set_option linter.unusedVariables false
namespace Go.Proofs.YtimbikbbbfpeeaaGreatDoor
open Go Go.RowKit
attribute [local go_sem] yields yUpon

structure NoteAt (w : World) (p m : Nat) (F : Fl) : Prop where
  box : BoxAt w p #[.map (some m)] 116
  files : FilesAt w m F
  ne : p ≠ m
theorem NoteAt.touch {w w' : World} {L : List Nat} (ht : Touch w w' L) {p m : Nat} {F : Fl} (h : NoteAt w p m F) (hp : p ∉ L) (hm : m ∉ L) : NoteAt w' p m F := ⟨ht.box h.box hp, ht.files h.files hm, h.ne⟩
theorem NoteAt.ext {w w' : World} (hE : Ext w w') {p m : Nat} {F : Fl} (h : NoteAt w p m F) : NoteAt w' p m F := h.touch (Touch.of_ext hE []) (by simp) (by simp)
theorem NoteAt.c0 {w : World} {p m : Nat} {F : Fl} (h : NoteAt w p m F) : w.cell? ⟨p, 0, none⟩ = some (.map (some m)) := by rw [h.box.cell]; rfl
theorem NoteAt.turn {w w' : World} {p m : Nat} {F F' : Fl} (h : NoteAt w p m F) (ht : Touch w w' [m]) (hf : FilesAt w' m F') : NoteAt w' p m F' := ⟨ht.box h.box (by simpa using h.ne), hf, h.ne⟩
theorem fget_none {n : Int} {F : Fl} (h : fhas n F = false) : fget n F = [] := by
  unfold fget fhas at *
  rw [List.find?_eq_none.2 (by simpa using h)]; rfl

set_option maxHeartbeats 400000 in
theorem nt_new (w : World) : Calls Tryz.prog 27 #[] w fun e w' => e = .returned (.pointer (some ⟨w.heap.size + 1, 0, none⟩)) ∧ w' = (w.alloc (.map #[] 0)).alloc (.cells #[.map (some w.heap.size)] 116) := by
  have hmm := @run_makeMap Tryz.prog
  go_enter Tryz.func27, Tryz.ntmps27
  go_wp2
  go_ret
  exact ⟨rfl, rfl⟩
theorem nt_made (w : World) : NoteAt ((w.alloc (.map #[] 0)).alloc (.cells #[.map (some w.heap.size)] 116)) (w.heap.size + 1) w.heap.size [] := by
  have e : (w.alloc (.map #[] 0)).heap.size = w.heap.size + 1 := by simp
  refine ⟨?_, (files_new w).ext ((Ext.refl _).alloc _), by omega⟩
  have := BoxAt.made (w.alloc (.map #[] 0)) #[.map (some w.heap.size)] 116
  rw [e] at this
  exact this

section
variable {p m : Nat} {F : Fl}
set_option maxHeartbeats 400000 in
theorem nt_get (n : Int) (h0 : -9223372036854775808 ≤ n) (h1 : n ≤ 9223372036854775807) (w : World) (h : NoteAt w p m F) :
    Calls Tryz.prog 48 #[.pointer (some ⟨p, 0, none⟩), .int .i64 n] w fun e w' => e = .returned (.tuple #[.string (str (fget n F)), .bool (fhas n F)]) ∧ w = w' := by
  have c2 := h.c0
  obtain ⟨hk, _⟩ := files_look h.files h0 h1
  go_enter Tryz.func48, Tryz.ntmps48
  go_wp2
  go_ret2
  exact ⟨rfl, rfl⟩

set_option maxHeartbeats 400000 in
theorem nt_drop (n : Int) (h0 : -9223372036854775808 ≤ n) (h1 : n ≤ 9223372036854775807) (w : World) (h : NoteAt w p m F) :
    Calls Tryz.prog 80 #[.pointer (some ⟨p, 0, none⟩), .int .i64 n] w fun e w' => (e = .returned (.bool (fhas n F)) ∧ Touch w w' [m]) ∧ NoteAt w' p m (fdel n F) := by
  have c2 := h.c0
  obtain ⟨hk, _⟩ := files_look h.files h0 h1
  obtain ⟨w1, hr, hf, ht⟩ := files_del h.files h0 h1 0
  go_enter Tryz.func80, Tryz.ntmps80
  go_wp2
  go_ret
  exact ⟨⟨rfl, ht⟩, h.turn ht hf⟩

/-- May a note be added? -/
def addB (id : Int) (n : Nat) (F : Fl) : Bool := !(decide (id < 1) || decide (1099511627776 < id) || decide (4096 < n) || (!fhas id F && decide (300 ≤ F.length)))
theorem addB_cases (id : Int) (n : Nat) (F : Fl) : (addB id n F = true ∧ ¬ id < 1 ∧ ¬ 1099511627776 < id ∧ ¬ 4096 < (n : Int) ∧ (fhas id F = true ∨ fhas id F = false ∧ ¬ 300 ≤ (F.length : Int))) ∨
    (addB id n F = false ∧ (id < 1 ∨ ¬ id < 1 ∧ 1099511627776 < id ∨ ¬ id < 1 ∧ ¬ 1099511627776 < id ∧ 4096 < (n : Int) ∨ ¬ id < 1 ∧ ¬ 1099511627776 < id ∧ ¬ 4096 < (n : Int) ∧ fhas id F = false ∧ 300 ≤ (F.length : Int))) := by
  unfold addB
  by_cases h1 : id < 1
  · exact .inr ⟨by simp [h1], .inl h1⟩
  · by_cases h2 : 1099511627776 < id
    · exact .inr ⟨by simp [h2], .inr (.inl ⟨h1, h2⟩)⟩
    · by_cases h3 : 4096 < n
      · exact .inr ⟨by simp [h3], .inr (.inr (.inl ⟨h1, h2, by omega⟩))⟩
      · cases h4 : fhas id F with
        | true => exact .inl ⟨by simp [h1, h2, h3], h1, h2, by omega, .inl rfl⟩
        | false =>
          by_cases h5 : 300 ≤ F.length
          · exact .inr ⟨by simp [h5], .inr (.inr (.inr ⟨h1, h2, by omega, rfl, by omega⟩))⟩
          · exact .inl ⟨by simp [h1, h2, h3, h5], h1, h2, by omega, .inr ⟨rfl, by omega⟩⟩

theorem yields_look {o : Oper} {a : Act} {w : World} {R : Value → World → Prop} (x y : Operand) (hop : o.op = Op.lookup 70 x y true) {m : Nat} {F : Fl} {n : Int} (hx : a.eval x = .map (some m)) (hy : a.eval y = .int .i64 n) (h0 : -9223372036854775808 ≤ n) (h1 : n ≤ 9223372036854775807)
    (h : FilesAt w m F) (hR : R (.tuple #[.string (str (fget n F)), .bool (fhas n F)]) w) : yields Tryz.prog o a w R := by
  unfold yields execOp
  simp only [hop, hx, hy, Sem.run_bind, (files_look h h0 h1).1, Result.andThen_ok, Sem.run_pure]
  exact hR

set_option maxRecDepth 100000 in
set_option maxHeartbeats 4000000 in
theorem nt_add (id : Int) (h0 : -9223372036854775808 ≤ id) (h1 : id ≤ 9223372036854775807) (b : ByteArray) (hb : b.size ≤ maxLen) (hF : F.length ≤ 1000000) (w : World) (h : NoteAt w p m F) :
    Calls Tryz.prog 61 #[.pointer (some ⟨p, 0, none⟩), .agg #[.int .i64 id, .string b]] w fun e w' => (e = .returned (.bool (addB id b.size F)) ∧ Touch w w' [m]) ∧ NoteAt w' p m (if addB id b.size F then fput id b.data.toList F else F) := by
  have hE0 := (Ext.refl w).alloc (.cells #[.int .i64 id, .string b] 32)
  have hbx := BoxAt.made w #[.int .i64 id, .string b] 32
  have hn := h.ext hE0
  obtain ⟨W, hW⟩ : ∃ W, W = w.alloc (.cells #[.int .i64 id, .string b] 32) := ⟨_, rfl⟩
  rw [← hW] at hE0 hbx hn
  have hb' := hb
  unfold maxLen at hb'
  rcases addB_cases id b.size F with ⟨hA, a1, a2, a3, a4⟩ | ⟨hA, a4⟩
  · rw [hA]
    simp only [if_true]
    rcases a4 with a4 | ⟨a4, a5⟩
    all_goals
      go_enter Tryz.func61, Tryz.ntmps61
      go_wp2
      rw [← hW]
      clear hW
      refine wp_region_tab 12 [(1, fun v _ => v = .pointer (some ⟨p, 0, none⟩)), (6, fun v _ => v = .tuple #[.string (str (fget id F)), .bool (fhas id F)])] (by kernel_rfl) (by kernel_rfl) (by kernel_rfl) ⟨stays_eq _, stays_eq _, trivial⟩ ?_
      have c0 := held hn.c0
      have d0 := held (show W.cell? ⟨w.heap.size, 0, none⟩ = some (.int .i64 id) by rw [hbx.cell]; rfl)
      refine rg_quiet rfl rfl rfl rfl ?_; intro K hK; go_big_quiet_op; go_big_quiet_on
      refine rg_val [] rfl rfl rfl (by kernel_rfl) (fun w1 hE hf => ?_) ?_
      · go_simp
        exact rg_done hE (Ext.refl w1) rfl
      simp only [Act.put, List.setIfInBounds_toArray, List.set_cons_zero, List.set_cons_succ]
      refine rg_quiet rfl rfl rfl rfl ?_; intro K hK; go_big_quiet_op; go_big_quiet_on
      refine rg_quiet rfl rfl rfl rfl ?_; intro K hK; go_big_quiet_op; go_big_quiet_on
      refine rg_quiet rfl rfl rfl rfl ?_; intro K hK; go_big_quiet_op; go_big_quiet_on
      refine rg_quiet rfl rfl rfl rfl ?_; intro K hK; go_big_quiet_op; go_big_quiet_on
      refine rg_val [] rfl rfl rfl (by kernel_rfl) (fun w1 hE hf => ?_) ?_
      · exact yields_look (.tmp 11) (.tmp 13) rfl (by rfl) (by rfl) h0 h1 (hn.files.ext hE) (rg_done hE (Ext.refl w1) rfl)
      simp only [Act.put, List.setIfInBounds_toArray, List.set_cons_zero, List.set_cons_succ]
      refine rg_quiet rfl rfl rfl rfl ?_; intro K hK; go_big_quiet_op; go_big_quiet_on
      refine rg_quiet rfl rfl rfl rfl ?_; intro K hK; go_big_quiet_op; go_big_quiet_on
      refine rg_quiet rfl rfl rfl rfl ?_; intro K hK; go_big_quiet_op; go_big_quiet_on
      refine rg_quiet rfl rfl rfl rfl ?_; intro K hK; go_big_quiet_op; go_big_quiet_on
      refine rg_quiet rfl rfl rfl rfl ?_; intro K hK; go_big_quiet_op; go_big_quiet_on
      refine rel_nil fun w2 hE2 _ => ?_
      clear c0 d0
      have hn2 := hn.ext hE2
      have hb2 := hbx.ext hE2
      have b0 := hb2.cell 0
      have b1 := hb2.cell 1
      simp at b0 b1
      have c0 := hn2.c0
      have hlen := files_len hn2.files 3
      rw [a4] at *
      go_wp2
      clear b0 b1 c0 hlen
      refine wp_region_tab 8 [(1, fun v _ => v = .pointer (some ⟨p, 0, none⟩))] (by kernel_rfl) (by kernel_rfl) (by kernel_rfl) ⟨stays_eq _, trivial⟩ ?_
      have b0 := held (show w2.cell? ⟨w.heap.size, 0, none⟩ = some (.int .i64 id) by rw [hb2.cell]; rfl)
      have b1 := held (show w2.cell? ⟨w.heap.size, 1, none⟩ = some (.string b) by rw [hb2.cell]; rfl)
      have c0 := held hn2.c0
      refine rg_quiet rfl rfl rfl rfl ?_; intro K hK; go_big_quiet_op; go_big_quiet_on
      refine rg_val [] rfl rfl rfl (by kernel_rfl) (fun w3 hE hf => ?_) ?_
      · go_simp
        exact rg_done hE (Ext.refl w3) rfl
      simp only [Act.put, List.setIfInBounds_toArray, List.set_cons_zero, List.set_cons_succ]
      refine rg_quiet rfl rfl rfl rfl ?_; intro K hK; go_big_quiet_op; go_big_quiet_on
      refine rg_quiet rfl rfl rfl rfl ?_; intro K hK; go_big_quiet_op; go_big_quiet_on
      refine rg_quiet rfl rfl rfl rfl ?_; intro K hK; go_big_quiet_op; go_big_quiet_on
      refine rg_quiet rfl rfl rfl rfl ?_; intro K hK; go_big_quiet_op; go_big_quiet_on
      refine rg_quiet rfl rfl rfl rfl ?_; intro K hK; go_big_quiet_op; go_big_quiet_on
      refine rg_quiet rfl rfl rfl rfl ?_; intro K hK; go_big_quiet_op; go_big_quiet_on
      refine rel_tail rfl rfl fun w3 hE3 hG => ?_
      clear b0 b1 c0 hG
      have hn3 := hn2.ext hE3
      obtain ⟨w4, hr, hf4, ht4⟩ := files_put hn3.files h0 h1 hb (by unfold maxLen; omega)
      go_wp2
      go_ret
      exact ⟨⟨rfl, ((Touch.of_ext (hE0.trans (hE2.trans hE3)) [m]).trans ht4).mono (by simp)⟩, hn3.turn ht4 hf4⟩
  · rw [hA]
    simp only [Bool.false_eq_true, if_false]
    rcases a4 with a4 | ⟨a1, a4⟩ | ⟨a1, a2, a4⟩ | ⟨a1, a2, a3, a5, a4⟩
    all_goals
      go_enter Tryz.func61, Tryz.ntmps61
      go_wp2
      rw [← hW]
      clear hW
      refine wp_region_tab 12 [(1, fun v _ => v = .pointer (some ⟨p, 0, none⟩)), (6, fun v _ => v = .tuple #[.string (str (fget id F)), .bool (fhas id F)])] (by kernel_rfl) (by kernel_rfl) (by kernel_rfl) ⟨stays_eq _, stays_eq _, trivial⟩ ?_
      have c0 := held hn.c0
      have d0 := held (show W.cell? ⟨w.heap.size, 0, none⟩ = some (.int .i64 id) by rw [hbx.cell]; rfl)
      refine rg_quiet rfl rfl rfl rfl ?_; intro K hK; go_big_quiet_op; go_big_quiet_on
      refine rg_val [] rfl rfl rfl (by kernel_rfl) (fun w1 hE hf => ?_) ?_
      · go_simp
        exact rg_done hE (Ext.refl w1) rfl
      simp only [Act.put, List.setIfInBounds_toArray, List.set_cons_zero, List.set_cons_succ]
      refine rg_quiet rfl rfl rfl rfl ?_; intro K hK; go_big_quiet_op; go_big_quiet_on
      refine rg_quiet rfl rfl rfl rfl ?_; intro K hK; go_big_quiet_op; go_big_quiet_on
      refine rg_quiet rfl rfl rfl rfl ?_; intro K hK; go_big_quiet_op; go_big_quiet_on
      refine rg_quiet rfl rfl rfl rfl ?_; intro K hK; go_big_quiet_op; go_big_quiet_on
      refine rg_val [] rfl rfl rfl (by kernel_rfl) (fun w1 hE hf => ?_) ?_
      · exact yields_look (.tmp 11) (.tmp 13) rfl (by rfl) (by rfl) h0 h1 (hn.files.ext hE) (rg_done hE (Ext.refl w1) rfl)
      simp only [Act.put, List.setIfInBounds_toArray, List.set_cons_zero, List.set_cons_succ]
      refine rg_quiet rfl rfl rfl rfl ?_; intro K hK; go_big_quiet_op; go_big_quiet_on
      refine rg_quiet rfl rfl rfl rfl ?_; intro K hK; go_big_quiet_op; go_big_quiet_on
      refine rg_quiet rfl rfl rfl rfl ?_; intro K hK; go_big_quiet_op; go_big_quiet_on
      refine rg_quiet rfl rfl rfl rfl ?_; intro K hK; go_big_quiet_op; go_big_quiet_on
      refine rg_quiet rfl rfl rfl rfl ?_; intro K hK; go_big_quiet_op; go_big_quiet_on
      refine rel_nil fun w2 hE2 _ => ?_
      clear c0 d0
      have hn2 := hn.ext hE2
      have hb2 := hbx.ext hE2
      have b0 := hb2.cell 0
      have b1 := hb2.cell 1
      simp at b0 b1
      have c0 := hn2.c0
      have hlen := files_len hn2.files 3
      try rw [a5]
      go_wp2
      go_ret
      exact ⟨⟨rfl, Touch.of_ext (hE0.trans hE2) _⟩, h.ext (hE0.trans hE2)⟩
end
end Go.Proofs.YtimbikbbbfpeeaaGreatDoor

/- Notes in a slice in memory. -/
namespace Go.Proofs.YtimbikbbbfpeeaaGreatDoor
open Go Go.RowKit

theorem info_note : (Tryz.prog.info? 32).map (fun i => (i.zero, i.size, i.bytes)) = some (some (.agg #[.int .i64 0, .string ⟨#[]⟩]), 2, 24) := by kernel_rfl
theorem und_notes : Tryz.prog.underlying 33 = some (.slice 32) := by kernel_rfl
def ncells (F : Fl) : List Value := F.flatMap fun q => [.int .i64 q.1, .string (str q.2)]
theorem ncells_snoc (F : Fl) (q : Int × List UInt8) : ncells (F ++ [q]) = ncells F ++ [.int .i64 q.1, .string (str q.2)] := by simp [ncells]
def NotesIn (w : World) (v : Value) (F : Fl) : Prop := SliceIn w v F.length (ncells F)
theorem ncells_get : ∀ {F : Fl} {k : Nat} (hk : k < F.length), (ncells F)[k * 2]? = some (.int .i64 (F[k]).1) ∧ (ncells F)[k * 2 + 1]? = some (.string (str (F[k]).2))
  | [], k, hk => by simp at hk
  | q :: F, 0, _ => by simp [ncells]
  | q :: F, k + 1, hk => by
    have h := ncells_get (F := F) (k := k) (by simpa using hk)
    have e : ncells (q :: F) = .int .i64 q.1 :: .string (str q.2) :: ncells F := by simp [ncells]
    rw [e, show (k + 1) * 2 = k * 2 + 1 + 1 by omega]
    simpa using h
theorem ncells_length (F : Fl) : (ncells F).length = F.length * 2 := by
  induction F with
  | nil => rfl
  | cons q F ih => simp [ncells] at ih ⊢; omega
theorem ncells_append (F G : Fl) : ncells (F ++ G) = ncells F ++ ncells G := by simp [ncells]
theorem ncells_one (F : Fl) : ∀ u ∈ ncells F, u.oneCell' = true := by
  intro u hu
  simp only [ncells, List.mem_flatMap, List.mem_cons, List.not_mem_nil, or_false] at hu
  obtain ⟨q, _, rfl | rfl⟩ := hu <;> rfl
theorem NotesIn.ext {w w' : World} (hE : Ext w w') {v : Value} {F : Fl} (h : NotesIn w v F) : NotesIn w' v F := SliceIn.ext hE h
theorem NotesIn.get {w : World} {v : Value} {F : Fl} (h : NotesIn w v F) : ∃ a c, v = .slice a F.length c ∧ F.length ≤ c ∧ c ≤ 9223372036854775807 ∧ ∀ k (hk : k < F.length), ∃ b o, a = some ⟨b, o, none⟩ ∧ w.cell? ⟨b, o + k * 2, none⟩ = some (.int .i64 (F[k]).1) ∧ w.cell? ⟨b, o + k * 2 + 1, none⟩ = some (.string (str (F[k]).2)) := by
  obtain ⟨a, c, rfl, hc, hcm, ha, hcell⟩ := h
  unfold maxLen at hcm
  refine ⟨a, c, rfl, hc, by omega, fun k hk => ?_⟩
  obtain ⟨h1, h2⟩ := ncells_get hk
  obtain ⟨b, o, rfl, hx⟩ := hcell _ _ h1
  obtain ⟨b', o', e, hy⟩ := hcell _ _ h2
  cases e
  exact ⟨b, o, rfl, hx, by rw [Nat.add_assoc]; exact hy⟩
end Go.Proofs.YtimbikbbbfpeeaaGreatDoor

/- Notes that may be; what Fits tells, in plain words. -/
namespace Go.Proofs.YtimbikbbbfpeeaaGreatDoor
open Go Go.RowKit

structure Good (F : Fl) : Prop where
  rises : Rises F
  len : F.length ≤ 300
  keys : ∀ q ∈ F, 1 ≤ q.1 ∧ q.1 ≤ 1099511627776
theorem Good.nil : Good [] := ⟨List.Pairwise.nil, by simp, by simp⟩
theorem Good.del {F : Fl} (h : Good F) (n : Int) : Good (fdel n F) :=
  ⟨fdel_rises h.rises, Nat.le_trans (List.length_filter_le ..) h.len, fun q hq => h.keys q (List.mem_filter.1 hq).1⟩
theorem Good.put {F : Fl} (h : Good F) {n : Int} {m : Nat} {b : List UInt8} (ha : addB n m F = true) : Good (fput n b F) := by
  rcases addB_cases n m F with ⟨_, a1, a2, a3, a4⟩ | ⟨h', _⟩
  · refine ⟨fput_rises h.rises, ?_, fun q hq => ?_⟩
    · rw [fput_length h.rises]
      have := h.len
      rcases a4 with a4 | ⟨a4, a5⟩
      · rw [if_pos a4]; omega
      · rw [if_neg (by rw [a4]; decide)]; omega
    · rcases fput_mem hq with rfl | hq
      · simp; omega
      · exact h.keys q hq
  · rw [ha] at h'; cases h'
def fadds : Fl → Fl → Bool
  | _, [] => true
  | F, a :: A => addB a.1 a.2.length F && fadds (fput a.1 a.2 F) A
def fdels (F : Fl) (D : List Int) : Fl := D.foldl (fun F d => fdel d F) F
theorem Good.dels {F : Fl} (h : Good F) : ∀ D, Good (fdels F D)
  | [] => h
  | d :: D => by unfold fdels; rw [List.foldl_cons]; exact Good.dels (h.del d) D
/-- Would all of A be kept, when those of D are gone? -/
def fitsB (F A : Fl) (D : List Int) : Bool := fadds (fdels F D) A
theorem fdels_snoc (F : Fl) (D : List Int) (d : Int) : fdels F (D ++ [d]) = fdel d (fdels F D) := by simp [fdels]
end Go.Proofs.YtimbikbbbfpeeaaGreatDoor
