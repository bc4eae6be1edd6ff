/- A world in which blocks of a list may have turned; maps of bodies by numbers in memory. -/
import Derived.Test.YtmjhdfifbjdgpaaS1
import Derived.Test.YtmjhdfifbjdgpaaProg
import Derived.RegionTactic
import Derived.BigRegion
set_option linter.unusedSimpArgs false
set_option linter.unusedVariables false
namespace Go.Proofs.Ytmjhdfifbjdgpaa
open Go Go.RowKit

structure Touch (w w' : World) (L : List Nat) : Prop where
  os : w'.os = w.os
  tape : w'.tape = w.tape
  output : w'.output = w.output
  size : w.heap.size ≤ w'.heap.size
  block : ∀ k, k < w.heap.size → k ∉ L → w'.heap[k]? = w.heap[k]?
theorem Touch.refl (w : World) (L : List Nat) : Touch w w L := ⟨rfl, rfl, rfl, Nat.le_refl _, fun _ _ _ => rfl⟩
theorem Touch.trans {a b c : World} {L M : List Nat} (h : Touch a b L) (k : Touch b c M) : Touch a c (L ++ M) :=
  ⟨k.os.trans h.os, k.tape.trans h.tape, k.output.trans h.output, Nat.le_trans h.size k.size, fun i hi hn => by
    rw [List.mem_append, not_or] at hn
    rw [k.block i (Nat.lt_of_lt_of_le hi h.size) hn.2, h.block i hi hn.1]⟩
theorem Touch.mono {w w' : World} {L M : List Nat} (h : Touch w w' L) (hs : ∀ k ∈ L, k < w.heap.size → k ∈ M) : Touch w w' M :=
  ⟨h.os, h.tape, h.output, h.size, fun k hk hn => h.block k hk fun hl => hn (hs k hl hk)⟩
theorem Touch.of_ext {w w' : World} (h : Ext w w') (L : List Nat) : Touch w w' L := ⟨h.os, h.tape, h.output, h.size, fun k hk _ => h.block k hk⟩
theorem Touch.of_grown {w w' : World} {r : Nat} {L : List Nat} (h : w.grownBy w' (some r)) (hr : r ∈ L) : Touch w w' L :=
  ⟨h.os, h.tape, h.output, h.size, fun k hk hn => h.block k hk fun e => hn (by cases e; exact hr)⟩
theorem Touch.set {w : World} {p i : Nat} {u : Value} {L : List Nat} (hp : p ∈ L) : Touch w (w.setCell ⟨p, i, none⟩ u) L :=
  ⟨rfl, rfl, rfl, by rw [Deep.nblk_setCell]; exact Nat.le_refl _, fun k _ hn => heap_setCell_other _ _ _ _ fun e => hn (by rw [e]; exact hp)⟩
theorem Touch.drew {a w : World} {L : List Nat} (h : Touch a w L) : Touch a w.drew L := ⟨h.os, h.tape, h.output, h.size, h.block⟩
theorem Touch.drewN {a w : World} {L : List Nat} (h : Touch a w L) (n : Nat) : Touch a (w.drewN n) L := ⟨h.os, h.tape, h.output, h.size, h.block⟩
theorem Touch.ext {a w w' : World} {L : List Nat} (h : Touch w w' L) (hE : Ext a w) (hL : ∀ k ∈ L, a.heap.size ≤ k) : Ext a w' :=
  ⟨h.os.trans hE.os, h.tape.trans hE.tape, h.output.trans hE.output, Nat.le_trans hE.size h.size, fun k hk => by
    rw [h.block k (Nat.lt_of_lt_of_le hk hE.size) fun hl => by have := hL k hl; omega]
    exact hE.block k hk⟩
theorem Touch.box {w w' : World} {L : List Nat} (h : Touch w w' L) {p : Nat} {cs : Array Value} {e : TypeId} (hb : BoxAt w p cs e) (hp : p ∉ L) : BoxAt w' p cs e := by
  unfold BoxAt at *
  rw [h.block p (Array.getElem?_eq_some_iff.1 hb).1 hp]; exact hb
theorem Touch.cell {w w' : World} {L : List Nat} (h : Touch w w' L) {b o : Nat} {v : Value} (hc : w.cell? ⟨b, o, none⟩ = some v) (hp : b ∉ L) : w'.cell? ⟨b, o, none⟩ = some v := by
  rw [World.cell?_of_block (w := w) (h.block b (World.block_lt_of_cell? w _ hc) hp)]; exact hc
theorem Touch.owns {w w' : World} {L : List Nat} (h : Touch w w' L) {b : Nat} {e : TypeId} {size : Nat} {v : Value} {n : Nat} {xs : List Value} (ho : w.ownsRow b e size v n xs) (hv : ∀ k, v.ownBlock = some k → k ∉ L) : w'.ownsRow b e size v n xs := by
  obtain ⟨h1, h2⟩ := ho
  refine ⟨h1, h2.imp id ?_⟩
  rintro ⟨g, cap, cur, h3⟩
  refine ⟨g, cap, cur, h3.1, h3.2.1, ?_, h3.2.2.2⟩
  rw [h.block g (Array.getElem?_eq_some_iff.1 h3.2.2.1).1 (hv g (by rw [h3.1]; rfl))]
  exact h3.2.2.1

/-- Block m is a map of bodies by numbers. -/
def FilesAt (w : World) (m : Nat) (F : Fl) : Prop := w.ownsMap Try.prog 3 (plainElem (H := Nat) Try.prog 9) m F.length (fD F) ∧ Rises F
theorem FilesAt.lt {w : World} {m : Nat} {F : Fl} (h : FilesAt w m F) : m < w.heap.size := h.1.lt
theorem Touch.files {w w' : World} {L : List Nat} (h : Touch w w' L) {m : Nat} {F : Fl} (hf : FilesAt w m F) (hm : m ∉ L) : FilesAt w' m F := by
  obtain ⟨⟨es, clock, hb, F1, hs, hD⟩, hr⟩ := hf
  exact ⟨⟨es, clock, by rw [h.block m (Array.getElem?_eq_some_iff.1 hb).1 hm]; exact hb, F1, hs, hD⟩, hr⟩
theorem FilesAt.ext {w w' : World} {m : Nat} {F : Fl} (hf : FilesAt w m F) (hE : Ext w w') : FilesAt w' m F := (Touch.of_ext hE []).files hf (by simp)
theorem und_mapis : Try.prog.underlying 99 = some (.map 3 9) := by kernel_rfl
theorem und_int0 : Try.prog.underlying 3 = some (.int .i64) := by kernel_rfl
theorem und_str0 : Try.prog.underlying 9 = some .string := by kernel_rfl
theorem keyed0 : Maps.Keyed Try.prog 3 := Maps.int_keyed und_int0
theorem zero_str (w : World) : (zeroValue 9).run Try.prog w = .ok (.string ⟨#[]⟩) w := by kernel_rfl
theorem elem_str {s : ByteArray} (hs : s.size ≤ maxLen) : plainElem (H := Nat) Try.prog 9 (.string s) = some (.lit (.string s.data.toList), []) := plainElem_string und_str0 hs
theorem wf_in {n : Int} (h0 : -9223372036854775808 ≤ n) (h1 : n ≤ 9223372036854775807) : (Lit.int .i64 n).wf = true := WalkArith.wf_i64 (by omega)
theorem owns_tight {w : World} {P : Program} {k : TypeId} {R : Value → Option (DataW Nat × List MemPlace)} {b n : Nat} {D : DataW Nat} (h : w.ownsMap P k R b n D) {n' : Nat} (hn : Maps.size D = n') : w.ownsMap P k R b n' D := by
  obtain ⟨es, clock, hb, F, hs, hD⟩ := h
  refine ⟨es, clock, hb, F, ?_, hD⟩
  rw [← hn, hD]
  simp [Maps.size, length_sorted]
theorem files_new (w : World) : FilesAt (w.alloc (.map #[] 0)) w.heap.size [] := ⟨World.ownsMap_made w Try.prog 3 _, List.Pairwise.nil⟩
theorem str_eq {s : ByteArray} {l : List UInt8} (h : s.data.toList = l) : s = str l := by
  subst h
  obtain ⟨d⟩ := s
  simp [str]
theorem files_look {w : World} {m : Nat} {F : Fl} (h : FilesAt w m F) {n : Int} (h0 : -9223372036854775808 ≤ n) (h1 : n ≤ 9223372036854775807) :
    (Instr.lookup 99 (.map (some m)) (.int .i64 n) true).run Try.prog w = .ok (.tuple #[.string (str (fget n F)), .bool (fhas n F)]) w ∧ (fget n F).length ≤ maxLen := by
  obtain ⟨v, ps, hr, hv⟩ := h.1.look_ok keyed0 und_mapis (zero_str w) (elem_str (s := ⟨#[]⟩) (by simp [ByteArray.size])) (Maps.keyOf_int_mk und_int0 (wf_in h0 h1))
  rw [fD_has] at hr
  have e : DataW.atKey (fD F : DataW Nat) (.int .i64 n) (.lit (.string (#[] : Array UInt8).toList)) = .lit (.string (fget n F)) := fD_at F n
  rw [e] at hv
  obtain ⟨s, rfl, hz, hs⟩ := plainElem_string_inv und_str0 hv
  have e2 : s.data.toList = fget n F := by
    simp only [Prod.mk.injEq, DataW.lit.injEq, Lit.string.injEq] at hz
    exact hz.1.symm
  obtain rfl := str_eq e2
  exact ⟨hr, by simpa using hs⟩
theorem files_len {w : World} {m : Nat} {F : Fl} (h : FilesAt w m F) (ty : TypeId) : (Builtin.len_ #[99] ty #[.map (some m)]).run Try.prog w = .ok (.int .i64 (F.length : Int)) w := by
  rw [h.1.len und_mapis ty, fD_size]
theorem mapTurned_touch {w w' : World} {m : Nat} (h : w.mapTurned w' m) : Touch w w' [m] := Touch.of_grown h.grown (by simp)
theorem files_put {w : World} {m : Nat} {F : Fl} (h : FilesAt w m F) {n : Int} (h0 : -9223372036854775808 ≤ n) (h1 : n ≤ 9223372036854775807) {b : ByteArray} (hb : b.size ≤ maxLen) (hn : F.length < maxLen) :
    ∃ w', (Instr.mapUpdate 99 (.map (some m)) (.int .i64 n) (.string b)).run Try.prog w = .ok () w' ∧ FilesAt w' m (fput n b.data.toList F) ∧ Touch w w' [m] := by
  obtain ⟨w', hr, ho, ht⟩ := h.1.store keyed0 und_mapis hn (Maps.keyOf_int_mk und_int0 (wf_in h0 h1)) (elem_str hb)
  rw [fD_put n _ F h.2] at ho
  exact ⟨w', hr, ⟨owns_tight ho (fD_size _), fput_rises h.2⟩, mapTurned_touch ht⟩
theorem files_del {w : World} {m : Nat} {F : Fl} (h : FilesAt w m F) {n : Int} (h0 : -9223372036854775808 ≤ n) (h1 : n ≤ 9223372036854775807) (ty : TypeId) :
    ∃ w', (Builtin.delete_ #[99, 3] ty #[.map (some m), .int .i64 n]).run Try.prog w = .ok (.tuple #[]) w' ∧ FilesAt w' m (fdel n F) ∧ Touch w w' [m] := by
  obtain ⟨w', hr, ho, ht⟩ := h.1.drop keyed0 und_mapis (Maps.keyOf_int_mk und_int0 (wf_in h0 h1)) ty
  rw [fD_del] at ho
  exact ⟨w', hr, ⟨owns_tight ho (fD_size _), fdel_rises h.2⟩, mapTurned_touch ht⟩
end Go.Proofs.Ytmjhdfifbjdgpaa

/- Package note: notes in memory; New, Drop, Get, Add. -/
namespace Go.Proofs.Ytmjhdfifbjdgpaa
open Go Go.RowKit
attribute [local go_sem] yields yUpon

structure NoteAt (w : World) (p m : Nat) (F : Fl) : Prop where
  box : BoxAt w p #[.map (some m)] 101
  files : FilesAt w m F
  ne : p ≠ m
theorem NoteAt.touch {w w' : World} {L : List Nat} (ht : Touch w w' L) {p m : Nat} {F : Fl} (h : NoteAt w p m F) (hp : p ∉ L) (hm : m ∉ L) : NoteAt w' p m F := ⟨ht.box h.box hp, ht.files h.files hm, h.ne⟩
theorem NoteAt.ext {w w' : World} (hE : Ext w w') {p m : Nat} {F : Fl} (h : NoteAt w p m F) : NoteAt w' p m F := h.touch (Touch.of_ext hE []) (by simp) (by simp)
theorem NoteAt.c0 {w : World} {p m : Nat} {F : Fl} (h : NoteAt w p m F) : w.cell? ⟨p, 0, none⟩ = some (.map (some m)) := by rw [h.box.cell]; rfl
theorem NoteAt.turn {w w' : World} {p m : Nat} {F F' : Fl} (h : NoteAt w p m F) (ht : Touch w w' [m]) (hf : FilesAt w' m F') : NoteAt w' p m F' := ⟨ht.box h.box (by simpa using h.ne), hf, h.ne⟩
theorem fget_none {n : Int} {F : Fl} (h : fhas n F = false) : fget n F = [] := by
  unfold fget fhas at *
  rw [List.find?_eq_none.2 (by simpa using h)]; rfl

set_option maxHeartbeats 400000 in
theorem nt_new (w : World) : Calls Try.prog 8 #[] w fun e w' => e = .returned (.pointer (some ⟨w.heap.size + 1, 0, none⟩)) ∧ w' = (w.alloc (.map #[] 0)).alloc (.cells #[.map (some w.heap.size)] 101) := by
  have hmm := @run_makeMap Try.prog
  go_enter Try.func8, Try.ntmps8
  go_wp2
  go_ret
  exact ⟨rfl, rfl⟩
theorem nt_made (w : World) : NoteAt ((w.alloc (.map #[] 0)).alloc (.cells #[.map (some w.heap.size)] 101)) (w.heap.size + 1) w.heap.size [] := by
  have e : (w.alloc (.map #[] 0)).heap.size = w.heap.size + 1 := by simp
  refine ⟨?_, (files_new w).ext ((Ext.refl _).alloc _), by omega⟩
  have := BoxAt.made (w.alloc (.map #[] 0)) #[.map (some w.heap.size)] 101
  rw [e] at this
  exact this

section
variable {p m : Nat} {F : Fl}
set_option maxHeartbeats 400000 in
theorem nt_get (n : Int) (h0 : -9223372036854775808 ≤ n) (h1 : n ≤ 9223372036854775807) (w : World) (h : NoteAt w p m F) :
    Calls Try.prog 13 #[.pointer (some ⟨p, 0, none⟩), .int .i64 n] w fun e w' => e = .returned (.tuple #[.string (str (fget n F)), .bool (fhas n F)]) ∧ w = w' := by
  have c2 := h.c0
  obtain ⟨hk, _⟩ := files_look h.files h0 h1
  go_enter Try.func13, Try.ntmps13
  go_wp2
  go_ret2
  exact ⟨rfl, rfl⟩

set_option maxHeartbeats 400000 in
theorem nt_drop (n : Int) (h0 : -9223372036854775808 ≤ n) (h1 : n ≤ 9223372036854775807) (w : World) (h : NoteAt w p m F) :
    Calls Try.prog 10 #[.pointer (some ⟨p, 0, none⟩), .int .i64 n] w fun e w' => (e = .returned (.bool (fhas n F)) ∧ Touch w w' [m]) ∧ NoteAt w' p m (fdel n F) := by
  have c2 := h.c0
  obtain ⟨hk, _⟩ := files_look h.files h0 h1
  obtain ⟨w1, hr, hf, ht⟩ := files_del h.files h0 h1 0
  go_enter Try.func10, Try.ntmps10
  go_wp2
  go_ret
  exact ⟨⟨rfl, ht⟩, h.turn ht hf⟩

/-- May a note be added? -/
def addB (id : Int) (n : Nat) (F : Fl) : Bool := !(decide (id < 1) || decide (1099511627776 < id) || decide (4096 < n) || (!fhas id F && decide (300 ≤ F.length)))
theorem addB_cases (id : Int) (n : Nat) (F : Fl) : (addB id n F = true ∧ ¬ id < 1 ∧ ¬ 1099511627776 < id ∧ ¬ 4096 < (n : Int) ∧ (fhas id F = true ∨ fhas id F = false ∧ ¬ 300 ≤ (F.length : Int))) ∨
    (addB id n F = false ∧ (id < 1 ∨ ¬ id < 1 ∧ 1099511627776 < id ∨ ¬ id < 1 ∧ ¬ 1099511627776 < id ∧ 4096 < (n : Int) ∨ ¬ id < 1 ∧ ¬ 1099511627776 < id ∧ ¬ 4096 < (n : Int) ∧ fhas id F = false ∧ 300 ≤ (F.length : Int))) := by
  unfold addB
  by_cases h1 : id < 1
  · exact .inr ⟨by simp [h1], .inl h1⟩
  · by_cases h2 : 1099511627776 < id
    · exact .inr ⟨by simp [h2], .inr (.inl ⟨h1, h2⟩)⟩
    · by_cases h3 : 4096 < n
      · exact .inr ⟨by simp [h3], .inr (.inr (.inl ⟨h1, h2, by omega⟩))⟩
      · cases h4 : fhas id F with
        | true => exact .inl ⟨by simp [h1, h2, h3], h1, h2, by omega, .inl rfl⟩
        | false =>
          by_cases h5 : 300 ≤ F.length
          · exact .inr ⟨by simp [h5], .inr (.inr (.inr ⟨h1, h2, by omega, rfl, by omega⟩))⟩
          · exact .inl ⟨by simp [h1, h2, h3, h5], h1, h2, by omega, .inr ⟨rfl, by omega⟩⟩

theorem yields_look {o : Oper} {a : Act} {w : World} {R : Value → World → Prop} (x y : Operand) (hop : o.op = Op.lookup 99 x y true) {m : Nat} {F : Fl} {n : Int} (hx : a.eval x = .map (some m)) (hy : a.eval y = .int .i64 n) (h0 : -9223372036854775808 ≤ n) (h1 : n ≤ 9223372036854775807)
    (h : FilesAt w m F) (hR : R (.tuple #[.string (str (fget n F)), .bool (fhas n F)]) w) : yields Try.prog o a w R := by
  unfold yields execOp
  simp only [hop, hx, hy, Sem.run_bind, (files_look h h0 h1).1, Result.andThen_ok, Sem.run_pure]
  exact hR

set_option maxRecDepth 100000 in
set_option maxHeartbeats 4000000 in
theorem nt_add (id : Int) (h0 : -9223372036854775808 ≤ id) (h1 : id ≤ 9223372036854775807) (b : ByteArray) (hb : b.size ≤ maxLen) (hF : F.length ≤ 1000000) (w : World) (h : NoteAt w p m F) :
    Calls Try.prog 11 #[.pointer (some ⟨p, 0, none⟩), .agg #[.int .i64 id, .string b]] w fun e w' => (e = .returned (.bool (addB id b.size F)) ∧ Touch w w' [m]) ∧ NoteAt w' p m (if addB id b.size F then fput id b.data.toList F else F) := by
  have hE0 := (Ext.refl w).alloc (.cells #[.int .i64 id, .string b] 30)
  have hbx := BoxAt.made w #[.int .i64 id, .string b] 30
  have hn := h.ext hE0
  obtain ⟨W, hW⟩ : ∃ W, W = w.alloc (.cells #[.int .i64 id, .string b] 30) := ⟨_, rfl⟩
  rw [← hW] at hE0 hbx hn
  have hb' := hb
  unfold maxLen at hb'
  rcases addB_cases id b.size F with ⟨hA, a1, a2, a3, a4⟩ | ⟨hA, a4⟩
  · rw [hA]
    simp only [if_true]
    rcases a4 with a4 | ⟨a4, a5⟩
    all_goals
      go_enter Try.func11, Try.ntmps11
      go_wp2
      rw [← hW]
      clear hW
      refine wp_region_tab 12 [(1, fun v _ => v = .pointer (some ⟨p, 0, none⟩)), (6, fun v _ => v = .tuple #[.string (str (fget id F)), .bool (fhas id F)])] (by kernel_rfl) (by kernel_rfl) (by kernel_rfl) ⟨stays_eq _, stays_eq _, trivial⟩ ?_
      have c0 := held hn.c0
      have d0 := held (show W.cell? ⟨w.heap.size, 0, none⟩ = some (.int .i64 id) by rw [hbx.cell]; rfl)
      refine rg_quiet rfl rfl rfl rfl ?_; intro K hK; go_big_quiet_op; go_big_quiet_on
      refine rg_val [] rfl rfl rfl (by kernel_rfl) (fun w1 hE hf => ?_) ?_
      · go_simp
        exact rg_done hE (Ext.refl w1) rfl
      simp only [Act.put, List.setIfInBounds_toArray, List.set_cons_zero, List.set_cons_succ]
      refine rg_quiet rfl rfl rfl rfl ?_; intro K hK; go_big_quiet_op; go_big_quiet_on
      refine rg_quiet rfl rfl rfl rfl ?_; intro K hK; go_big_quiet_op; go_big_quiet_on
      refine rg_quiet rfl rfl rfl rfl ?_; intro K hK; go_big_quiet_op; go_big_quiet_on
      refine rg_quiet rfl rfl rfl rfl ?_; intro K hK; go_big_quiet_op; go_big_quiet_on
      refine rg_val [] rfl rfl rfl (by kernel_rfl) (fun w1 hE hf => ?_) ?_
      · exact yields_look (.tmp 11) (.tmp 13) rfl (by rfl) (by rfl) h0 h1 (hn.files.ext hE) (rg_done hE (Ext.refl w1) rfl)
      simp only [Act.put, List.setIfInBounds_toArray, List.set_cons_zero, List.set_cons_succ]
      refine rg_quiet rfl rfl rfl rfl ?_; intro K hK; go_big_quiet_op; go_big_quiet_on
      refine rg_quiet rfl rfl rfl rfl ?_; intro K hK; go_big_quiet_op; go_big_quiet_on
      refine rg_quiet rfl rfl rfl rfl ?_; intro K hK; go_big_quiet_op; go_big_quiet_on
      refine rg_quiet rfl rfl rfl rfl ?_; intro K hK; go_big_quiet_op; go_big_quiet_on
      refine rg_quiet rfl rfl rfl rfl ?_; intro K hK; go_big_quiet_op; go_big_quiet_on
      refine rel_nil fun w2 hE2 _ => ?_
      clear c0 d0
      have hn2 := hn.ext hE2
      have hb2 := hbx.ext hE2
      have b0 := hb2.cell 0
      have b1 := hb2.cell 1
      simp at b0 b1
      have c0 := hn2.c0
      have hlen := files_len hn2.files 3
      rw [a4] at *
      go_wp2
      clear b0 b1 c0 hlen
      refine wp_region_tab 8 [(1, fun v _ => v = .pointer (some ⟨p, 0, none⟩))] (by kernel_rfl) (by kernel_rfl) (by kernel_rfl) ⟨stays_eq _, trivial⟩ ?_
      have b0 := held (show w2.cell? ⟨w.heap.size, 0, none⟩ = some (.int .i64 id) by rw [hb2.cell]; rfl)
      have b1 := held (show w2.cell? ⟨w.heap.size, 1, none⟩ = some (.string b) by rw [hb2.cell]; rfl)
      have c0 := held hn2.c0
      refine rg_quiet rfl rfl rfl rfl ?_; intro K hK; go_big_quiet_op; go_big_quiet_on
      refine rg_val [] rfl rfl rfl (by kernel_rfl) (fun w3 hE hf => ?_) ?_
      · go_simp
        exact rg_done hE (Ext.refl w3) rfl
      simp only [Act.put, List.setIfInBounds_toArray, List.set_cons_zero, List.set_cons_succ]
      refine rg_quiet rfl rfl rfl rfl ?_; intro K hK; go_big_quiet_op; go_big_quiet_on
      refine rg_quiet rfl rfl rfl rfl ?_; intro K hK; go_big_quiet_op; go_big_quiet_on
      refine rg_quiet rfl rfl rfl rfl ?_; intro K hK; go_big_quiet_op; go_big_quiet_on
      refine rg_quiet rfl rfl rfl rfl ?_; intro K hK; go_big_quiet_op; go_big_quiet_on
      refine rg_quiet rfl rfl rfl rfl ?_; intro K hK; go_big_quiet_op; go_big_quiet_on
      refine rg_quiet rfl rfl rfl rfl ?_; intro K hK; go_big_quiet_op; go_big_quiet_on
      refine rel_tail rfl rfl fun w3 hE3 hG => ?_
      clear b0 b1 c0 hG
      have hn3 := hn2.ext hE3
      obtain ⟨w4, hr, hf4, ht4⟩ := files_put hn3.files h0 h1 hb (by unfold maxLen; omega)
      go_wp2
      go_ret
      exact ⟨⟨rfl, ((Touch.of_ext (hE0.trans (hE2.trans hE3)) [m]).trans ht4).mono (by simp)⟩, hn3.turn ht4 hf4⟩
  · rw [hA]
    simp only [Bool.false_eq_true, if_false]
    rcases a4 with a4 | ⟨a1, a4⟩ | ⟨a1, a2, a4⟩ | ⟨a1, a2, a3, a5, a4⟩
    all_goals
      go_enter Try.func11, Try.ntmps11
      go_wp2
      rw [← hW]
      clear hW
      refine wp_region_tab 12 [(1, fun v _ => v = .pointer (some ⟨p, 0, none⟩)), (6, fun v _ => v = .tuple #[.string (str (fget id F)), .bool (fhas id F)])] (by kernel_rfl) (by kernel_rfl) (by kernel_rfl) ⟨stays_eq _, stays_eq _, trivial⟩ ?_
      have c0 := held hn.c0
      have d0 := held (show W.cell? ⟨w.heap.size, 0, none⟩ = some (.int .i64 id) by rw [hbx.cell]; rfl)
      refine rg_quiet rfl rfl rfl rfl ?_; intro K hK; go_big_quiet_op; go_big_quiet_on
      refine rg_val [] rfl rfl rfl (by kernel_rfl) (fun w1 hE hf => ?_) ?_
      · go_simp
        exact rg_done hE (Ext.refl w1) rfl
      simp only [Act.put, List.setIfInBounds_toArray, List.set_cons_zero, List.set_cons_succ]
      refine rg_quiet rfl rfl rfl rfl ?_; intro K hK; go_big_quiet_op; go_big_quiet_on
      refine rg_quiet rfl rfl rfl rfl ?_; intro K hK; go_big_quiet_op; go_big_quiet_on
      refine rg_quiet rfl rfl rfl rfl ?_; intro K hK; go_big_quiet_op; go_big_quiet_on
      refine rg_quiet rfl rfl rfl rfl ?_; intro K hK; go_big_quiet_op; go_big_quiet_on
      refine rg_val [] rfl rfl rfl (by kernel_rfl) (fun w1 hE hf => ?_) ?_
      · exact yields_look (.tmp 11) (.tmp 13) rfl (by rfl) (by rfl) h0 h1 (hn.files.ext hE) (rg_done hE (Ext.refl w1) rfl)
      simp only [Act.put, List.setIfInBounds_toArray, List.set_cons_zero, List.set_cons_succ]
      refine rg_quiet rfl rfl rfl rfl ?_; intro K hK; go_big_quiet_op; go_big_quiet_on
      refine rg_quiet rfl rfl rfl rfl ?_; intro K hK; go_big_quiet_op; go_big_quiet_on
      refine rg_quiet rfl rfl rfl rfl ?_; intro K hK; go_big_quiet_op; go_big_quiet_on
      refine rg_quiet rfl rfl rfl rfl ?_; intro K hK; go_big_quiet_op; go_big_quiet_on
      refine rg_quiet rfl rfl rfl rfl ?_; intro K hK; go_big_quiet_op; go_big_quiet_on
      refine rel_nil fun w2 hE2 _ => ?_
      clear c0 d0
      have hn2 := hn.ext hE2
      have hb2 := hbx.ext hE2
      have b0 := hb2.cell 0
      have b1 := hb2.cell 1
      simp at b0 b1
      have c0 := hn2.c0
      have hlen := files_len hn2.files 3
      try rw [a5]
      go_wp2
      go_ret
      exact ⟨⟨rfl, Touch.of_ext (hE0.trans hE2) _⟩, h.ext (hE0.trans hE2)⟩
end
end Go.Proofs.Ytmjhdfifbjdgpaa

/- Notes in a slice in memory. -/
namespace Go.Proofs.Ytmjhdfifbjdgpaa
open Go Go.RowKit

theorem info_note : (Try.prog.info? 30).map (fun i => (i.zero, i.size, i.bytes)) = some (some (.agg #[.int .i64 0, .string ⟨#[]⟩]), 2, 24) := by kernel_rfl
theorem und_notes : Try.prog.underlying 31 = some (.slice 30) := by kernel_rfl
def ncells (F : Fl) : List Value := F.flatMap fun q => [.int .i64 q.1, .string (str q.2)]
theorem ncells_snoc (F : Fl) (q : Int × List UInt8) : ncells (F ++ [q]) = ncells F ++ [.int .i64 q.1, .string (str q.2)] := by simp [ncells]
def NotesIn (w : World) (v : Value) (F : Fl) : Prop := SliceIn w v F.length (ncells F)
theorem ncells_get : ∀ {F : Fl} {k : Nat} (hk : k < F.length), (ncells F)[k * 2]? = some (.int .i64 (F[k]).1) ∧ (ncells F)[k * 2 + 1]? = some (.string (str (F[k]).2))
  | [], k, hk => by simp at hk
  | q :: F, 0, _ => by simp [ncells]
  | q :: F, k + 1, hk => by
    have h := ncells_get (F := F) (k := k) (by simpa using hk)
    have e : ncells (q :: F) = .int .i64 q.1 :: .string (str q.2) :: ncells F := by simp [ncells]
    rw [e, show (k + 1) * 2 = k * 2 + 1 + 1 by omega]
    simpa using h
theorem ncells_length (F : Fl) : (ncells F).length = F.length * 2 := by
  induction F with
  | nil => rfl
  | cons q F ih => simp [ncells] at ih ⊢; omega
theorem ncells_append (F G : Fl) : ncells (F ++ G) = ncells F ++ ncells G := by simp [ncells]
theorem ncells_one (F : Fl) : ∀ u ∈ ncells F, u.oneCell' = true := by
  intro u hu
  simp only [ncells, List.mem_flatMap, List.mem_cons, List.not_mem_nil, or_false] at hu
  obtain ⟨q, _, rfl | rfl⟩ := hu <;> rfl
theorem NotesIn.ext {w w' : World} (hE : Ext w w') {v : Value} {F : Fl} (h : NotesIn w v F) : NotesIn w' v F := SliceIn.ext hE h
theorem NotesIn.get {w : World} {v : Value} {F : Fl} (h : NotesIn w v F) : ∃ a c, v = .slice a F.length c ∧ F.length ≤ c ∧ c ≤ 9223372036854775807 ∧ ∀ k (hk : k < F.length), ∃ b o, a = some ⟨b, o, none⟩ ∧ w.cell? ⟨b, o + k * 2, none⟩ = some (.int .i64 (F[k]).1) ∧ w.cell? ⟨b, o + k * 2 + 1, none⟩ = some (.string (str (F[k]).2)) := by
  obtain ⟨a, c, rfl, hc, hcm, ha, hcell⟩ := h
  unfold maxLen at hcm
  refine ⟨a, c, rfl, hc, by omega, fun k hk => ?_⟩
  obtain ⟨h1, h2⟩ := ncells_get hk
  obtain ⟨b, o, rfl, hx⟩ := hcell _ _ h1
  obtain ⟨b', o', e, hy⟩ := hcell _ _ h2
  cases e
  exact ⟨b, o, rfl, hx, by rw [Nat.add_assoc]; exact hy⟩
end Go.Proofs.Ytmjhdfifbjdgpaa

/- Notes that may be; what Fits tells, in plain words. -/
namespace Go.Proofs.Ytmjhdfifbjdgpaa
open Go Go.RowKit

structure Good (F : Fl) : Prop where
  rises : Rises F
  len : F.length ≤ 300
  keys : ∀ q ∈ F, 1 ≤ q.1 ∧ q.1 ≤ 1099511627776
theorem Good.nil : Good [] := ⟨List.Pairwise.nil, by simp, by simp⟩
theorem Good.del {F : Fl} (h : Good F) (n : Int) : Good (fdel n F) :=
  ⟨fdel_rises h.rises, Nat.le_trans (List.length_filter_le ..) h.len, fun q hq => h.keys q (List.mem_filter.1 hq).1⟩
theorem Good.put {F : Fl} (h : Good F) {n : Int} {m : Nat} {b : List UInt8} (ha : addB n m F = true) : Good (fput n b F) := by
  rcases addB_cases n m F with ⟨_, a1, a2, a3, a4⟩ | ⟨h', _⟩
  · refine ⟨fput_rises h.rises, ?_, fun q hq => ?_⟩
    · rw [fput_length h.rises]
      have := h.len
      rcases a4 with a4 | ⟨a4, a5⟩
      · rw [if_pos a4]; omega
      · rw [if_neg (by rw [a4]; decide)]; omega
    · rcases fput_mem hq with rfl | hq
      · simp; omega
      · exact h.keys q hq
  · rw [ha] at h'; cases h'
def fadds : Fl → Fl → Bool
  | _, [] => true
  | F, a :: A => addB a.1 a.2.length F && fadds (fput a.1 a.2 F) A
def fdels (F : Fl) (D : List Int) : Fl := D.foldl (fun F d => fdel d F) F
theorem Good.dels {F : Fl} (h : Good F) : ∀ D, Good (fdels F D)
  | [] => h
  | d :: D => by unfold fdels; rw [List.foldl_cons]; exact Good.dels (h.del d) D
/-- Would all of A be kept, when those of D are gone? -/
def fitsB (F A : Fl) (D : List Int) : Bool := fadds (fdels F D) A
theorem fdels_snoc (F : Fl) (D : List Int) (d : Int) : fdels F (D ++ [d]) = fdel d (fdels F D) := by simp [fdels]
end Go.Proofs.Ytmjhdfifbjdgpaa
