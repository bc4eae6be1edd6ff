/- Package note: All. -/
import Derived.Test.YtmjhdfifbjdgpaaQ4
import Derived.Test.YtmjhdfifbjdgpaaQ2
import Derived.BigQuiet
import Derived.Test.YtmjhdfifbjdgpaaQ1
import Derived.Test.YtmjhdfifbjdgpaaProg
import Derived.Deep.Light
set_option linter.unusedSimpArgs false
set_option linter.unusedVariables false
namespace Go.Proofs.Ytmjhdfifbjdgpaa
open Go Go.RowKit
attribute [local go_sem] yields yUpon

theorem fget_nth : ∀ {F : Fl} (_ : Rises F) {k : Nat} (hk : k < F.length), fget (F[k]).1 F = (F[k]).2
  | [], _, k, hk => by simp at hk
  | q :: F, h, 0, _ => by simp [fget]
  | q :: F, h, k + 1, hk => by
    have h1 := h.head (F[k]'(by simpa using hk)) (List.getElem_mem _)
    have h2 := fget_nth h.tail (k := k) (by simpa using hk)
    have h3 : (q.1 == (F[k]'(by simpa using hk)).1) = false := by simp; omega
    simp only [List.getElem_cons_succ]
    unfold fget at h2 ⊢
    rw [List.find?_cons, h3]
    exact h2

theorem files_look0 {w : World} {m : Nat} {F : Fl} (h : FilesAt w m F) {n : Int} (h0 : -9223372036854775808 ≤ n) (h1 : n ≤ 9223372036854775807) :
    (Instr.lookup 99 (.map (some m)) (.int .i64 n) false).run Try.prog w = .ok (.string (str (fget n F))) w ∧ (fget n F).length ≤ maxLen := by
  obtain ⟨v, ps, hr, hv⟩ := h.1.lookup keyed0 und_mapis (zero_str w) (elem_str (s := ⟨#[]⟩) (by simp [ByteArray.size])) (Maps.keyOf_int_mk und_int0 (wf_in h0 h1))
  have e : DataW.atKey (fD F : DataW Nat) (.int .i64 n) (.lit (.string (#[] : Array UInt8).toList)) = .lit (.string (fget n F)) := fD_at F n
  rw [e] at hv
  obtain ⟨s, rfl, hz, hs⟩ := plainElem_string_inv und_str0 hv
  have e2 : s.data.toList = fget n F := by
    simp only [Prod.mk.injEq, DataW.lit.injEq, Lit.string.injEq] at hz
    exact hz.1.symm
  obtain rfl := str_eq e2
  exact ⟨hr, by simpa using hs⟩

section
variable {p m : Nat} {F : Fl}
set_option maxHeartbeats 4000000 in
theorem nt_all (w : World) (h : NoteAt w p m F) (hF : F.length ≤ 1000000) (hK : ∀ q ∈ F, -9223372036854775808 ≤ q.1 ∧ q.1 ≤ 9223372036854775807) :
    Calls Try.prog 12 #[.pointer (some ⟨p, 0, none⟩)] w fun e w' => ∃ v, (e = .returned v ∧ Ext w w') ∧ NotesIn w' v F := by
  have c0 := h.c0
  have hr := h.files.2
  have hfl := h.files
  go_enter Try.func12, Try.ntmps12
  go_wp2_with (first
    | (go_at_call 47; go_must (refine (nk_keys (some m) w).mono ?_); rintro e w1 ⟨rfl, rfl⟩)
    | (go_at_call 46; go_must (refine (nk_sorted hF w hfl).mono ?_); rintro e w2 ⟨v2, ⟨rfl, hE2⟩, ho2⟩; obtain ⟨a2, c2, rfl, hc2, hcm2, _, hcell2⟩ := SliceIn.of_owns ho2; unfold maxLen at hcm2))
  have HC := Lib.hid hcell2
  have hkl : (keysF F).length = F.length := by simp [keysF]
  have hE02 := ((Ext.refl w).alloc (.cells #[.map (some m)] 99)).trans hE2
  have hn2 := h.ext hE02
  have HK := Lib.hid hK
  have HR := Lib.hid hr
  clear hcell2 ho2 hK hr hfl c0 hkl
  obtain ⟨n, hn⟩ : ∃ n, n = F.length := ⟨_, rfl⟩
  have HN := Lib.hid hn
  rw [← hn] at hc2 hF ⊢
  clear hn
  go_loopw [3, 13] (fun vl i wr => ∃ k : Nat, k ≤ n ∧ i = .int .i64 (k : Int) ∧ wr.ownsRow w2.heap.size 30 2 vl k (ncells (F.take k)) ∧ Ext w2 wr) (fun _ i _ => n - (intOf i).toNat)
  case atStart => exact ⟨0, Nat.zero_le _, rfl, World.ownsRow_nil _ _ _ _, Ext.refl w2⟩
  case round =>
    obtain ⟨k, hk, rfl, hown, hE⟩ := hrel
    by_cases hlt : k < n
    · have hkF : k < F.length := by rw [← HN.out]; exact hlt
      obtain ⟨b, o, rfl, hck⟩ := HC.out k (.int .i64 (F[k]).1) (by rw [kcells_get]; simp [keysF, hkF])
      replace hck := hE.cell hck
      have hb := HK.out _ (List.getElem_mem hkF)
      have hn3 := hn2.ext hE
      have hlk := (files_look0 hn3.files hb.1 hb.2).1
      rw [fget_nth HR.out hkF] at hlk
      have c0 := hn3.c0
      have HT : Hid (ncells (F.take (k + 1)) = ncells (F.take k) ++ [.int .i64 (F[k]).1, .string (str (F[k]).2)]) := Lib.hid (by rw [List.take_succ_eq_append_getElem hkF, ncells_snoc])
      obtain ⟨key, hkey⟩ : ∃ key, key = (F[k]).1 := ⟨_, rfl⟩
      obtain ⟨bd, hbd⟩ : ∃ bd, bd = str (F[k]).2 := ⟨_, rfl⟩
      rw [← hkey] at hck hlk HT
      rw [← hbd] at hlk HT
      clear hkey hbd hb
      go_wp2_with (at_builtin; go_must (refine appR info_note und_notes rfl (by decide) wr rfl (.tmp 17) (.tmp 26) rfl w2.heap.size hE.le _ k (ncells (F.take k)) hown (by rfl) 1 _ (by rfl) (by rfl) (by simp [Value.oneCell']) (by unfold maxLen; omega) (by omega) ?_); intro v8 w8 ho8 hg8)
      have hE8 := (hE.alloc (.cells #[.int .i64 key, .string bd] 30)).grown hg8 (fun q hq => (hown.lt q hq).1)
      go_roundw
      case rel => exact ⟨k + 1, by omega, by go_num, by rw [HT.out]; exact ho8, hE8⟩
      case measure => simp [intOf]; omega
    · obtain rfl : k = n := by omega
      go_wp2
      go_ret
      refine ⟨_, ⟨rfl, hE02.trans hE⟩, ?_⟩
      have h1 := SliceIn.of_owns hown
      rw [HN.out, List.take_length] at h1
      exact h1
end
end Go.Proofs.Ytmjhdfifbjdgpaa

/- Package note: clerestorylaw11.awake. -/
namespace Go.Proofs.Ytmjhdfifbjdgpaa
open Go Go.RowKit
attribute [local go_sem] yields yUpon

set_option maxHeartbeats 4000000 in
theorem awake11_any (w : World) : Calls Try.prog 14 #[] w fun e w' => e = .returned (.bool true) ∧ Ext w w' := by
  go_enter Try.func14, Try.ntmps14
  go_wp2_with (first
    | (go_at_call 8; go_must (refine (nt_new w).mono ?_); rintro e w1 ⟨rfl, hw1⟩; have hn := nt_made w; rw [← hw1] at hn; have hE1 : Ext w w1 := (by rw [hw1]; exact ((Ext.refl w).alloc _).alloc _); clear hw1)
    | (go_at_call 11; go_must (refine (nt_add 1 (by decide) (by decide) ⟨#[120]⟩ (by decide) (by decide) w1 hn).mono ?_); rintro e w2 ⟨⟨rfl, ht2⟩, hn2⟩; rw [show addB 1 (⟨#[120]⟩ : ByteArray).size [] = true from by decide] at hn2 ⊢; simp only [if_true] at hn2)
    | (go_at_call 13; go_must (refine (nt_get 1 (by decide) (by decide) w2 hn2).mono ?_); rintro e w3 ⟨rfl, rfl⟩; rw [show fget 1 (fput 1 (⟨#[120]⟩ : ByteArray).data.toList []) = [120] from by decide, show fhas 1 (fput 1 (⟨#[120]⟩ : ByteArray).data.toList []) = true from by decide]))
  refine (nt_drop 1 (by decide) (by decide) w2 hn2).mono ?_
  rintro e w4 ⟨⟨rfl, ht4⟩, hn4⟩
  rw [show fhas 1 (fput 1 (⟨#[120]⟩ : ByteArray).data.toList []) = true from by decide]
  go_wp2_with fail
  refine (nt_drop 1 (by decide) (by decide) w4 hn4).mono ?_
  rintro e w5 ⟨⟨rfl, ht5⟩, hn5⟩
  rw [show fhas 1 (fdel 1 (fput 1 (⟨#[120]⟩ : ByteArray).data.toList [])) = false from by decide]
  go_wp2
  go_ret
  exact ⟨rfl, (((ht2.trans ht4).trans ht5).mono (M := [w.heap.size]) (by simp)).ext hE1 (by simp)⟩
end Go.Proofs.Ytmjhdfifbjdgpaa

/- clerestorylaw00.SameNotes of notes that read alike. -/
namespace Go.Proofs.Ytmjhdfifbjdgpaa
open Go Go.RowKit
attribute [local go_sem] yields yUpon

set_option maxRecDepth 100000 in
set_option maxHeartbeats 4000000 in
theorem sameN_any (va vb : Value) (F : Fl) (w : World) (ha : NotesIn w va F) (hb : NotesIn w vb F) :
    Calls Try.prog 20 #[va, vb] w fun e w' => e = .returned (.bool true) ∧ Ext w w' := by
  obtain ⟨aa, ca, rfl, hca, hcma, hga⟩ := ha.get
  obtain ⟨ab, cb, rfl, hcb, hcmb, hgb⟩ := hb.get
  have HA := Lib.hid hga
  have HB := Lib.hid hgb
  obtain ⟨n, hn⟩ : ∃ n, n = F.length := ⟨_, rfl⟩
  have HN := Lib.hid hn
  rw [← hn] at hca hcb ⊢
  clear hga hgb hn ha hb
  go_enter Try.func20, Try.ntmps20
  go_wp2
  go_loopw [5] (fun i wr => ∃ k : Nat, k ≤ n ∧ i = .int .i64 (k : Int) ∧ Ext w wr) (fun i _ => n - (intOf i).toNat)
  case atStart => exact ⟨0, Nat.zero_le _, rfl, Ext.refl w⟩
  case round =>
    obtain ⟨k, hk, rfl, hE⟩ := hrel
    by_cases hlt : k < n
    · have hkF : k < F.length := by rw [← HN.out]; exact hlt
      obtain ⟨b, o, rfl, x0, x1⟩ := HA.out k hkF
      obtain ⟨b', o', rfl, y0, y1⟩ := HB.out k hkF
      replace x0 := hE.cell x0
      replace x1 := hE.cell x1
      replace y0 := hE.cell y0
      replace y1 := hE.cell y1
      obtain ⟨x, hx⟩ : ∃ x, x = (F[k]).1 := ⟨_, rfl⟩
      obtain ⟨s, hs⟩ : ∃ s, s = str (F[k]).2 := ⟨_, rfl⟩
      rw [← hx] at x0 y0
      rw [← hs] at x1 y1
      clear hx hs
      have t1 : decide ((k : Int) < (n : Int)) = true := by simp; omega
      have t2 : (x != x) = false := by simp
      go_wp2_with fail
      go_quiet (fail)
      go_wp2
      go_roundw
      case rel => exact ⟨k + 1, by omega, by go_num, hE.drewN _⟩
      case measure => simp [intOf]; omega
    · obtain rfl : k = n := by omega
      go_wp2_with fail
      go_ret
      exact ⟨rfl, hE⟩
end Go.Proofs.Ytmjhdfifbjdgpaa

/- Cells as one thing; cell.Seen, cell.Check. -/
namespace Go.Proofs.Ytmjhdfifbjdgpaa
open Go Go.RowKit

structure Cl where
  val : ByteArray
  dead : Bool
  at_ : Int
  fin : Int
@[simp] theorem Cl.eta (c : Cl) : Cl.mk c.val c.dead c.at_ c.fin = c := rfl
def clCells : List Cl → List Value
  | [] => []
  | c :: l => .string c.val :: .bool c.dead :: .int .i64 c.at_ :: .int .i64 c.fin :: clCells l
theorem clCells_length (l : List Cl) : (clCells l).length = l.length * 4 := by
  induction l with
  | nil => rfl
  | cons c l ih => simp [clCells, ih]; omega
theorem clCells_get : ∀ (l : List Cl) (k : Nat) (h : k < l.length), (clCells l)[k * 4]? = some (.string l[k].val) ∧ (clCells l)[k * 4 + 1]? = some (.bool l[k].dead) ∧ (clCells l)[k * 4 + 2]? = some (.int .i64 l[k].at_) ∧ (clCells l)[k * 4 + 3]? = some (.int .i64 l[k].fin)
  | c :: l, 0, _ => by simp [clCells]
  | c :: l, k + 1, h => by
    have ih := clCells_get l k (by simpa using h)
    have e : (k + 1) * 4 = k * 4 + 4 := by omega
    simp only [e, clCells, List.getElem_cons_succ]
    exact ⟨by simpa using ih.1, by simpa using ih.2.1, by simpa using ih.2.2.1, by simpa using ih.2.2.2⟩
def ClsIn (w : World) (v : Value) (l : List Cl) : Prop := SliceIn w v l.length (clCells l)
theorem ClsIn.ext {w w' : World} (hE : Ext w w') {v : Value} {l : List Cl} (h : ClsIn w v l) : ClsIn w' v l := SliceIn.ext hE h
/-- A cell in memory. -/
structure CellAt (w : World) (b : Nat) (c : Cl) : Prop where
  c0 : w.cell? ⟨b, 0, none⟩ = some (.string c.val)
  c1 : w.cell? ⟨b, 1, none⟩ = some (.bool c.dead)
  c2 : w.cell? ⟨b, 2, none⟩ = some (.int .i64 c.at_)
  c3 : w.cell? ⟨b, 3, none⟩ = some (.int .i64 c.fin)
theorem CellAt.ext {w w' : World} (hE : Ext w w') {b : Nat} {c : Cl} (h : CellAt w b c) : CellAt w' b c := ⟨hE.cell h.c0, hE.cell h.c1, hE.cell h.c2, hE.cell h.c3⟩
theorem agg_congr {x y : Cl} (h : x = y) : ((.agg #[.string x.val, .bool x.dead, .int .i64 x.at_, .int .i64 x.fin]) : Value) = (.agg #[.string y.val, .bool y.dead, .int .i64 y.at_, .int .i64 y.fin]) := by rw [h]
theorem bool_congr {x y : Bool} (h : x = y) : Value.bool x = Value.bool y := by rw [h]
theorem int_congr {x y : Int} (h : x = y) : Value.int .i64 x = Value.int .i64 y := by rw [h]
def seenB (d : Bool) (a e now : Int) : Bool := decide (0 < a) && !d && (e == 0 || decide (now < e))
def stampB (v : Int) : Bool := decide (0 ≤ v) && decide (v ≤ 1099511627776)
def checkC (v : ByteArray) (d : Bool) (a e : Int) : Bool :=
  stampB a && stampB e && (if a = 0 then v.toList == [] && !d && e == 0 else if d then v.toList == [] && e == 0 else decide (v.size ≤ 100))

set_option maxHeartbeats 400000 in
theorem seen_any (v : ByteArray) (d : Bool) (a e n : Int) (w : World) :
    Calls Try.prog 85 #[.agg #[.string v, .bool d, .int .i64 a, .int .i64 e], .int .i64 n] w fun r w' => r = .returned (.bool (seenB d a e n)) ∧ Ext w w' := by
  go_enter Try.func85, Try.ntmps85
  go_wp2
  all_goals
    go_ret
    refine ⟨?_, (Ext.refl w).alloc _⟩
    refine ret_bool ?_
    first
    | (simp [seenB, *]; done)
    | (have h0 : ¬ 0 < a := by omega
       simp [seenB, h0])

end Go.Proofs.Ytmjhdfifbjdgpaa
