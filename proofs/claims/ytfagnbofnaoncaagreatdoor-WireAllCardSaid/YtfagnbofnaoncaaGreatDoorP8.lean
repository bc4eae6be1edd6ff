/- Mutations in memory: a table's name, a partition; 'append' to a list of them of one's own. -/
import Derived.Test.YtfagnbofnaoncaaGreatDoorP7
import Derived.Test.YtfagnbofnaoncaaGreatDoorP1
import Derived.Test.YtfagnbofnaoncaaGreatDoorProg
import Derived.Laws.RangeString
import Derived.Test.YtfagnbofnaoncaaGreatDoorP6
set_option linter.unusedSimpArgs false
set_option linter.unusedVariables false
namespace Go.Proofs.YtfagnbofnaoncaaGreatDoor
open Go Go.RowKit

structure Mt where
  table : ByteArray
  pa : Pa
theorem info_Mut : (Tryz.prog.info? 106).map (fun i => (i.zero, i.size, i.bytes)) = some (some (.agg #[.string ⟨#[]⟩, .string ⟨#[]⟩, .int .i64 0, .slice none 0 0]), 4, 64) := by kernel_rfl
theorem und_Muts : Tryz.prog.underlying 22 = some (.slice 106) := by kernel_rfl
def mt4 (m : Mt) : Array Value := #[.string m.table, .string m.pa.key, .int .i64 m.pa.gone, m.pa.rv]
def mtCells (l : List Mt) : List Value := l.flatMap fun m => (mt4 m).toList
theorem mtCells_length (l : List Mt) : (mtCells l).length = l.length * 4 := by
  induction l with
  | nil => rfl
  | cons c l ih => simp only [mtCells, List.flatMap_cons, List.length_append] at ih ⊢; rw [ih]; simp [mt4]; omega
theorem mtCells_append (l m : List Mt) : mtCells (l ++ m) = mtCells l ++ mtCells m := by simp [mtCells]
theorem mtCells_get : ∀ (l : List Mt) (k : Nat) (h : k < l.length) (j : Nat), j < 4 → (mtCells l)[k * 4 + j]? = (mt4 l[k])[j]?
  | c :: l, 0, _, j, hj => by
    obtain rfl | rfl | rfl | rfl : j = 0 ∨ j = 1 ∨ j = 2 ∨ j = 3 := by omega
    all_goals simp [mtCells, mt4]
  | c :: l, k + 1, h, j, hj => by
    have ih := mtCells_get l k (by simpa using h) j hj
    have e : (k + 1) * 4 + j = k * 4 + j + 4 := by omega
    have e2 : mtCells (c :: l) = .string c.table :: .string c.pa.key :: .int .i64 c.pa.gone :: c.pa.rv :: mtCells l := by simp [mtCells, mt4]
    rw [e, e2]
    simp only [List.getElem_cons_succ]
    simpa using ih
/-- Mutations in memory. -/
structure MtsIn (w : World) (v : Value) (l : List Mt) : Prop where
  sl : SliceIn w v l.length (mtCells l)
  rows : ∀ m ∈ l, RowsIn w m.pa.rv m.pa.ps
theorem MtsIn.ext {w w' : World} (hE : Ext w w') {v : Value} {l : List Mt} (h : MtsIn w v l) : MtsIn w' v l := ⟨h.sl.ext hE, fun m hm => (h.rows m hm).ext hE⟩
theorem MtsIn.nil (w : World) : MtsIn w (.slice none 0 0) [] := ⟨SliceIn.nil w, nofun⟩
structure MtAt (w : World) (b o : Nat) (m : Mt) : Prop where
  c0 : w.cell? ⟨b, o, none⟩ = some (.string m.table)
  c1 : w.cell? ⟨b, o + 1, none⟩ = some (.string m.pa.key)
  c2 : w.cell? ⟨b, o + 2, none⟩ = some (.int .i64 m.pa.gone)
  c3 : w.cell? ⟨b, o + 3, none⟩ = some m.pa.rv
theorem MtAt.ext {w w' : World} (hE : Ext w w') {b o : Nat} {m : Mt} (h : MtAt w b o m) : MtAt w' b o m := ⟨hE.cell h.c0, hE.cell h.c1, hE.cell h.c2, hE.cell h.c3⟩
theorem MtsIn.get {w : World} {v : Value} {l : List Mt} (h : MtsIn w v l) : ∃ a c, v = .slice a l.length c ∧ l.length ≤ c ∧ c ≤ 9223372036854775807 ∧ ∀ k (hk : k < l.length), ∃ b o, a = some ⟨b, o, none⟩ ∧ MtAt w b (o + k * 4) l[k] := by
  obtain ⟨a, c, rfl, hc, hcm, ha, hcell⟩ := h.sl
  unfold maxLen at hcm
  refine ⟨a, c, rfl, hc, by omega, fun k hk => ?_⟩
  have g := fun j (hj : j < 4) => mtCells_get l k hk j hj
  obtain ⟨b, o, rfl, h0⟩ := hcell (k * 4 + 0) _ (g 0 (by decide))
  obtain ⟨b1, o1, e1, h1⟩ := hcell (k * 4 + 1) _ (g 1 (by decide))
  cases e1
  obtain ⟨b1, o1, e1, h2⟩ := hcell (k * 4 + 2) _ (g 2 (by decide))
  cases e1
  obtain ⟨b1, o1, e1, h3⟩ := hcell (k * 4 + 3) _ (g 3 (by decide))
  cases e1
  exact ⟨b, o, rfl, h0, by rw [Nat.add_assoc]; exact h1, by rw [Nat.add_assoc]; exact h2, by rw [Nat.add_assoc]; exact h3⟩
/-- Mutations in blocks of their own types. -/
structure MtsT (w : World) (v : Value) (l : List Mt) : Prop where
  tin : TIn w 106 v l.length (mtCells l)
  rows : ∀ m ∈ l, RowsT w m.pa.rv m.pa.ps
theorem MtsT.ext {w w' : World} (hE : Ext w w') {v : Value} {l : List Mt} (h : MtsT w v l) : MtsT w' v l := ⟨h.tin.ext hE, fun m hm => (h.rows m hm).ext hE⟩
theorem MtsT.mts {w : World} {v : Value} {l : List Mt} (h : MtsT w v l) : MtsIn w v l := ⟨h.tin.slice, fun m hm => (h.rows m hm).rows⟩
theorem mtCells_one (l : List Mt) (h : ∀ p ∈ l, ∃ a n c, p.pa.rv = .slice a n c) : ∀ u ∈ mtCells l, u.oneCell' = true := by
  intro u hu
  simp only [mtCells, List.mem_flatMap] at hu
  obtain ⟨p, hp, hu⟩ := hu
  obtain ⟨a, n, c, e⟩ := h p hp
  simp only [mt4, e, List.mem_cons, List.not_mem_nil, or_false] at hu
  rcases hu with rfl | rfl | rfl | rfl <;> rfl
theorem appMts {ops : Array Oper} {rest : List Oper} {o : Oper} {a : Act} {Q : Exit → Act → World → Prop} (w : World) (hg : o.guard = none) (s x : Operand)
    (hop : o.op = Op.call { callee := Callee.builtin Builtin.append, args := #[s, x], argTypes := #[22, 22] })
    (B : Nat) (hB : B ≤ w.heap.size) (v : Value) (l : List Mt) (hown : w.ownsRow B 106 4 v l.length (mtCells l)) (hs : a.eval s = v) (u : Value) (m : List Mt) (hin : SliceIn w u m.length (mtCells m)) (hsh : ∀ p ∈ m, ∃ a n c, p.pa.rv = .slice a n c) (hx : a.eval x = u) (hb : l.length + m.length ≤ 1000000)
    (hK : ∀ v' w', w'.ownsRow B 106 4 v' (l ++ m).length (mtCells (l ++ m)) → w.grownBy w' v.ownBlock → wpList Tryz.prog ops Q rest (a.put o.dst v') w') : wpList Tryz.prog ops Q (o :: rest) a w := by
  obtain ⟨i0, hi, hz0, hz1, hz2⟩ := info_parts info_Mut
  obtain ⟨ao, c, rfl, hc, hcm, ha, hcell⟩ := hin
  have hone := mtCells_one m hsh
  cases ao with
  | none =>
    have hc0 := ha rfl
    obtain rfl : m = [] := List.eq_nil_of_length_eq_zero (by omega)
    subst hc0
    refine wpList_append_own_none hg s x 22 hop B 106 i0 4 und_Muts hi v l.length (mtCells l) hs hown hx (hK _ _ (by rw [List.append_nil]; exact hown) ⟨rfl, rfl, rfl, Nat.le_refl _, fun _ _ _ => rfl⟩)
  | some ad =>
    refine wpList_append_own _ hg s x 22 hop B 106 i0 _ 4 64 und_Muts hi hz0 hz1 hz2 rfl (by decide) v l.length (mtCells l) hs hown ad m.length c (mtCells m) hx (mtCells_length m) ?_ hone (by unfold maxLen; omega) (by omega) hB ?_
    · intro j u hj
      obtain ⟨b, o, e, h⟩ := hcell j u hj
      cases e
      rw [Addr.add_lit]
      exact h
    · intro v' w' h2 h3 _
      refine hK v' w' ?_ h3
      rw [mtCells_append, List.length_append]
      exact h2
theorem mts_one (w : World) (m : Mt) (T : TypeId) : SliceIn (w.alloc (.cells (mt4 m) T)) (.slice (some ⟨w.heap.size, 0, none⟩) 1 1) 1 (mtCells [m]) := by
  have : mtCells [m] = (mt4 m).toList := by simp [mtCells]
  rw [this]
  exact SliceIn.made w (mt4 m) T 1 (by unfold maxLen; decide)
end Go.Proofs.YtfagnbofnaoncaaGreatDoor

/- runes.Name at small ASCII letters. -/
namespace Go.Proofs.YtfagnbofnaoncaaGreatDoor
open Go Go.RowKit
attribute [local go_sem] yields yUpon

def iterPos (w : World) (b : Nat) : Nat := match w.heap[b]? with | some (.stringIter _ p) => p | _ => 0
theorem iterPos_iter (w : World) (s : ByteArray) (k : Nat) : iterPos (w.iter s k) w.heap.size = k := by
  unfold iterPos
  rw [World.iter_heap]
theorem Ext.iter (w : World) (s : ByteArray) (k : Nat) : Ext w (w.iter s k) := (Ext.refl w).alloc _

set_option maxHeartbeats 400000 in
theorem letter_low (r : Int) (h1 : 97 ≤ r) (h2 : r ≤ 122) (w : World) : Calls Tryz.prog 97 #[.int .i32 r] w fun e w' => e = .returned (.bool true) ∧ w = w' := by
  have d0 : (r == 95) = false := by simp; omega
  have d1 : decide (97 ≤ r) = true := by simpa using h1
  have d2 : decide (r ≤ 122) = true := by simpa using h2
  clear h1 h2
  go_enter Tryz.func97, Tryz.ntmps97
  go_wp2
  all_goals first
    | (exfalso; omega)
    | (go_ret
       exact ⟨rfl, rfl⟩)

set_option maxHeartbeats 400000 in
theorem right_any (s : ByteArray) (i r : Int) (h : r ≠ 65533) (w : World) : Calls Tryz.prog 98 #[.string s, .int .i64 i, .int .i32 r] w fun e w' => e = .returned (.bool true) ∧ w = w' := by
  have d0 : (r == 65533) = false := by simpa using h
  go_enter Tryz.func98, Tryz.ntmps98
  go_wp2
  all_goals
    go_ret
    exact ⟨rfl, rfl⟩

/-- A name of small letters. -/
def Low (s : ByteArray) : Prop := s.size ≤ 100 ∧ ∀ i (h : i < s.size), 97 ≤ (s[i]'h).toNat ∧ (s[i]'h).toNat ≤ 122

set_option maxRecDepth 100000 in
set_option maxHeartbeats 1000000 in
theorem name_low (s : ByteArray) (hs : Low s) (h0 : s.size ≠ 0) (w : World) :
    Calls Tryz.prog 49 #[.string s] w fun e w' => e = .returned (.bool true) ∧ Ext w w' := by
  obtain ⟨hl, hlow⟩ := hs
  have HLow := Lib.hid hlow
  clear hlow
  go_enter Tryz.func49, Tryz.ntmps49
  go_wp2
  go_loopw [3] (fun _ wr => ∃ k : Nat, k ≤ s.size ∧ wr = w.iter s k) (fun _ wr => s.size - iterPos wr w.heap.size)
  case atStart => exact ⟨0, Nat.zero_le _, rfl⟩
  case round =>
    obtain ⟨k, hk, rfl⟩ := hrel
    by_cases hlt : k < s.size
    · obtain ⟨b1, b2⟩ := HLow.out k hlt
      have hnx := fun ty => run_next_ascii (P := Tryz.prog) w s k ty hlt (by omega)
      obtain ⟨R, hR⟩ : ∃ R : Int, R = ((s[k]'hlt).toNat : Int) := ⟨_, rfl⟩
      rw [← hR] at hnx
      have r1 : 97 ≤ R := by omega
      have r2 : R ≤ 122 := by omega
      clear hR b1 b2
      go_wp2_with fail
      refine (letter_low R r1 r2 _).mono ?_
      rintro e w1 ⟨rfl, rfl⟩
      go_wp2_with fail
      refine (right_any s _ R (by omega) _).mono ?_
      rintro e w2 ⟨rfl, rfl⟩
      go_wp2_with fail
      go_roundw
      case rel => exact ⟨k + 1, by omega, rfl⟩
      case measure => rw [iterPos_iter, iterPos_iter]; omega
    · obtain rfl : k = s.size := by omega
      have hnx := fun ty => run_next_end (P := Tryz.prog) w s s.size ty (by omega)
      have k100 : decide ((s.size : Int) ≤ 100) = true := by simp; omega
      have e0 : (s.toList == []) = false := by
        rw [ByteArray.toList_eq]
        simp only [beq_eq_false_iff_ne, ne_eq]
        intro h
        exact h0 (by have := congrArg List.length h; exact this)
      go_wp2_with fail
      go_ret
      exact ⟨rfl, Ext.iter w s _⟩

set_option maxHeartbeats 1000000 in
theorem name_none (w : World) :
    Calls Tryz.prog 49 #[.string ⟨#[]⟩] w fun e w' => e = .returned (.bool false) ∧ Ext w w' := by
  go_enter Tryz.func49, Tryz.ntmps49
  go_wp2
  go_loopw [3] (fun _ wr => wr = w.iter ⟨#[]⟩ 0) (fun _ wr => 0)
  case atStart => rfl
  case round =>
    obtain rfl := hrel
    have hnx := fun ty => run_next_end (P := Tryz.prog) w ⟨#[]⟩ 0 ty (by decide)
    go_wp2_with fail
    go_ret
    exact ⟨rfl, Ext.iter w _ _⟩

/-- Is a text a name? (of texts of small letters) -/
def lowB (s : ByteArray) : Bool := decide (s.size ≠ 0)
theorem name_lowB (s : ByteArray) (hs : Low s) (w : World) :
    Calls Tryz.prog 49 #[.string s] w fun e w' => e = .returned (.bool (lowB s)) ∧ Ext w w' := by
  by_cases h : s.size = 0
  · have e : s = ⟨#[]⟩ := ByteArray.ext (Array.eq_empty_of_size_eq_zero h)
    subst e
    exact name_none w
  · have e : lowB s = true := by simp [lowB, h]
    rw [e]
    exact name_low s hs h w
end Go.Proofs.YtfagnbofnaoncaaGreatDoor

/- cell.stamp, cell.Check. -/
namespace Go.Proofs.YtfagnbofnaoncaaGreatDoor
open Go Go.RowKit

set_option maxHeartbeats 400000 in
theorem stamp_any (v : Int) (w : World) : Calls Tryz.prog 157 #[.int .i64 v] w fun e w' => e = .returned (.bool (stampB v)) ∧ w = w' := by
  by_cases h : 0 ≤ v
  all_goals
    go_enter Tryz.func157, Tryz.ntmps157
    go_wp2
    go_ret
    exact ⟨by unfold stampB; simp [h] <;> omega, rfl⟩

set_option maxHeartbeats 400000 in
theorem check_any (v : ByteArray) (d : Bool) (a e : Int) (w : World) :
    Calls Tryz.prog 138 #[.agg #[.string v, .bool d, .int .i64 a, .int .i64 e]] w fun r w' =>
      r = .returned (.bool (checkC v d a e)) ∧ Ext w w' := by
  go_enter Tryz.func138, Tryz.ntmps138
  cases h1 : stampB a <;> cases h2 : stampB e
  all_goals
    go_wp2_with (go_at_call 157; go_must (refine (stamp_any _ _).mono ?_); rintro r w1 ⟨rfl, rfl⟩)
  all_goals
    go_ret
    refine ⟨?_, (Ext.refl w).alloc _⟩
    refine ret_bool ?_
    go_light
    simp_all [checkC] <;> omega
end Go.Proofs.YtfagnbofnaoncaaGreatDoor

/- row.Check, of rows whose names are small letters. -/
namespace Go.Proofs.YtfagnbofnaoncaaGreatDoor
open Go Go.RowKit
attribute [local go_sem] yields yUpon

def ordB : Option ByteArray → ByteArray → Bool
  | none, _ => true
  | some q, n => Op.bytesLess q.toList n.toList
def colsB : Option ByteArray → List Co → Bool
  | _, [] => true
  | p, c :: l => lowB c.name && ordB p c.name && checkC c.cell.val c.cell.dead c.cell.at_ c.cell.fin && decide (0 < c.cell.at_) && colsB (some c.name) l
def prevN (l : List Co) : Nat → Option ByteArray
  | 0 => none
  | k + 1 => (l[k]?).map (·.name)
def headB (r : Ro) : Bool := !decide (400 < (r.key.size : Int)) && checkC r.live.val r.live.dead r.live.at_ r.live.fin && (r.live.val.toList == []) && !r.live.dead && stampB r.gone && stampB r.shade && !decide (8 < (r.cols.length : Int))
def rowB (r : Ro) : Bool := headB r && colsB none r.cols

set_option maxHeartbeats 400000 in
theorem rstamp_any (v : Int) (w : World) : Calls Tryz.prog 139 #[.int .i64 v] w fun e w' => e = .returned (.bool (stampB v)) ∧ w = w' := by
  by_cases h : 0 ≤ v
  all_goals
    go_enter Tryz.func139, Tryz.ntmps139
    go_wp2
    go_ret
    exact ⟨by unfold stampB; simp [h] <;> omega, rfl⟩


theorem head_cases (r : Ro) : headB r = true ∨ headB r = false := by cases headB r <;> simp

set_option maxRecDepth 100000 in
set_option maxHeartbeats 4000000 in
theorem rcheck_bad (r : Ro) (v : Value) (w : World) (hin : ColsIn w v r.cols) (hb : headB r = false) :
    Calls Tryz.prog 99 #[(.agg #[.string r.key, .string r.live.val, .bool r.live.dead, .int .i64 r.live.at_, .int .i64 r.live.fin, .int .i64 r.gone, .int .i64 r.shade, v])] w fun e w' => e = .returned (.bool false) ∧ Ext w w' := by
  obtain ⟨a, c, rfl, hc, hcm, hcell⟩ := hin.get
  clear hcell hin
  obtain ⟨key, ⟨val, dead, at_, fin⟩, gone, shade, cols⟩ := r
  have b0 : BoxAt (w.alloc (.cells (ro8 ⟨key, ⟨val, dead, at_, fin⟩, gone, shade, cols⟩ (.slice a cols.length c)) 58)) w.heap.size (ro8 ⟨key, ⟨val, dead, at_, fin⟩, gone, shade, cols⟩ (.slice a cols.length c)) 58 := BoxAt.made w _ _
  have hE0 : Ext w (w.alloc (.cells (ro8 ⟨key, ⟨val, dead, at_, fin⟩, gone, shade, cols⟩ (.slice a cols.length c)) 58)) := (Ext.refl w).alloc _
  obtain ⟨n, hn⟩ : ∃ n, n = cols.length := ⟨_, rfl⟩
  unfold headB at hb
  dsimp only at hb hc ⊢
  rw [← hn] at hb hc b0 hE0 ⊢
  clear hn
  cases c1 : decide (400 < (key.size : Int))
  · cases c2 : checkC val dead at_ fin
    · clear hb
      go_enter Tryz.func99, Tryz.ntmps99
      go_wp2_with (first
        | (go_at_call 138; go_must (refine (check_any _ _ _ _ _).mono ?_; rw [c2];rintro e w1 ⟨rfl, hE1⟩; replace hE0 := hE0.trans hE1; replace b0 := b0.ext hE1; obtain ⟨y0, y1, y2, y3, y4, y5, y6, y7⟩ := b0.ro))
        | (go_at_call 139; go_must (refine (rstamp_any _ _).mono ?_); rintro e w2 ⟨rfl, rfl⟩))
      go_ret
      exact ⟨rfl, by first | exact hE0 | exact Ext.refl _⟩
    · cases c3 : (val.toList == [])
      · clear hb
        go_enter Tryz.func99, Tryz.ntmps99
        go_wp2_with (first
          | (go_at_call 138; go_must (refine (check_any _ _ _ _ _).mono ?_; rw [c2];rintro e w1 ⟨rfl, hE1⟩; replace hE0 := hE0.trans hE1; replace b0 := b0.ext hE1; obtain ⟨y0, y1, y2, y3, y4, y5, y6, y7⟩ := b0.ro))
          | (go_at_call 139; go_must (refine (rstamp_any _ _).mono ?_); rintro e w2 ⟨rfl, rfl⟩))
        go_ret
        exact ⟨rfl, by first | exact hE0 | exact Ext.refl _⟩
      · cases dead
        · cases c5 : stampB gone
          · clear hb
            go_enter Tryz.func99, Tryz.ntmps99
            go_wp2_with (first
              | (go_at_call 138; go_must (refine (check_any _ _ _ _ _).mono ?_; rw [c2];rintro e w1 ⟨rfl, hE1⟩; replace hE0 := hE0.trans hE1; replace b0 := b0.ext hE1; obtain ⟨y0, y1, y2, y3, y4, y5, y6, y7⟩ := b0.ro))
              | (go_at_call 139; go_must (refine (rstamp_any _ _).mono ?_); rw [c5];rintro e w2 ⟨rfl, rfl⟩))
            go_ret
            exact ⟨rfl, by first | exact hE0 | exact Ext.refl _⟩
          · cases c6 : stampB shade
            · clear hb
              go_enter Tryz.func99, Tryz.ntmps99
              go_wp2_with (first
                | (go_at_call 138; go_must (refine (check_any _ _ _ _ _).mono ?_; rw [c2];rintro e w1 ⟨rfl, hE1⟩; replace hE0 := hE0.trans hE1; replace b0 := b0.ext hE1; obtain ⟨y0, y1, y2, y3, y4, y5, y6, y7⟩ := b0.ro))
                | (go_at_call 139; go_must (refine (rstamp_any _ _).mono ?_); (first | rw [c5] | rw [c6]);rintro e w2 ⟨rfl, rfl⟩))
              go_ret
              exact ⟨rfl, by first | exact hE0 | exact Ext.refl _⟩
            · have c7 : decide (8 < (n : Int)) = true := by rw [c1, c2, c3, c5, c6] at hb; simpa using hb
              clear hb
              go_enter Tryz.func99, Tryz.ntmps99
              go_wp2_with (first
                | (go_at_call 138; go_must (refine (check_any _ _ _ _ _).mono ?_; rw [c2];rintro e w1 ⟨rfl, hE1⟩; replace hE0 := hE0.trans hE1; replace b0 := b0.ext hE1; obtain ⟨y0, y1, y2, y3, y4, y5, y6, y7⟩ := b0.ro))
                | (go_at_call 139; go_must (refine (rstamp_any _ _).mono ?_); (first | rw [c5] | rw [c6]);rintro e w2 ⟨rfl, rfl⟩))
              go_ret
              exact ⟨rfl, by first | exact hE0 | exact Ext.refl _⟩
        · clear hb
          go_enter Tryz.func99, Tryz.ntmps99
          go_wp2_with (first
            | (go_at_call 138; go_must (refine (check_any _ _ _ _ _).mono ?_; rw [c2];rintro e w1 ⟨rfl, hE1⟩; replace hE0 := hE0.trans hE1; replace b0 := b0.ext hE1; obtain ⟨y0, y1, y2, y3, y4, y5, y6, y7⟩ := b0.ro))
            | (go_at_call 139; go_must (refine (rstamp_any _ _).mono ?_); rintro e w2 ⟨rfl, rfl⟩))
          go_ret
          exact ⟨rfl, by first | exact hE0 | exact Ext.refl _⟩
  · clear hb
    go_enter Tryz.func99, Tryz.ntmps99
    go_wp2_with (first
      | (go_at_call 138; go_must (refine (check_any _ _ _ _ _).mono ?_; rintro e w1 ⟨rfl, hE1⟩; replace hE0 := hE0.trans hE1; replace b0 := b0.ext hE1; obtain ⟨y0, y1, y2, y3, y4, y5, y6, y7⟩ := b0.ro))
      | (go_at_call 139; go_must (refine (rstamp_any _ _).mono ?_); rintro e w2 ⟨rfl, rfl⟩))
    go_ret
    exact ⟨rfl, by first | exact hE0 | exact Ext.refl _⟩
end Go.Proofs.YtfagnbofnaoncaaGreatDoor
