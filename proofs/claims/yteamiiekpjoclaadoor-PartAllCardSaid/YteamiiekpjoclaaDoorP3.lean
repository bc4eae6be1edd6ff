/- row.Seen, row.Is. -/
import Derived.Test.YteamiiekpjoclaaDoorP2
import Derived.Test.YteamiiekpjoclaaDoorP1
import Derived.Test.YteamiiekpjoclaaDoorProg
import Derived.Laws.RangeString
set_option linter.unusedSimpArgs false
set_option linter.unusedVariables false
namespace Go.Proofs.YteamiiekpjoclaaDoor
open Go Go.RowKit
attribute [local go_sem] yields yUpon

theorem info_Col : (Tryd.prog.info? 80).map (fun i => (i.zero, i.size, i.bytes)) = some (some (.agg #[.string ⟨#[]⟩, .string ⟨#[]⟩, .bool false, .int .i64 0, .int .i64 0]), 5, 56) := by kernel_rfl
theorem und_Cols : Tryd.prog.underlying 24 = some (.slice 80) := by kernel_rfl
def co5 (c : Co) : Array Value := #[.string c.name, .string c.cell.val, .bool c.cell.dead, .int .i64 c.cell.at_, .int .i64 c.cell.fin]
theorem BoxAt.co {w : World} {p : Nat} {c : Co} {T : TypeId} (h : BoxAt w p (co5 c) T) : w.cell? ⟨p, 0, none⟩ = some (.string c.name) ∧ w.cell? ⟨p, 1, none⟩ = some (.string c.cell.val) ∧ w.cell? ⟨p, 2, none⟩ = some (.bool c.cell.dead) ∧ w.cell? ⟨p, 3, none⟩ = some (.int .i64 c.cell.at_) ∧ w.cell? ⟨p, 4, none⟩ = some (.int .i64 c.cell.fin) :=
  ⟨h.cell 0, h.cell 1, h.cell 2, h.cell 3, h.cell 4⟩
theorem ownsRow_lenOf {w : World} {B : Nat} {e : TypeId} {size : Nat} {v : Value} {n : Nat} {xs : List Value} (h : w.ownsRow B e size v n xs) : lenOf v = n := by
  rcases h.2 with ⟨rfl, rfl⟩ | ⟨g, cap, cur, rfl, _⟩ <;> rfl

/-- Is a column's cell seen? -/
def seenCo (c : Co) (g now : Int) : Bool := !c.cell.dead && decide (g < c.cell.at_) && seenB c.cell.dead c.cell.at_ c.cell.fin now
def seenCos (l : List Co) (g now : Int) : List Co := l.filter fun c => seenCo c g now
theorem seenCos_take {l : List Co} {k : Nat} {g now : Int} {M : Co} {R : List Co} (hd : l.drop k = M :: R) : seenCos (l.take (k + 1)) g now = seenCos (l.take k) g now ++ if seenCo M g now then [M] else [] := by
  have hk : k < l.length := by
    rcases Nat.lt_or_ge k l.length with h | h
    · exact h
    · rw [List.drop_eq_nil_of_le h] at hd; cases hd
  have e : l[k] = M := by rw [List.drop_eq_getElem_cons hk] at hd; exact (List.cons.inj hd).1
  rw [List.take_succ_eq_append_getElem hk, e]
  unfold seenCos
  rw [List.filter_append]
  congr 1
  cases h : seenCo M g now <;> simp [h]

set_option maxRecDepth 100000 in
set_option maxHeartbeats 4000000 in
theorem rwseen_any (r : Ro) (v : Value) (part now : Int) (w : World) (hin : ColsIn w v r.cols) (hlen : r.cols.length ≤ 1000000) :
    Calls Tryd.prog 28 #[(.agg #[.string r.key, .string r.live.val, .bool r.live.dead, .int .i64 r.live.at_, .int .i64 r.live.fin, .int .i64 r.gone, .int .i64 r.shade, v]), .int .i64 part, .int .i64 now] w fun e w' => ∃ v', e = .returned v' ∧ w'.ownsRow (w.heap.size + 1) 80 5 v' (seenCos r.cols (max r.gone part) now).length (coCells (seenCos r.cols (max r.gone part) now)) ∧ Ext w w' := by
  obtain ⟨a, c, rfl, hc, hcm, hcell⟩ := hin.get
  obtain ⟨l, hl⟩ : ∃ l, l = r.cols := ⟨_, rfl⟩
  obtain ⟨G, hG⟩ : ∃ G, G = max r.gone part := ⟨_, rfl⟩
  rw [← hl] at hcell hc hlen ⊢
  rw [← hG]
  have HC := Lib.hid hcell
  have HG := Lib.hid hG
  clear hcell hin hl hG
  go_enter Tryd.func28, Tryd.ntmps28
  go_wp2
  go_loopw [7, 13] (fun m i wr => ∃ k : Nat, k ≤ l.length ∧ i = .int .i64 k ∧ BoxAt wr w.heap.size (ro8 r (.slice a l.length c)) 26 ∧ Ext w wr ∧ wr.ownsRow (w.heap.size + 1) 80 5 m (seenCos (l.take k) G now).length (coCells (seenCos (l.take k) G now))) (fun _ i _ => l.length - (intOf i).toNat)
  case atStart => exact ⟨0, Nat.zero_le _, rfl, BoxAt.made w _ _, (Ext.refl w).alloc _, World.ownsRow_nil _ _ _ _⟩
  case round =>
    obtain ⟨k, hk, rfl, hbox, hE, hown⟩ := hrel
    by_cases hlt : k < l.length
    · obtain ⟨b, o, rfl, hco⟩ := HC.out k hlt
      obtain ⟨M, hM⟩ : ∃ M, M = l[k] := ⟨_, rfl⟩
      rw [← hM] at hco
      have hD : l.drop k = M :: l.drop (k + 1) := by rw [hM]; exact List.drop_eq_getElem_cons hlt
      have hT := seenCos_take (g := G) (now := now) hD
      have hle : (seenCos (l.take k) G now).length ≤ k := Nat.le_trans (List.length_filter_le _ _) (by simp; omega)
      clear hM hD
      obtain ⟨S, hS⟩ : ∃ S, S = seenCos (l.take k) G now := ⟨_, rfl⟩
      rw [← hS] at hT hle hown
      clear hS
      have HT := Lib.hid hT
      clear hT
      replace hco := hco.ext hE
      obtain ⟨g0, g1, g2, g3, g4⟩ := hco
      go_wp2_with fail
      refine wp_region_in 19 [(10, fun v _ => v = .int .i64 G), (17, fun v _ => v = .bool (seenCo M G now))] (fun w0 => BoxAt w0 wr.heap.size (co5 M) 80 ∧ BoxAt w0 w.heap.size (ro8 r (.slice (some ⟨b, o, none⟩) l.length c)) 26 ∧ Ext w w0 ∧ w0.ownsRow (w.heap.size + 1) 80 5 u7 S.length (coCells S)) (by kernel_rfl) (by kernel_rfl) (by kernel_rfl) ⟨stays_eq _, stays_eq _, trivial⟩ ?_ ?_
      · exact ⟨BoxAt.made _ _ _, hbox.ext ((Ext.refl _).alloc _), hE.alloc _, ownsRow_ext hown ((Ext.refl _).alloc _)⟩
      clear hbox hE hown g0 g1 g2 g3 g4
      rintro w2 ⟨b2, b0, hE, hown⟩
      have FIN : Hid (∀ wx, Ext w2 wx → BoxAt wx wr.heap.size (co5 M) 80 ∧ BoxAt wx w.heap.size (ro8 r (.slice (some ⟨b, o, none⟩) l.length c)) 26 ∧ Ext w wx ∧ wx.ownsRow (w.heap.size + 1) 80 5 u7 S.length (coCells S)) := fun wx h => ⟨b2.ext h, b0.ext h, hE.trans h, ownsRow_ext hown h⟩
      obtain ⟨x0, x1, x2, x3, x4⟩ := b2.co
      obtain ⟨y0, y1, y2, y3, y4, y5, y6, y7⟩ := b0.ro
      clear b2 b0 hown hE x0
      replace x1 := held x1
      replace x2 := held x2
      replace x3 := held x3
      replace x4 := held x4
      replace y0 := held y0
      replace y1 := held y1
      replace y2 := held y2
      replace y3 := held y3
      replace y4 := held y4
      replace y5 := held y5
      replace y6 := held y6
      replace y7 := held y7
      cases d0 : M.cell.dead
      · rw [d0] at x2
        cases d1 : decide (G < M.cell.at_)
        · have hs : seenCo M G now = false := by unfold seenCo; rw [d0, d1]; rfl
          refine rg_quiet rfl rfl rfl rfl ?_; intro K hK; go_big_quiet_op; go_big_quiet_on
          refine rg_quiet rfl rfl rfl rfl ?_; intro K hK; go_big_quiet_op; go_big_quiet_on
          refine rg_quiet rfl rfl rfl rfl ?_; intro K hK; go_big_quiet_op; go_big_quiet_on
          refine rg_quiet rfl rfl rfl rfl ?_; intro K hK; go_big_quiet_op; go_big_quiet_on
          refine rg_quiet rfl rfl rfl rfl ?_; intro K hK; go_big_quiet_op; go_big_quiet_on
          refine rg_quiet rfl rfl rfl rfl ?_; intro K hK; go_big_quiet_op; go_big_quiet_on
          refine rg_quiet rfl rfl rfl rfl ?_; intro K hK; go_big_quiet_op; go_big_quiet_on
          refine rg_quiet rfl rfl rfl rfl ?_; intro K hK; go_big_quiet_op; go_big_quiet_on
          refine rg_quiet rfl rfl rfl rfl ?_; intro K hK; go_big_quiet_op; go_big_quiet_on
          refine rg_quiet rfl rfl rfl rfl ?_; intro K hK; go_big_quiet_op; go_big_quiet_on
          refine rg_val [] rfl rfl rfl (by kernel_rfl) (fun w1 hE hf => ?_) ?_
          · go_simp
            exact (rgone_any r _ part w1).mono fun e w' ⟨he, hw⟩ => ⟨_, he, rg_done hE hw (int_congr HG.out.symm)⟩
          simp only [Act.put, List.setIfInBounds_toArray, List.set_cons_zero, List.set_cons_succ]
          refine rg_quiet rfl rfl rfl rfl ?_; intro K hK; go_big_quiet_op; go_big_quiet_on
          refine rg_quiet rfl rfl rfl rfl ?_; intro K hK; go_big_quiet_op; go_big_quiet_on
          refine rg_quiet rfl rfl rfl rfl ?_; intro K hK; go_big_quiet_op; go_big_quiet_on
          refine rel_skip rfl rfl ?_
          simp only [Act.put, List.setIfInBounds_toArray, List.set_cons_zero, List.set_cons_succ]
          refine rel_skip rfl rfl ?_
          simp only [Act.put, List.setIfInBounds_toArray, List.set_cons_zero, List.set_cons_succ]
          refine rel_skip rfl rfl ?_
          simp only [Act.put, List.setIfInBounds_toArray, List.set_cons_zero, List.set_cons_succ]
          refine rel_skip rfl rfl ?_
          simp only [Act.put, List.setIfInBounds_toArray, List.set_cons_zero, List.set_cons_succ]
          refine rg_quiet rfl rfl rfl rfl ?_; intro K hK; go_big_quiet_op; go_big_quiet_on
          refine rel_nil fun w5 hE5 _ => ?_
          clear d0 d1
          obtain ⟨b2, b0, hE, hown⟩ := FIN.out w5 hE5
          clear x1 x2 x3 x4 y0 y1 y2 y3 y4 y5 y6 y7 hE5 FIN
          have hT2 := HT.out
          rw [hs] at hT2
          simp only [Bool.false_eq_true, if_false, List.append_nil] at hT2
          have HT2 := Lib.hid hT2
          clear hT2 HT hs
          go_wp2_with fail
          go_roundw
          case rel => exact ⟨k + 1, by omega, by go_num, b0, hE, by rw [HT2.out]; exact hown⟩
          case measure => simp [intOf] <;> omega
        · have hs0 : Hid (seenCo M G now = seenB false M.cell.at_ M.cell.fin now) := by show seenCo M G now = seenB false M.cell.at_ M.cell.fin now; unfold seenCo; rw [d1, d0]; rfl
          refine rg_quiet rfl rfl rfl rfl ?_; intro K hK; go_big_quiet_op; go_big_quiet_on
          refine rg_quiet rfl rfl rfl rfl ?_; intro K hK; go_big_quiet_op; go_big_quiet_on
          refine rg_quiet rfl rfl rfl rfl ?_; intro K hK; go_big_quiet_op; go_big_quiet_on
          refine rg_quiet rfl rfl rfl rfl ?_; intro K hK; go_big_quiet_op; go_big_quiet_on
          refine rg_quiet rfl rfl rfl rfl ?_; intro K hK; go_big_quiet_op; go_big_quiet_on
          refine rg_quiet rfl rfl rfl rfl ?_; intro K hK; go_big_quiet_op; go_big_quiet_on
          refine rg_quiet rfl rfl rfl rfl ?_; intro K hK; go_big_quiet_op; go_big_quiet_on
          refine rg_quiet rfl rfl rfl rfl ?_; intro K hK; go_big_quiet_op; go_big_quiet_on
          refine rg_quiet rfl rfl rfl rfl ?_; intro K hK; go_big_quiet_op; go_big_quiet_on
          refine rg_quiet rfl rfl rfl rfl ?_; intro K hK; go_big_quiet_op; go_big_quiet_on
          refine rg_val [] rfl rfl rfl (by kernel_rfl) (fun w1 hE hf => ?_) ?_
          · go_simp
            exact (rgone_any r _ part w1).mono fun e w' ⟨he, hw⟩ => ⟨_, he, rg_done hE hw (int_congr HG.out.symm)⟩
          simp only [Act.put, List.setIfInBounds_toArray, List.set_cons_zero, List.set_cons_succ]
          refine rg_quiet rfl rfl rfl rfl ?_; intro K hK; go_big_quiet_op; go_big_quiet_on
          refine rg_quiet rfl rfl rfl rfl ?_; intro K hK; go_big_quiet_op; go_big_quiet_on
          refine rg_quiet rfl rfl rfl rfl ?_; intro K hK; go_big_quiet_op; go_big_quiet_on
          refine rg_quiet rfl rfl rfl rfl ?_; intro K hK; go_big_quiet_op; go_big_quiet_on
          refine rg_quiet rfl rfl rfl rfl ?_; intro K hK; go_big_quiet_op; go_big_quiet_on
          refine rg_quiet rfl rfl rfl rfl ?_; intro K hK; go_big_quiet_op; go_big_quiet_on
          refine rg_val [] rfl rfl rfl (by kernel_rfl) (fun w1 hE hf => ?_) ?_
          · go_simp
            exact (seen_any _ _ _ _ _ w1).mono fun e w' ⟨he, hw⟩ => ⟨_, he, rg_done hE hw (bool_congr hs0.out.symm)⟩
          simp only [Act.put, List.setIfInBounds_toArray, List.set_cons_zero, List.set_cons_succ]
          cases hs : seenCo M G now
          · refine rg_quiet rfl rfl rfl rfl ?_; intro K hK; go_big_quiet_op; go_big_quiet_on
            refine rel_nil fun w5 hE5 _ => ?_
            clear d0 d1 hs0
            obtain ⟨b2, b0, hE, hown⟩ := FIN.out w5 hE5
            clear x1 x2 x3 x4 y0 y1 y2 y3 y4 y5 y6 y7 hE5 FIN
            have hT2 := HT.out
            rw [hs] at hT2
            simp only [Bool.false_eq_true, if_false, List.append_nil] at hT2
            have HT2 := Lib.hid hT2
            clear hT2 HT hs
            go_wp2_with fail
            go_roundw
            case rel => exact ⟨k + 1, by omega, by go_num, b0, hE, by rw [HT2.out]; exact hown⟩
            case measure => simp [intOf] <;> omega
          · refine rg_quiet rfl rfl rfl rfl ?_; intro K hK; go_big_quiet_op; go_big_quiet_on
            refine rel_nil fun w5 hE5 _ => ?_
            clear d0 d1 hs0
            obtain ⟨b2, b0, hE, hown⟩ := FIN.out w5 hE5
            clear x1 x2 x3 x4 y0 y1 y2 y3 y4 y5 y6 y7 hE5 FIN
            obtain ⟨x0, x1, x2, x3, x4⟩ := b2.co
            have hT2 := HT.out
            rw [hs] at hT2
            simp only [if_true] at hT2
            have HT2 := Lib.hid hT2
            have hl0 := b0.lt
            clear hT2 HT hs
            go_wp2_with (at_builtin; go_must (refine appR info_Col und_Cols rfl (by decide) w5 rfl (.tmp 36) (.tmp 38) rfl (w.heap.size + 1) hl0 _ _ _ hown rfl 1 _ rfl rfl (by simp [Value.oneCell']) (by unfold maxLen; omega) (by omega) ?_); intro m3 w3 hown3 hg3)
            go_roundw
            case rel =>
              refine ⟨k + 1, by omega, by go_num, (b0.ext ((Ext.refl _).alloc _)).grown hg3 (fun h => ?_), (hE.alloc _).grown hg3 fun q hq => by have := (hown.lt q hq).1; omega, ?_⟩
              · have := (hown.lt _ h.symm).1
                omega
              · rw [HT2.out, coCells_append, List.length_append]
                exact hown3
            case measure => simp [intOf] <;> omega
      · rw [d0] at x2
        have hs : seenCo M G now = false := by unfold seenCo; rw [d0]; rfl
        refine rg_quiet rfl rfl rfl rfl ?_; intro K hK; go_big_quiet_op; go_big_quiet_on
        refine rg_quiet rfl rfl rfl rfl ?_; intro K hK; go_big_quiet_op; go_big_quiet_on
        refine rg_quiet rfl rfl rfl rfl ?_; intro K hK; go_big_quiet_op; go_big_quiet_on
        refine rg_quiet rfl rfl rfl rfl ?_; intro K hK; go_big_quiet_op; go_big_quiet_on
        refine rg_quiet rfl rfl rfl rfl ?_; intro K hK; go_big_quiet_op; go_big_quiet_on
        refine rel_skip rfl rfl ?_
        simp only [Act.put, List.setIfInBounds_toArray, List.set_cons_zero, List.set_cons_succ]
        refine rel_skip rfl rfl ?_
        simp only [Act.put, List.setIfInBounds_toArray, List.set_cons_zero, List.set_cons_succ]
        refine rel_skip rfl rfl ?_
        simp only [Act.put, List.setIfInBounds_toArray, List.set_cons_zero, List.set_cons_succ]
        refine rel_skip rfl rfl ?_
        simp only [Act.put, List.setIfInBounds_toArray, List.set_cons_zero, List.set_cons_succ]
        refine rel_skip rfl rfl ?_
        simp only [Act.put, List.setIfInBounds_toArray, List.set_cons_zero, List.set_cons_succ]
        refine rel_skip rfl rfl ?_
        simp only [Act.put, List.setIfInBounds_toArray, List.set_cons_zero, List.set_cons_succ]
        refine rel_skip rfl rfl ?_
        simp only [Act.put, List.setIfInBounds_toArray, List.set_cons_zero, List.set_cons_succ]
        refine rg_quiet rfl rfl rfl rfl ?_; intro K hK; go_big_quiet_op; go_big_quiet_on
        refine rg_quiet rfl rfl rfl rfl ?_; intro K hK; go_big_quiet_op; go_big_quiet_on
        refine rel_skip rfl rfl ?_
        simp only [Act.put, List.setIfInBounds_toArray, List.set_cons_zero, List.set_cons_succ]
        refine rel_skip rfl rfl ?_
        simp only [Act.put, List.setIfInBounds_toArray, List.set_cons_zero, List.set_cons_succ]
        refine rel_skip rfl rfl ?_
        simp only [Act.put, List.setIfInBounds_toArray, List.set_cons_zero, List.set_cons_succ]
        refine rel_skip rfl rfl ?_
        simp only [Act.put, List.setIfInBounds_toArray, List.set_cons_zero, List.set_cons_succ]
        refine rg_quiet rfl rfl rfl rfl ?_; intro K hK; go_big_quiet_op; go_big_quiet_on
        refine rel_nil fun w5 hE5 _ => ?_
        clear d0
        obtain ⟨b2, b0, hE, hown⟩ := FIN.out w5 hE5
        clear x1 x2 x3 x4 y0 y1 y2 y3 y4 y5 y6 y7 hE5 FIN
        have hT2 := HT.out
        rw [hs] at hT2
        simp only [Bool.false_eq_true, if_false, List.append_nil] at hT2
        have HT2 := Lib.hid hT2
        clear hT2 HT hs
        go_wp2_with fail
        go_roundw
        case rel => exact ⟨k + 1, by omega, by go_num, b0, hE, by rw [HT2.out]; exact hown⟩
        case measure => simp [intOf] <;> omega
    · obtain rfl : k = l.length := by omega
      rw [List.take_length] at hown
      go_wp2_with fail
      go_ret
      exact ⟨_, rfl, hown, hE⟩
end Go.Proofs.YteamiiekpjoclaaDoor

/- runes.Name at small ASCII letters. -/
namespace Go.Proofs.YteamiiekpjoclaaDoor
open Go Go.RowKit
attribute [local go_sem] yields yUpon

def iterPos (w : World) (b : Nat) : Nat := match w.heap[b]? with | some (.stringIter _ p) => p | _ => 0
theorem iterPos_iter (w : World) (s : ByteArray) (k : Nat) : iterPos (w.iter s k) w.heap.size = k := by
  unfold iterPos
  rw [World.iter_heap]
theorem Ext.iter (w : World) (s : ByteArray) (k : Nat) : Ext w (w.iter s k) := (Ext.refl w).alloc _

set_option maxHeartbeats 400000 in
theorem letter_low (r : Int) (h1 : 97 ≤ r) (h2 : r ≤ 122) (w : World) : Calls Tryd.prog 81 #[.int .i32 r] w fun e w' => e = .returned (.bool true) ∧ w = w' := by
  have d0 : (r == 95) = false := by simp; omega
  have d1 : decide (97 ≤ r) = true := by simpa using h1
  have d2 : decide (r ≤ 122) = true := by simpa using h2
  clear h1 h2
  go_enter Tryd.func81, Tryd.ntmps81
  go_wp2
  all_goals first
    | (exfalso; omega)
    | (go_ret
       exact ⟨rfl, rfl⟩)

set_option maxHeartbeats 400000 in
theorem right_any (s : ByteArray) (i r : Int) (h : r ≠ 65533) (w : World) : Calls Tryd.prog 82 #[.string s, .int .i64 i, .int .i32 r] w fun e w' => e = .returned (.bool true) ∧ w = w' := by
  have d0 : (r == 65533) = false := by simpa using h
  go_enter Tryd.func82, Tryd.ntmps82
  go_wp2
  all_goals
    go_ret
    exact ⟨rfl, rfl⟩

/-- A name of small letters. -/
def Low (s : ByteArray) : Prop := s.size ≤ 100 ∧ ∀ i (h : i < s.size), 97 ≤ (s[i]'h).toNat ∧ (s[i]'h).toNat ≤ 122

set_option maxRecDepth 100000 in
set_option maxHeartbeats 1000000 in
theorem name_low (s : ByteArray) (hs : Low s) (h0 : s.size ≠ 0) (w : World) :
    Calls Tryd.prog 53 #[.string s] w fun e w' => e = .returned (.bool true) ∧ Ext w w' := by
  obtain ⟨hl, hlow⟩ := hs
  have HLow := Lib.hid hlow
  clear hlow
  go_enter Tryd.func53, Tryd.ntmps53
  go_wp2
  go_loopw [3] (fun _ wr => ∃ k : Nat, k ≤ s.size ∧ wr = w.iter s k) (fun _ wr => s.size - iterPos wr w.heap.size)
  case atStart => exact ⟨0, Nat.zero_le _, rfl⟩
  case round =>
    obtain ⟨k, hk, rfl⟩ := hrel
    by_cases hlt : k < s.size
    · obtain ⟨b1, b2⟩ := HLow.out k hlt
      have hnx := fun ty => run_next_ascii (P := Tryd.prog) w s k ty hlt (by omega)
      obtain ⟨R, hR⟩ : ∃ R : Int, R = ((s[k]'hlt).toNat : Int) := ⟨_, rfl⟩
      rw [← hR] at hnx
      have r1 : 97 ≤ R := by omega
      have r2 : R ≤ 122 := by omega
      clear hR b1 b2
      go_wp2_with fail
      refine (letter_low R r1 r2 _).mono ?_
      rintro e w1 ⟨rfl, rfl⟩
      go_wp2_with fail
      refine (right_any s _ R (by omega) _).mono ?_
      rintro e w2 ⟨rfl, rfl⟩
      go_wp2_with fail
      go_roundw
      case rel => exact ⟨k + 1, by omega, rfl⟩
      case measure => rw [iterPos_iter, iterPos_iter]; omega
    · obtain rfl : k = s.size := by omega
      have hnx := fun ty => run_next_end (P := Tryd.prog) w s s.size ty (by omega)
      have k100 : decide ((s.size : Int) ≤ 100) = true := by simp; omega
      have e0 : (s.toList == []) = false := by
        rw [ByteArray.toList_eq]
        simp only [beq_eq_false_iff_ne, ne_eq]
        intro h
        exact h0 (by have := congrArg List.length h; exact this)
      go_wp2_with fail
      go_ret
      exact ⟨rfl, Ext.iter w s _⟩

set_option maxHeartbeats 1000000 in
theorem name_none (w : World) :
    Calls Tryd.prog 53 #[.string ⟨#[]⟩] w fun e w' => e = .returned (.bool false) ∧ Ext w w' := by
  go_enter Tryd.func53, Tryd.ntmps53
  go_wp2
  go_loopw [3] (fun _ wr => wr = w.iter ⟨#[]⟩ 0) (fun _ wr => 0)
  case atStart => rfl
  case round =>
    obtain rfl := hrel
    have hnx := fun ty => run_next_end (P := Tryd.prog) w ⟨#[]⟩ 0 ty (by decide)
    go_wp2_with fail
    go_ret
    exact ⟨rfl, Ext.iter w _ _⟩

/-- Is a text a name? (of texts of small letters) -/
def lowB (s : ByteArray) : Bool := decide (s.size ≠ 0)
theorem name_lowB (s : ByteArray) (hs : Low s) (w : World) :
    Calls Tryd.prog 53 #[.string s] w fun e w' => e = .returned (.bool (lowB s)) ∧ Ext w w' := by
  by_cases h : s.size = 0
  · have e : s = ⟨#[]⟩ := ByteArray.ext (Array.eq_empty_of_size_eq_zero h)
    subst e
    exact name_none w
  · have e : lowB s = true := by simp [lowB, h]
    rw [e]
    exact name_low s hs h w
end Go.Proofs.YteamiiekpjoclaaDoor

/- cell.stamp, cell.Check. -/
namespace Go.Proofs.YteamiiekpjoclaaDoor
open Go Go.RowKit

set_option maxHeartbeats 400000 in
theorem stamp_any (v : Int) (w : World) : Calls Tryd.prog 80 #[.int .i64 v] w fun e w' => e = .returned (.bool (stampB v)) ∧ w = w' := by
  by_cases h : 0 ≤ v
  all_goals
    go_enter Tryd.func80, Tryd.ntmps80
    go_wp2
    go_ret
    exact ⟨by unfold stampB; simp [h] <;> omega, rfl⟩

set_option maxHeartbeats 400000 in
theorem check_any (v : ByteArray) (d : Bool) (a e : Int) (w : World) :
    Calls Tryd.prog 51 #[.agg #[.string v, .bool d, .int .i64 a, .int .i64 e]] w fun r w' =>
      r = .returned (.bool (checkC v d a e)) ∧ Ext w w' := by
  go_enter Tryd.func51, Tryd.ntmps51
  cases h1 : stampB a <;> cases h2 : stampB e
  all_goals
    go_wp2_with (go_at_call 80; go_must (refine (stamp_any _ _).mono ?_); rintro r w1 ⟨rfl, rfl⟩)
  all_goals
    go_ret
    refine ⟨?_, (Ext.refl w).alloc _⟩
    refine ret_bool ?_
    go_light
    simp_all [checkC] <;> omega
end Go.Proofs.YteamiiekpjoclaaDoor
