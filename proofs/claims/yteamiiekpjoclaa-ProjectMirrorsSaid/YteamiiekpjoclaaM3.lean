/- row.Seen, row.Is. -/
import Derived.Test.YteamiiekpjoclaaM2
import Derived.Laws.AppendOwnNone
namespace Go.Proofs.Yteamiiekpjoclaa
open Go Go.RowKit
attribute [local go_sem] yields yUpon

theorem info_Col : (Try.prog.info? 58).map (fun i => (i.zero, i.size, i.bytes)) = some (some (.agg #[.string ⟨#[]⟩, .string ⟨#[]⟩, .bool false, .int .i64 0, .int .i64 0]), 5, 56) := by kernel_rfl
theorem und_Cols : Try.prog.underlying 53 = some (.slice 58) := by kernel_rfl
def co5 (c : Co) : Array Value := #[.string c.name, .string c.cell.val, .bool c.cell.dead, .int .i64 c.cell.at_, .int .i64 c.cell.fin]
theorem BoxAt.co {w : World} {p : Nat} {c : Co} {T : TypeId} (h : BoxAt w p (co5 c) T) : w.cell? ⟨p, 0, none⟩ = some (.string c.name) ∧ w.cell? ⟨p, 1, none⟩ = some (.string c.cell.val) ∧ w.cell? ⟨p, 2, none⟩ = some (.bool c.cell.dead) ∧ w.cell? ⟨p, 3, none⟩ = some (.int .i64 c.cell.at_) ∧ w.cell? ⟨p, 4, none⟩ = some (.int .i64 c.cell.fin) :=
  ⟨h.cell 0, h.cell 1, h.cell 2, h.cell 3, h.cell 4⟩
theorem ownsRow_lenOf {w : World} {B : Nat} {e : TypeId} {size : Nat} {v : Value} {n : Nat} {xs : List Value} (h : w.ownsRow B e size v n xs) : lenOf v = n := by
  rcases h.2 with ⟨rfl, rfl⟩ | ⟨g, cap, cur, rfl, _⟩ <;> rfl

/-- Is a column's cell seen? -/
def seenCo (c : Co) (g now : Int) : Bool := !c.cell.dead && decide (g < c.cell.at_) && seenB c.cell.dead c.cell.at_ c.cell.fin now
def seenCos (l : List Co) (g now : Int) : List Co := l.filter fun c => seenCo c g now
theorem seenCos_take {l : List Co} {k : Nat} {g now : Int} {M : Co} {R : List Co} (hd : l.drop k = M :: R) : seenCos (l.take (k + 1)) g now = seenCos (l.take k) g now ++ if seenCo M g now then [M] else [] := by
  have hk : k < l.length := by
    rcases Nat.lt_or_ge k l.length with h | h
    · exact h
    · rw [List.drop_eq_nil_of_le h] at hd; cases hd
  have e : l[k] = M := by rw [List.drop_eq_getElem_cons hk] at hd; exact (List.cons.inj hd).1
  rw [List.take_succ_eq_append_getElem hk, e]
  unfold seenCos
  rw [List.filter_append]
  congr 1
  cases h : seenCo M g now <;> simp [h]

set_option maxRecDepth 100000 in
set_option maxHeartbeats 4000000 in
theorem rwseen_any (r : Ro) (v : Value) (part now : Int) (w : World) (hin : ColsIn w v r.cols) (hlen : r.cols.length ≤ 1000000) :
    Calls Try.prog 60 #[(.agg #[.string r.key, .string r.live.val, .bool r.live.dead, .int .i64 r.live.at_, .int .i64 r.live.fin, .int .i64 r.gone, .int .i64 r.shade, v]), .int .i64 part, .int .i64 now] w fun e w' => ∃ v', e = .returned v' ∧ w'.ownsRow (w.heap.size + 1) 58 5 v' (seenCos r.cols (max r.gone part) now).length (coCells (seenCos r.cols (max r.gone part) now)) ∧ Ext w w' := by
  obtain ⟨a, c, rfl, hc, hcm, hcell⟩ := hin.get
  obtain ⟨l, hl⟩ : ∃ l, l = r.cols := ⟨_, rfl⟩
  obtain ⟨G, hG⟩ : ∃ G, G = max r.gone part := ⟨_, rfl⟩
  rw [← hl] at hcell hc hlen ⊢
  rw [← hG]
  have HC := Lib.hid hcell
  have HG := Lib.hid hG
  clear hcell hin hl hG
  go_enter Try.func60, Try.ntmps60
  go_wp2
  go_loopw [7, 13] (fun m i wr => ∃ k : Nat, k ≤ l.length ∧ i = .int .i64 k ∧ BoxAt wr w.heap.size (ro8 r (.slice a l.length c)) 55 ∧ Ext w wr ∧ wr.ownsRow (w.heap.size + 1) 58 5 m (seenCos (l.take k) G now).length (coCells (seenCos (l.take k) G now))) (fun _ i _ => l.length - (intOf i).toNat)
  case atStart => exact ⟨0, Nat.zero_le _, rfl, BoxAt.made w _ _, (Ext.refl w).alloc _, World.ownsRow_nil _ _ _ _⟩
  case round =>
    obtain ⟨k, hk, rfl, hbox, hE, hown⟩ := hrel
    by_cases hlt : k < l.length
    · obtain ⟨b, o, rfl, hco⟩ := HC.out k hlt
      obtain ⟨M, hM⟩ : ∃ M, M = l[k] := ⟨_, rfl⟩
      rw [← hM] at hco
      have hD : l.drop k = M :: l.drop (k + 1) := by rw [hM]; exact List.drop_eq_getElem_cons hlt
      have hT := seenCos_take (g := G) (now := now) hD
      have hle : (seenCos (l.take k) G now).length ≤ k := Nat.le_trans (List.length_filter_le _ _) (by simp; omega)
      clear hM hD
      obtain ⟨S, hS⟩ : ∃ S, S = seenCos (l.take k) G now := ⟨_, rfl⟩
      rw [← hS] at hT hle hown
      clear hS
      have HT := Lib.hid hT
      clear hT
      replace hco := hco.ext hE
      obtain ⟨g0, g1, g2, g3, g4⟩ := hco
      go_wp2_with fail
      refine wp_region_in 19 [(10, fun v _ => v = .int .i64 G), (17, fun v _ => v = .bool (seenCo M G now))] (fun w0 => BoxAt w0 wr.heap.size (co5 M) 58 ∧ BoxAt w0 w.heap.size (ro8 r (.slice (some ⟨b, o, none⟩) l.length c)) 55 ∧ Ext w w0 ∧ w0.ownsRow (w.heap.size + 1) 58 5 u7 S.length (coCells S)) (by kernel_rfl) (by kernel_rfl) (by kernel_rfl) ⟨stays_eq _, stays_eq _, trivial⟩ ?_ ?_
      · exact ⟨BoxAt.made _ _ _, hbox.ext ((Ext.refl _).alloc _), hE.alloc _, ownsRow_ext hown ((Ext.refl _).alloc _)⟩
      clear hbox hE hown g0 g1 g2 g3 g4
      rintro w2 ⟨b2, b0, hE, hown⟩
      have FIN : Hid (∀ wx, Ext w2 wx → BoxAt wx wr.heap.size (co5 M) 58 ∧ BoxAt wx w.heap.size (ro8 r (.slice (some ⟨b, o, none⟩) l.length c)) 55 ∧ Ext w wx ∧ wx.ownsRow (w.heap.size + 1) 58 5 u7 S.length (coCells S)) := fun wx h => ⟨b2.ext h, b0.ext h, hE.trans h, ownsRow_ext hown h⟩
      obtain ⟨x0, x1, x2, x3, x4⟩ := b2.co
      obtain ⟨y0, y1, y2, y3, y4, y5, y6, y7⟩ := b0.ro
      clear b2 b0 hown hE x0
      replace x1 := held x1
      replace x2 := held x2
      replace x3 := held x3
      replace x4 := held x4
      replace y0 := held y0
      replace y1 := held y1
      replace y2 := held y2
      replace y3 := held y3
      replace y4 := held y4
      replace y5 := held y5
      replace y6 := held y6
      replace y7 := held y7
      cases d0 : M.cell.dead
      · rw [d0] at x2
        cases d1 : decide (G < M.cell.at_)
        · have hs : seenCo M G now = false := by unfold seenCo; rw [d0, d1]; rfl
          refine rg_quiet rfl rfl rfl rfl ?_; intro K hK; go_big_quiet_op; go_big_quiet_on
          refine rg_quiet rfl rfl rfl rfl ?_; intro K hK; go_big_quiet_op; go_big_quiet_on
          refine rg_quiet rfl rfl rfl rfl ?_; intro K hK; go_big_quiet_op; go_big_quiet_on
          refine rg_quiet rfl rfl rfl rfl ?_; intro K hK; go_big_quiet_op; go_big_quiet_on
          refine rg_quiet rfl rfl rfl rfl ?_; intro K hK; go_big_quiet_op; go_big_quiet_on
          refine rg_quiet rfl rfl rfl rfl ?_; intro K hK; go_big_quiet_op; go_big_quiet_on
          refine rg_quiet rfl rfl rfl rfl ?_; intro K hK; go_big_quiet_op; go_big_quiet_on
          refine rg_quiet rfl rfl rfl rfl ?_; intro K hK; go_big_quiet_op; go_big_quiet_on
          refine rg_quiet rfl rfl rfl rfl ?_; intro K hK; go_big_quiet_op; go_big_quiet_on
          refine rg_quiet rfl rfl rfl rfl ?_; intro K hK; go_big_quiet_op; go_big_quiet_on
          refine rg_val [] rfl rfl rfl (by kernel_rfl) (fun w1 hE hf => ?_) ?_
          · go_simp
            exact (rgone_any r _ part w1).mono fun e w' ⟨he, hw⟩ => ⟨_, he, rg_done hE hw (int_congr HG.out.symm)⟩
          simp only [Act.put, List.setIfInBounds_toArray, List.set_cons_zero, List.set_cons_succ]
          refine rg_quiet rfl rfl rfl rfl ?_; intro K hK; go_big_quiet_op; go_big_quiet_on
          refine rg_quiet rfl rfl rfl rfl ?_; intro K hK; go_big_quiet_op; go_big_quiet_on
          refine rg_quiet rfl rfl rfl rfl ?_; intro K hK; go_big_quiet_op; go_big_quiet_on
          refine rel_skip rfl rfl ?_
          simp only [Act.put, List.setIfInBounds_toArray, List.set_cons_zero, List.set_cons_succ]
          refine rel_skip rfl rfl ?_
          simp only [Act.put, List.setIfInBounds_toArray, List.set_cons_zero, List.set_cons_succ]
          refine rel_skip rfl rfl ?_
          simp only [Act.put, List.setIfInBounds_toArray, List.set_cons_zero, List.set_cons_succ]
          refine rel_skip rfl rfl ?_
          simp only [Act.put, List.setIfInBounds_toArray, List.set_cons_zero, List.set_cons_succ]
          refine rg_quiet rfl rfl rfl rfl ?_; intro K hK; go_big_quiet_op; go_big_quiet_on
          refine rel_nil fun w5 hE5 _ => ?_
          clear d0 d1
          obtain ⟨b2, b0, hE, hown⟩ := FIN.out w5 hE5
          clear x1 x2 x3 x4 y0 y1 y2 y3 y4 y5 y6 y7 hE5 FIN
          have hT2 := HT.out
          rw [hs] at hT2
          simp only [Bool.false_eq_true, if_false, List.append_nil] at hT2
          have HT2 := Lib.hid hT2
          clear hT2 HT hs
          go_wp2_with fail
          go_roundw
          case rel => exact ⟨k + 1, by omega, by go_num, b0, hE, by rw [HT2.out]; exact hown⟩
          case measure => simp [intOf] <;> omega
        · have hs0 : Hid (seenCo M G now = seenB false M.cell.at_ M.cell.fin now) := by show seenCo M G now = seenB false M.cell.at_ M.cell.fin now; unfold seenCo; rw [d1, d0]; rfl
          refine rg_quiet rfl rfl rfl rfl ?_; intro K hK; go_big_quiet_op; go_big_quiet_on
          refine rg_quiet rfl rfl rfl rfl ?_; intro K hK; go_big_quiet_op; go_big_quiet_on
          refine rg_quiet rfl rfl rfl rfl ?_; intro K hK; go_big_quiet_op; go_big_quiet_on
          refine rg_quiet rfl rfl rfl rfl ?_; intro K hK; go_big_quiet_op; go_big_quiet_on
          refine rg_quiet rfl rfl rfl rfl ?_; intro K hK; go_big_quiet_op; go_big_quiet_on
          refine rg_quiet rfl rfl rfl rfl ?_; intro K hK; go_big_quiet_op; go_big_quiet_on
          refine rg_quiet rfl rfl rfl rfl ?_; intro K hK; go_big_quiet_op; go_big_quiet_on
          refine rg_quiet rfl rfl rfl rfl ?_; intro K hK; go_big_quiet_op; go_big_quiet_on
          refine rg_quiet rfl rfl rfl rfl ?_; intro K hK; go_big_quiet_op; go_big_quiet_on
          refine rg_quiet rfl rfl rfl rfl ?_; intro K hK; go_big_quiet_op; go_big_quiet_on
          refine rg_val [] rfl rfl rfl (by kernel_rfl) (fun w1 hE hf => ?_) ?_
          · go_simp
            exact (rgone_any r _ part w1).mono fun e w' ⟨he, hw⟩ => ⟨_, he, rg_done hE hw (int_congr HG.out.symm)⟩
          simp only [Act.put, List.setIfInBounds_toArray, List.set_cons_zero, List.set_cons_succ]
          refine rg_quiet rfl rfl rfl rfl ?_; intro K hK; go_big_quiet_op; go_big_quiet_on
          refine rg_quiet rfl rfl rfl rfl ?_; intro K hK; go_big_quiet_op; go_big_quiet_on
          refine rg_quiet rfl rfl rfl rfl ?_; intro K hK; go_big_quiet_op; go_big_quiet_on
          refine rg_quiet rfl rfl rfl rfl ?_; intro K hK; go_big_quiet_op; go_big_quiet_on
          refine rg_quiet rfl rfl rfl rfl ?_; intro K hK; go_big_quiet_op; go_big_quiet_on
          refine rg_quiet rfl rfl rfl rfl ?_; intro K hK; go_big_quiet_op; go_big_quiet_on
          refine rg_val [] rfl rfl rfl (by kernel_rfl) (fun w1 hE hf => ?_) ?_
          · go_simp
            exact (seen_any _ _ _ _ _ w1).mono fun e w' ⟨he, hw⟩ => ⟨_, he, rg_done hE hw (bool_congr hs0.out.symm)⟩
          simp only [Act.put, List.setIfInBounds_toArray, List.set_cons_zero, List.set_cons_succ]
          cases hs : seenCo M G now
          · refine rg_quiet rfl rfl rfl rfl ?_; intro K hK; go_big_quiet_op; go_big_quiet_on
            refine rel_nil fun w5 hE5 _ => ?_
            clear d0 d1 hs0
            obtain ⟨b2, b0, hE, hown⟩ := FIN.out w5 hE5
            clear x1 x2 x3 x4 y0 y1 y2 y3 y4 y5 y6 y7 hE5 FIN
            have hT2 := HT.out
            rw [hs] at hT2
            simp only [Bool.false_eq_true, if_false, List.append_nil] at hT2
            have HT2 := Lib.hid hT2
            clear hT2 HT hs
            go_wp2_with fail
            go_roundw
            case rel => exact ⟨k + 1, by omega, by go_num, b0, hE, by rw [HT2.out]; exact hown⟩
            case measure => simp [intOf] <;> omega
          · refine rg_quiet rfl rfl rfl rfl ?_; intro K hK; go_big_quiet_op; go_big_quiet_on
            refine rel_nil fun w5 hE5 _ => ?_
            clear d0 d1 hs0
            obtain ⟨b2, b0, hE, hown⟩ := FIN.out w5 hE5
            clear x1 x2 x3 x4 y0 y1 y2 y3 y4 y5 y6 y7 hE5 FIN
            obtain ⟨x0, x1, x2, x3, x4⟩ := b2.co
            have hT2 := HT.out
            rw [hs] at hT2
            simp only [if_true] at hT2
            have HT2 := Lib.hid hT2
            have hl0 := b0.lt
            clear hT2 HT hs
            go_wp2_with (at_builtin; go_must (refine appR info_Col und_Cols rfl (by decide) w5 rfl (.tmp 36) (.tmp 38) rfl (w.heap.size + 1) hl0 _ _ _ hown rfl 1 _ rfl rfl (by simp [Value.oneCell']) (by unfold maxLen; omega) (by omega) ?_); intro m3 w3 hown3 hg3)
            go_roundw
            case rel =>
              refine ⟨k + 1, by omega, by go_num, (b0.ext ((Ext.refl _).alloc _)).grown hg3 (fun h => ?_), (hE.alloc _).grown hg3 fun q hq => by have := (hown.lt q hq).1; omega, ?_⟩
              · have := (hown.lt _ h.symm).1
                omega
              · rw [HT2.out, coCells_append, List.length_append]
                exact hown3
            case measure => simp [intOf] <;> omega
      · rw [d0] at x2
        have hs : seenCo M G now = false := by unfold seenCo; rw [d0]; rfl
        refine rg_quiet rfl rfl rfl rfl ?_; intro K hK; go_big_quiet_op; go_big_quiet_on
        refine rg_quiet rfl rfl rfl rfl ?_; intro K hK; go_big_quiet_op; go_big_quiet_on
        refine rg_quiet rfl rfl rfl rfl ?_; intro K hK; go_big_quiet_op; go_big_quiet_on
        refine rg_quiet rfl rfl rfl rfl ?_; intro K hK; go_big_quiet_op; go_big_quiet_on
        refine rg_quiet rfl rfl rfl rfl ?_; intro K hK; go_big_quiet_op; go_big_quiet_on
        refine rel_skip rfl rfl ?_
        simp only [Act.put, List.setIfInBounds_toArray, List.set_cons_zero, List.set_cons_succ]
        refine rel_skip rfl rfl ?_
        simp only [Act.put, List.setIfInBounds_toArray, List.set_cons_zero, List.set_cons_succ]
        refine rel_skip rfl rfl ?_
        simp only [Act.put, List.setIfInBounds_toArray, List.set_cons_zero, List.set_cons_succ]
        refine rel_skip rfl rfl ?_
        simp only [Act.put, List.setIfInBounds_toArray, List.set_cons_zero, List.set_cons_succ]
        refine rel_skip rfl rfl ?_
        simp only [Act.put, List.setIfInBounds_toArray, List.set_cons_zero, List.set_cons_succ]
        refine rel_skip rfl rfl ?_
        simp only [Act.put, List.setIfInBounds_toArray, List.set_cons_zero, List.set_cons_succ]
        refine rel_skip rfl rfl ?_
        simp only [Act.put, List.setIfInBounds_toArray, List.set_cons_zero, List.set_cons_succ]
        refine rg_quiet rfl rfl rfl rfl ?_; intro K hK; go_big_quiet_op; go_big_quiet_on
        refine rg_quiet rfl rfl rfl rfl ?_; intro K hK; go_big_quiet_op; go_big_quiet_on
        refine rel_skip rfl rfl ?_
        simp only [Act.put, List.setIfInBounds_toArray, List.set_cons_zero, List.set_cons_succ]
        refine rel_skip rfl rfl ?_
        simp only [Act.put, List.setIfInBounds_toArray, List.set_cons_zero, List.set_cons_succ]
        refine rel_skip rfl rfl ?_
        simp only [Act.put, List.setIfInBounds_toArray, List.set_cons_zero, List.set_cons_succ]
        refine rel_skip rfl rfl ?_
        simp only [Act.put, List.setIfInBounds_toArray, List.set_cons_zero, List.set_cons_succ]
        refine rg_quiet rfl rfl rfl rfl ?_; intro K hK; go_big_quiet_op; go_big_quiet_on
        refine rel_nil fun w5 hE5 _ => ?_
        clear d0
        obtain ⟨b2, b0, hE, hown⟩ := FIN.out w5 hE5
        clear x1 x2 x3 x4 y0 y1 y2 y3 y4 y5 y6 y7 hE5 FIN
        have hT2 := HT.out
        rw [hs] at hT2
        simp only [Bool.false_eq_true, if_false, List.append_nil] at hT2
        have HT2 := Lib.hid hT2
        clear hT2 HT hs
        go_wp2_with fail
        go_roundw
        case rel => exact ⟨k + 1, by omega, by go_num, b0, hE, by rw [HT2.out]; exact hown⟩
        case measure => simp [intOf] <;> omega
    · obtain rfl : k = l.length := by omega
      rw [List.take_length] at hown
      go_wp2_with fail
      go_ret
      exact ⟨_, rfl, hown, hE⟩
end Go.Proofs.Yteamiiekpjoclaa

/- Which columns a view has: slices.Index, Contains at names, picker.not, slices.IndexFunc over columns. -/
namespace Go.Proofs.Yteamiiekpjoclaa
open Go Go.RowKit
attribute [local go_sem] yields yUpon

def StrsIn (w : World) (v : Value) (l : List ByteArray) : Prop := SliceIn w v l.length (l.map Value.string)
theorem StrsIn.ext {w w' : World} (hE : Ext w w') {v : Value} {l : List ByteArray} (h : StrsIn w v l) : StrsIn w' v l := SliceIn.ext hE h
theorem StrsIn.get {w : World} {v : Value} {l : List ByteArray} (h : StrsIn w v l) : ∃ a c, v = .slice a l.length c ∧ l.length ≤ c ∧ c ≤ 9223372036854775807 ∧ ∀ k (hk : k < l.length), ∃ b o, a = some ⟨b, o, none⟩ ∧ w.cell? ⟨b, o + k, none⟩ = some (.string l[k]) := by
  obtain ⟨a, c, rfl, hc, hcm, ha, hcell⟩ := h
  unfold maxLen at hcm
  exact ⟨a, c, rfl, hc, by omega, fun k hk => hcell k _ (by simp [hk])⟩
def hasS (l : List ByteArray) (x : ByteArray) : Bool := l.any fun s => x.toList == s.toList

set_option maxRecDepth 100000 in
set_option maxHeartbeats 1000000 in
theorem index_any (v : Value) (l : List ByteArray) (x : ByteArray) (w : World) (hin : StrsIn w v l) :
    Calls Try.prog 125 #[v, .string x] w fun e w' => ∃ i : Int, e = .returned (.int .i64 i) ∧ w = w' ∧ decide (0 ≤ i) = hasS l x := by
  obtain ⟨a, c, rfl, hc, hcm, hcell⟩ := hin.get
  have HC := Lib.hid hcell
  clear hcell hin
  go_enter Try.func125, Try.ntmps125
  go_wp2
  go_loop [8] (fun i => ∃ k : Nat, k ≤ l.length ∧ i = .int .i64 k ∧ Hid (hasS l x = hasS (l.drop k) x)) (fun i => l.length - (intOf i).toNat)
  case atStart => exact ⟨0, Nat.zero_le _, rfl, rfl⟩
  case round =>
    obtain ⟨k, hk, rfl, HX⟩ := hrel
    by_cases hlt : k < l.length
    · obtain ⟨b, o, rfl, hco⟩ := HC.out k hlt
      have hD : hasS (l.drop k) x = ((x.toList == l[k].toList) || hasS (l.drop (k + 1)) x) := by
        unfold hasS; rw [List.drop_eq_getElem_cons hlt]; rfl
      have HD := Lib.hid (HX.out.trans hD)
      clear hD HX
      cases hq : (x.toList == l[k].toList)
      · go_wp2_with fail
        go_round
        case rel => exact ⟨k + 1, by omega, by go_num, HD.out.trans (by rw [hq]; rfl)⟩
        case measure => simp [intOf] <;> omega
      · go_wp2_with fail
        go_ret
        exact ⟨_, rfl, rfl, (decide_eq_true (by omega)).trans (HD.out.trans (by rw [hq]; rfl)).symm⟩
    · go_wp2_with fail
      go_ret
      exact ⟨_, rfl, rfl, by rw [HX.out, List.drop_eq_nil_of_le (by omega)]; rfl⟩

set_option maxHeartbeats 1000000 in
theorem contains_any (v : Value) (l : List ByteArray) (x : ByteArray) (w : World) (hin : StrsIn w v l) :
    Calls Try.prog 118 #[v, .string x] w fun e w' => e = .returned (.bool (hasS l x)) ∧ w = w' := by
  obtain ⟨a, c, rfl, hc, hcm, _⟩ := hin.get
  go_enter Try.func118, Try.ntmps118
  go_wp2_with fail
  refine (index_any _ l x _ hin).mono ?_
  rintro e w1 ⟨i, rfl, rfl, hi⟩
  cases hb : hasS l x
  all_goals
    rw [hb] at hi
    have HB := Lib.hid hb
    clear hb
    go_wp2
    go_ret
    exact ⟨ret_bool HB.out.symm, rfl⟩

set_option maxHeartbeats 1000000 in
theorem not_any (v : Value) (l : List ByteArray) (c : Co) (w : World) (hin : StrsIn w v l) :
    Calls Try.prog 110 #[v, .agg #[.string c.name, .string c.cell.val, .bool c.cell.dead, .int .i64 c.cell.at_, .int .i64 c.cell.fin]] w fun e w' => e = .returned (.bool (!hasS l c.name)) ∧ Ext w w' := by
  obtain ⟨a, cp, rfl, hc, hcm, _⟩ := hin.get
  go_enter Try.func110, Try.ntmps110
  go_wp2_with fail
  refine (contains_any _ l c.name _ (hin.ext ((Ext.refl w).alloc _))).mono ?_
  rintro e w1 ⟨rfl, rfl⟩
  cases hb : hasS l c.name
  all_goals
    have HB := Lib.hid hb
    clear hb
    go_wp2
    go_ret
    exact ⟨ret_bool (by rw [HB.out]; rfl), (Ext.refl w).alloc _⟩

/-- A view's predicate, as it is handed on: struck is what is none of the names. -/
def strikes (l : List ByteArray) (c : Co) : Bool := !hasS l c.name
set_option maxRecDepth 100000 in
set_option maxHeartbeats 2000000 in
theorem indexFunc_any (v : Value) (l : List Co) (nv : Value) (ns : List ByteArray) (w : World) (hin : ColsIn w v l) (hns : StrsIn w nv ns) :
    Calls Try.prog 119 #[v, .func (.func 110) #[nv] #[]] w fun e w' => ∃ i : Int, e = .returned (.int .i64 i) ∧ Ext w w' ∧ ((i = -1 ∧ l.all (fun c => !strikes ns c) = true) ∨ ∃ k : Nat, i = k ∧ ∃ hk : k < l.length, strikes ns l[k] = true ∧ (l.take k).all (fun c => !strikes ns c) = true) := by
  obtain ⟨a, c, rfl, hc, hcm, hcell⟩ := hin.get
  have HC := Lib.hid hcell
  clear hcell hin
  go_enter Try.func119, Try.ntmps119
  go_wp2
  go_loopw [8] (fun i wr => ∃ k : Nat, k ≤ l.length ∧ i = .int .i64 k ∧ Ext w wr ∧ Hid ((l.take k).all (fun c => !strikes ns c) = true)) (fun i _ => l.length - (intOf i).toNat)
  case atStart => exact ⟨0, Nat.zero_le _, rfl, Ext.refl w, rfl⟩
  case round =>
    obtain ⟨k, hk, rfl, hE, HX⟩ := hrel
    by_cases hlt : k < l.length
    · obtain ⟨b, o, rfl, hco⟩ := HC.out k hlt
      obtain ⟨M, hM⟩ : ∃ M, M = l[k] := ⟨_, rfl⟩
      rw [← hM] at hco
      have hT : (l.take (k + 1)).all (fun c => !strikes ns c) = ((l.take k).all (fun c => !strikes ns c) && !strikes ns M) := by
        rw [List.take_succ_eq_append_getElem hlt, List.all_append, hM]; simp
      have HT := Lib.hid hT
      have HM := Lib.hid hM
      clear hT hM
      replace hco := hco.ext hE
      obtain ⟨g0, g1, g2, g3, g4⟩ := hco
      go_wp2_with fail
      refine (not_any nv ns M _ (hns.ext hE)).mono ?_
      rintro e w1 ⟨rfl, hE1⟩
      cases hb : hasS ns M.name
      all_goals
        have HB := Lib.hid hb
        clear hb g0 g1 g2 g3 g4
        go_wp2_with fail
      · go_ret
        exact ⟨_, rfl, hE.trans hE1, .inr ⟨k, rfl, hlt, by rw [← HM.out]; unfold strikes; rw [HB.out]; rfl, HX.out⟩⟩
      · go_roundw
        case rel => exact ⟨k + 1, by omega, by go_num, hE.trans hE1, HT.out.trans (by rw [HX.out]; unfold strikes; rw [HB.out]; rfl)⟩
        case measure => simp [intOf] <;> omega
    · obtain rfl : k = l.length := by omega
      go_wp2_with fail
      go_ret
      exact ⟨_, rfl, hE, .inl ⟨rfl, by have := HX.out; rw [List.take_length] at this; exact this⟩⟩
end Go.Proofs.Yteamiiekpjoclaa

/- 'append' to a list of columns of one's own. -/
namespace Go.Proofs.Yteamiiekpjoclaa
open Go Go.RowKit

theorem coCells_one (l : List Co) : ∀ u ∈ coCells l, u.oneCell' = true := by
  induction l with
  | nil => intro u h; cases h
  | cons c l ih =>
    intro u h
    simp only [coCells, List.mem_cons] at h
    rcases h with rfl | rfl | rfl | rfl | rfl | h
    · rfl
    · rfl
    · rfl
    · rfl
    · rfl
    · exact ih u h
theorem appCols {ops : Array Oper} {rest : List Oper} {o : Oper} {a : Act} {Q : Exit → Act → World → Prop} (w : World) (hg : o.guard = none) (s x : Operand)
    (hop : o.op = Op.call { callee := Callee.builtin Builtin.append, args := #[s, x], argTypes := #[53, 53] })
    (B : Nat) (hB : B ≤ w.heap.size) (v : Value) (l : List Co) (hown : w.ownsRow B 58 5 v l.length (coCells l)) (hs : a.eval s = v) (u : Value) (m : List Co) (hin : ColsIn w u m) (hx : a.eval x = u) (hb : l.length + m.length ≤ 1000000)
    (hK : ∀ v' w', w'.ownsRow B 58 5 v' (l ++ m).length (coCells (l ++ m)) → w.grownBy w' v.ownBlock → wpList Try.prog ops Q rest (a.put o.dst v') w') : wpList Try.prog ops Q (o :: rest) a w := by
  obtain ⟨i0, hi, hz0, hz1, hz2⟩ := info_parts info_Col
  obtain ⟨ao, c, rfl, hc, hcm, ha, hcell⟩ := hin
  cases ao with
  | none =>
    have hc0 := ha rfl
    obtain rfl : m = [] := List.eq_nil_of_length_eq_zero (by omega)
    subst hc0
    refine wpList_append_own_none hg s x 53 hop B 58 i0 5 und_Cols hi v l.length (coCells l) hs hown hx (hK _ _ (by rw [List.append_nil]; exact hown) ⟨rfl, rfl, rfl, Nat.le_refl _, fun _ _ _ => rfl⟩)
  | some ad =>
    refine wpList_append_own _ hg s x 53 hop B 58 i0 _ 5 56 und_Cols hi hz0 hz1 hz2 rfl (by decide) v l.length (coCells l) hs hown ad m.length c (coCells m) hx (coCells_length m) ?_ (coCells_one m) (by unfold maxLen; omega) (by omega) hB ?_
    · intro j u hj
      obtain ⟨b, o, e, h⟩ := hcell j u hj
      cases e
      rw [Addr.add_lit]
      exact h
    · intro v' w' h2 h3 _
      refine hK v' w' ?_ h3
      rw [coCells_append, List.length_append]
      exact h2
theorem cols_own {w : World} {B : Nat} {v : Value} {l : List Co} (h : w.ownsRow B 58 5 v l.length (coCells l)) : ColsIn w v l := SliceIn.of_owns h
theorem cols_two (w : World) (c d : Co) (T : TypeId) : ColsIn (w.alloc (.cells (co5 c ++ co5 d) T)) (.slice (some ⟨w.heap.size, 0, none⟩) 2 2) [c, d] :=
  SliceIn.made w (co5 c ++ co5 d) T 2 (by unfold maxLen; decide)
theorem own_shape {w : World} {B : Nat} {e : TypeId} {size : Nat} {v : Value} {n : Nat} {xs : List Value} (h : w.ownsRow B e size v n xs) : ∃ a c, v = .slice a n c := by
  obtain ⟨a, c, h, _⟩ := SliceIn.of_owns h
  exact ⟨a, c, h⟩
theorem own_ne_box {w : World} {B : Nat} {e e' : TypeId} {size : Nat} {v : Value} {n b : Nat} {xs : List Value} {cs : Array Value} (h : w.ownsRow B e size v n xs) (hb : BoxAt w b cs e') (hne : e ≠ e') : v.ownBlock = none ∨ v.ownBlock ≠ some b := by
  rcases h.2 with ⟨rfl, _⟩ | ⟨g, cap, cur, rfl, _, hg, _⟩
  · exact .inl rfl
  · refine .inr (fun h => ?_)
    have hgb : g = b := Option.some.inj h
    subst hgb
    unfold BoxAt at hb
    rw [hg] at hb
    injection hb with hb
    injection hb with h1 h2
    exact hne h2
theorem own_setCell {w : World} {B : Nat} {e : TypeId} {size : Nat} {v : Value} {n : Nat} {xs : List Value} {q i : Nat} {u : Value} (h : w.ownsRow B e size v n xs) (hne : v.ownBlock = none ∨ v.ownBlock ≠ some q) : (w.setCell ⟨q, i, none⟩ u).ownsRow B e size v n xs :=
  h.kept (row := some q) ⟨rfl, rfl, rfl, by rw [Deep.nblk_setCell]; exact Nat.le_refl _, fun k _ hk => Deep.blk_setCell_other _ _ _ _ (fun e => hk (by rw [e]))⟩ hne
theorem own_ne_own {w : World} {B B' : Nat} {e e' : TypeId} {size size' : Nat} {v v' : Value} {n n' : Nat} {xs xs' : List Value} (h : w.ownsRow B e size v n xs) (h' : w.ownsRow B' e' size' v' n' xs') (hne : e ≠ e') : v.ownBlock = none ∨ v.ownBlock ≠ v'.ownBlock := by
  rcases h.2 with ⟨rfl, _⟩ | ⟨g, cap, cur, rfl, _, hg, _⟩
  · exact .inl rfl
  · refine .inr (fun h => ?_)
    rcases h'.2 with ⟨rfl, _⟩ | ⟨g', cap', cur', rfl, _, hg', _⟩
    · cases h
    · have hgb : g = g' := Option.some.inj h
      subst hgb
      rw [hg] at hg'
      injection hg' with hb
      injection hb with h1 h2
      exact hne h2
end Go.Proofs.Yteamiiekpjoclaa
