/- The reference's text: clerestoryref02.Text. -/
import Derived.Test.YteamiiekpjoclaaP8
import Derived.Test.YteamiiekpjoclaaP9
import Derived.Test.YteamiiekpjoclaaP3
import Derived.Test.YteamiiekpjoclaaP1
import Derived.ProofKit
import Derived.ChangeSlices
import Derived.WideShapes
set_option linter.unusedSimpArgs false
set_option linter.unusedVariables false
namespace Go.Proofs.Yteamiiekpjoclaa
open Go Go.RowKit
attribute [local go_sem] yields yUpon

theorem str_snoc (acc : List UInt8) (s : ByteArray) (k : Nat) (h : k < s.size) : str acc ++ s.extract k (k + 1) = str (acc ++ [s.data.toList[k]'h]) := by
  apply ByteArray.ext
  simp only [ByteArray.data_append, ByteArray.data_extract, str]
  apply Array.toList_inj.1
  simp
  rw [List.drop_eq_getElem_cons (by simpa using h)]
  rfl

set_option maxHeartbeats 400000 in
theorem r2text_any (s : ByteArray) (w : World) (hl : s.size ≤ 100000000) :
    Calls Try.prog 52 #[.string s] w fun e w' => e = .returned (.string (str (txt s.data.toList))) ∧ w = w' := by
  go_enter Try.func52, Try.ntmps52
  go_wp2
  go_loop [3, 4] (fun t n => ∃ (k : Nat), k ≤ s.size ∧ n = .int .i64 k ∧ t = .string (str (esc (s.data.toList.take k)))) (fun _ n => s.size - (intOf n).toNat)
  case atStart => exact ⟨0, by omega, rfl, rfl⟩
  case round =>
    obtain ⟨k, hk, rfl, rfl⟩ := hrel
    have hle : (esc (s.data.toList.take k)).length ≤ 2 * k := Nat.le_trans (esc_length_le _) (by simp; omega)
    have q1 : ¬ 9223372036854775807 < (esc (s.data.toList.take k)).length + (min (k + 1) s.size - k) := by omega
    have q2 : ¬ 9223372036854775807 < (esc (s.data.toList.take k)).length + 2 := by omega
    have q3 : ¬ 9223372036854775807 < (esc (s.data.toList.take k)).length + (min (k + 1) s.size - k) + 1 := by omega
    by_cases hlt : k < s.size
    · have hts : Hid (esc (s.data.toList.take (k + 1)) = esc (s.data.toList.take k) ++ if s[k] = 0 then [0, 255] else [s[k]]) := by
        rw [← esc_snoc]
        congr 1
        exact List.take_succ_eq_append_getElem (by simpa using hlt)
      have hsn := Lib.hid (str_snoc (esc (s.data.toList.take k)) s k hlt)
      by_cases hz : s[k] = 0
      · have z0 : ((s[k].toNat : Int) == 0) = true := byte_eq (c := 0) hz
        have HZ := Lib.hid hz
        clear hz
        go_wp2
        go_round
        case rel =>
          refine ⟨k + 1, by omega, by go_num, ?_⟩
          rw [hsn.out, hts.out, if_pos HZ.out]
          rw [show s.data.toList[k] = 0 from HZ.out, show (⟨#[255]⟩ : ByteArray) = str [255] from rfl, str_app, List.append_assoc]
          rfl
        case measure => simp [intOf] <;> omega
      · have z0 : ((s[k].toNat : Int) == 0) = false := byte_ne (c := 0) hz
        have HZ := Lib.hid hz
        clear hz
        go_wp2
        go_round
        case rel =>
          refine ⟨k + 1, by omega, by go_num, ?_⟩
          rw [hsn.out, hts.out, if_neg HZ.out]
          rfl
        case measure => simp [intOf] <;> omega
    · go_wp2
      go_ret
      refine ⟨?_, rfl⟩
      refine ret_str ?_
      rw [show (⟨#[0, 1]⟩ : ByteArray) = str [0, 1] from rfl, str_app, List.take_of_length_le (by simpa using hlt)]
      rfl
end Go.Proofs.Yteamiiekpjoclaa

/- Which columns a view has: slices.Index, Contains at names, picker.not, slices.IndexFunc over columns. -/
namespace Go.Proofs.Yteamiiekpjoclaa
open Go Go.RowKit
attribute [local go_sem] yields yUpon

def StrsIn (w : World) (v : Value) (l : List ByteArray) : Prop := SliceIn w v l.length (l.map Value.string)
theorem StrsIn.ext {w w' : World} (hE : Ext w w') {v : Value} {l : List ByteArray} (h : StrsIn w v l) : StrsIn w' v l := SliceIn.ext hE h
theorem StrsIn.get {w : World} {v : Value} {l : List ByteArray} (h : StrsIn w v l) : ∃ a c, v = .slice a l.length c ∧ l.length ≤ c ∧ c ≤ 9223372036854775807 ∧ ∀ k (hk : k < l.length), ∃ b o, a = some ⟨b, o, none⟩ ∧ w.cell? ⟨b, o + k, none⟩ = some (.string l[k]) := by
  obtain ⟨a, c, rfl, hc, hcm, ha, hcell⟩ := h
  unfold maxLen at hcm
  exact ⟨a, c, rfl, hc, by omega, fun k hk => hcell k _ (by simp [hk])⟩
def hasS (l : List ByteArray) (x : ByteArray) : Bool := l.any fun s => x.toList == s.toList

set_option maxRecDepth 100000 in
set_option maxHeartbeats 1000000 in
theorem index_any (v : Value) (l : List ByteArray) (x : ByteArray) (w : World) (hin : StrsIn w v l) :
    Calls Try.prog 125 #[v, .string x] w fun e w' => ∃ i : Int, e = .returned (.int .i64 i) ∧ w = w' ∧ decide (0 ≤ i) = hasS l x := by
  obtain ⟨a, c, rfl, hc, hcm, hcell⟩ := hin.get
  have HC := Lib.hid hcell
  clear hcell hin
  go_enter Try.func125, Try.ntmps125
  go_wp2
  go_loop [8] (fun i => ∃ k : Nat, k ≤ l.length ∧ i = .int .i64 k ∧ Hid (hasS l x = hasS (l.drop k) x)) (fun i => l.length - (intOf i).toNat)
  case atStart => exact ⟨0, Nat.zero_le _, rfl, rfl⟩
  case round =>
    obtain ⟨k, hk, rfl, HX⟩ := hrel
    by_cases hlt : k < l.length
    · obtain ⟨b, o, rfl, hco⟩ := HC.out k hlt
      have hD : hasS (l.drop k) x = ((x.toList == l[k].toList) || hasS (l.drop (k + 1)) x) := by
        unfold hasS; rw [List.drop_eq_getElem_cons hlt]; rfl
      have HD := Lib.hid (HX.out.trans hD)
      clear hD HX
      cases hq : (x.toList == l[k].toList)
      · go_wp2_with fail
        go_round
        case rel => exact ⟨k + 1, by omega, by go_num, HD.out.trans (by rw [hq]; rfl)⟩
        case measure => simp [intOf] <;> omega
      · go_wp2_with fail
        go_ret
        exact ⟨_, rfl, rfl, (decide_eq_true (by omega)).trans (HD.out.trans (by rw [hq]; rfl)).symm⟩
    · go_wp2_with fail
      go_ret
      exact ⟨_, rfl, rfl, by rw [HX.out, List.drop_eq_nil_of_le (by omega)]; rfl⟩

set_option maxHeartbeats 1000000 in
theorem contains_any (v : Value) (l : List ByteArray) (x : ByteArray) (w : World) (hin : StrsIn w v l) :
    Calls Try.prog 118 #[v, .string x] w fun e w' => e = .returned (.bool (hasS l x)) ∧ w = w' := by
  obtain ⟨a, c, rfl, hc, hcm, _⟩ := hin.get
  go_enter Try.func118, Try.ntmps118
  go_wp2_with fail
  refine (index_any _ l x _ hin).mono ?_
  rintro e w1 ⟨i, rfl, rfl, hi⟩
  cases hb : hasS l x
  all_goals
    rw [hb] at hi
    have HB := Lib.hid hb
    clear hb
    go_wp2
    go_ret
    exact ⟨ret_bool HB.out.symm, rfl⟩

set_option maxHeartbeats 1000000 in
theorem not_any (v : Value) (l : List ByteArray) (c : Co) (w : World) (hin : StrsIn w v l) :
    Calls Try.prog 110 #[v, .agg #[.string c.name, .string c.cell.val, .bool c.cell.dead, .int .i64 c.cell.at_, .int .i64 c.cell.fin]] w fun e w' => e = .returned (.bool (!hasS l c.name)) ∧ Ext w w' := by
  obtain ⟨a, cp, rfl, hc, hcm, _⟩ := hin.get
  go_enter Try.func110, Try.ntmps110
  go_wp2_with fail
  refine (contains_any _ l c.name _ (hin.ext ((Ext.refl w).alloc _))).mono ?_
  rintro e w1 ⟨rfl, rfl⟩
  cases hb : hasS l c.name
  all_goals
    have HB := Lib.hid hb
    clear hb
    go_wp2
    go_ret
    exact ⟨ret_bool (by rw [HB.out]; rfl), (Ext.refl w).alloc _⟩

/-- A view's predicate, as it is handed on: struck is what is none of the names. -/
def strikes (l : List ByteArray) (c : Co) : Bool := !hasS l c.name
set_option maxRecDepth 100000 in
set_option maxHeartbeats 2000000 in
theorem indexFunc_any (v : Value) (l : List Co) (nv : Value) (ns : List ByteArray) (w : World) (hin : ColsIn w v l) (hns : StrsIn w nv ns) :
    Calls Try.prog 119 #[v, .func (.func 110) #[nv] #[]] w fun e w' => ∃ i : Int, e = .returned (.int .i64 i) ∧ Ext w w' ∧ ((i = -1 ∧ l.all (fun c => !strikes ns c) = true) ∨ ∃ k : Nat, i = k ∧ ∃ hk : k < l.length, strikes ns l[k] = true ∧ (l.take k).all (fun c => !strikes ns c) = true) := by
  obtain ⟨a, c, rfl, hc, hcm, hcell⟩ := hin.get
  have HC := Lib.hid hcell
  clear hcell hin
  go_enter Try.func119, Try.ntmps119
  go_wp2
  go_loopw [8] (fun i wr => ∃ k : Nat, k ≤ l.length ∧ i = .int .i64 k ∧ Ext w wr ∧ Hid ((l.take k).all (fun c => !strikes ns c) = true)) (fun i _ => l.length - (intOf i).toNat)
  case atStart => exact ⟨0, Nat.zero_le _, rfl, Ext.refl w, rfl⟩
  case round =>
    obtain ⟨k, hk, rfl, hE, HX⟩ := hrel
    by_cases hlt : k < l.length
    · obtain ⟨b, o, rfl, hco⟩ := HC.out k hlt
      obtain ⟨M, hM⟩ : ∃ M, M = l[k] := ⟨_, rfl⟩
      rw [← hM] at hco
      have hT : (l.take (k + 1)).all (fun c => !strikes ns c) = ((l.take k).all (fun c => !strikes ns c) && !strikes ns M) := by
        rw [List.take_succ_eq_append_getElem hlt, List.all_append, hM]; simp
      have HT := Lib.hid hT
      have HM := Lib.hid hM
      clear hT hM
      replace hco := hco.ext hE
      obtain ⟨g0, g1, g2, g3, g4⟩ := hco
      go_wp2_with fail
      refine (not_any nv ns M _ (hns.ext hE)).mono ?_
      rintro e w1 ⟨rfl, hE1⟩
      cases hb : hasS ns M.name
      all_goals
        have HB := Lib.hid hb
        clear hb g0 g1 g2 g3 g4
        go_wp2_with fail
      · go_ret
        exact ⟨_, rfl, hE.trans hE1, .inr ⟨k, rfl, hlt, by rw [← HM.out]; unfold strikes; rw [HB.out]; rfl, HX.out⟩⟩
      · go_roundw
        case rel => exact ⟨k + 1, by omega, by go_num, hE.trans hE1, HT.out.trans (by rw [HX.out]; unfold strikes; rw [HB.out]; rfl)⟩
        case measure => simp [intOf] <;> omega
    · obtain rfl : k = l.length := by omega
      go_wp2_with fail
      go_ret
      exact ⟨_, rfl, hE, .inl ⟨rfl, by have := HX.out; rw [List.take_length] at this; exact this⟩⟩
end Go.Proofs.Yteamiiekpjoclaa

/- A slice of integers that comes in, read. -/
namespace Go.Proofs.Yteamiiekpjoclaa
open Go Go.RowKit Go.ChangeShapes Go.WideShapes Go.ChangeAt

/-- The cells of a list of integers. -/
def kcells (k : IntKind) (l : List Int) : List Value := l.map (Value.int k)
@[simp] theorem kcells_length (k : IntKind) (l : List Int) : (kcells k l).length = l.length := by simp [kcells]
theorem kcells_get (k : IntKind) (l : List Int) (i : Nat) : (kcells k l)[i]? = l[i]?.map (Value.int k) := by simp [kcells]
/-- v is a slice of integers that reads as l. -/
def IntsIn (w : World) (v : Value) (k : IntKind) (l : List Int) : Prop := SliceIn w v l.length (kcells k l)
theorem IntsIn.ext {w w' : World} (hE : Ext w w') {v : Value} {k : IntKind} {l : List Int} (h : IntsIn w v k l) : IntsIn w' v k l := SliceIn.ext hE h

theorem read_ints {P : Program} {H : Type} {enc : TypeId × Value → H} {W : World} {base : Nat} {t e : TypeId} {k : IntKind} {v : Value} {d : DataW H} {p : List MemPlace} (ht : P.underlying t = some (.slice e)) (he : P.underlying e = some (.int k)) (hc : P.cellsOf e = 1)
    (hv : Value.okWide P W .any base t v) (h : DataW.Trod enc P W 0 (fun _ => true) true t v d p) : ∃ l : List Int, IntsIn W v k l ∧ ∀ n ∈ l, (Lit.int k n).wf = true := by
  obtain ⟨a, len, cap, rfl⟩ := okWide_slice ht hv
  obtain ⟨fuel, hf⟩ := h
  rcases open_ints ht he hc hf with ⟨hcs, _⟩ | ⟨x, l, c, zs, hcs, _, hl, hm, hz, _, hcell, hwz⟩
  · simp [Value.cells] at hcs
    obtain ⟨rfl, rfl, rfl⟩ := hcs
    exact ⟨[], SliceIn.nil W, by simp⟩
  · simp [Value.cells] at hcs
    obtain ⟨rfl, rfl, rfl⟩ := hcs
    have hz' : zs.length = cap := by simpa using hz
    refine ⟨zs.take len, ?_, fun n hn => hwz n (List.mem_of_mem_take hn)⟩
    have hlen : (zs.take len).length = len := by simp; omega
    unfold IntsIn
    rw [hlen]
    refine ⟨some x, cap, rfl, hl, hm, nofun, fun j u hj => ?_⟩
    rw [kcells_get, List.getElem?_take] at hj
    split at hj
    · rename_i hlt
      have hjz : j < zs.length := by omega
      have hc := hcell j hjz
      have h0 := hcell 0 (by omega)
      obtain ⟨b, o, s⟩ := x
      have hs : s = none := by
        cases s with
        | none => rfl
        | some s =>
          simp only [Addr.add, if_pos] at h0
          unfold World.cell? at h0
          split at h0 <;> simp at h0
      subst hs
      refine ⟨b, o, rfl, ?_⟩
      rw [Addr.add_lit] at hc
      rw [hc, List.getD_eq_getElem?_getD]
      rw [List.getElem?_eq_getElem hjz] at hj ⊢
      simp at hj ⊢
      exact hj
    · cases hj
end Go.Proofs.Yteamiiekpjoclaa
