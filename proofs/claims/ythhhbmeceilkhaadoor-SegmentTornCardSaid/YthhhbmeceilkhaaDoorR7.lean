/- The reference of chapter 4: Scan. -/
import Derived.Test.YthhhbmeceilkhaaDoorR6
import Derived.Test.YthhhbmeceilkhaaDoorR2
import Derived.Laws.OwnMore
import Derived.Test.YthhhbmeceilkhaaDoorR1
import Derived.ProofKit
import Derived.ChangeSlices
import Derived.WideShapes
set_option linter.unusedSimpArgs false
set_option linter.unusedVariables false
namespace Go.Proofs.YthhhbmeceilkhaaDoor
open Go Go.RowKit
attribute [local go_sem] yields yUpon

set_option maxRecDepth 100000 in
set_option maxHeartbeats 4000000 in
theorem rscan4_any (s : ByteArray) (hs : s.size ≤ 4294967296) (w : World) :
    Calls Tryd.prog 10 #[.string s] w fun e w' => ∃ v', (e = .returned (.tuple #[v', .int .i64 ((scan s.data.toList 0).2 : Int)]) ∧ Ext w w') ∧ StrsIn w' v' (scan s.data.toList 0).1 := by
  obtain ⟨l, hl⟩ : ∃ l, l = s.data.toList := ⟨_, rfl⟩
  have hls : l.length = s.size := by rw [hl]; simp
  rw [← hl]
  have HL := Lib.hid hl
  have HLS := Lib.hid hls
  clear hl hls
  go_enter Tryd.func10, Tryd.ntmps10
  go_wp2
  go_loopw [4, 5] (fun vb g wr => ∃ (bodies : List (List UInt8)) (good : Nat), g = .int .i64 (good : Int) ∧ good ≤ s.size ∧ bodies.length ≤ good ∧ Ext w wr ∧ wr.ownsRow w.heap.size 9 1 vb bodies.length (scells bodies) ∧ Hid (scan l 0 = (bodies ++ (scan l good).1, (scan l good).2))) (fun _ g _ => s.size - (intOf g).toNat)
  case atStart => exact ⟨[], 0, rfl, Nat.zero_le _, Nat.le_refl _, Ext.refl w, World.ownsRow_nil _ _ _ _, Lib.hid (by simp)⟩
  case round =>
    obtain ⟨bodies, good, rfl, hg, hbl, hE, hown, HS⟩ := hrel
    go_wp2_with fail
    refine (rone4_any s hs good hg _).mono ?_
    rw [← HL.out]
    rintro e w1 ⟨⟨b, en, rfl, hrd⟩ | ⟨rfl, hrd⟩, hE1⟩
    · obtain ⟨_, h2, h3, h4⟩ := rd_spec hrd
      have hp := sput_pos false good b.data.toList
      have hen : good < en := by omega
      have henl : en ≤ s.size := by rw [← HLS.out]; exact h4
      have HN : Hid (scan l 0 = ((bodies ++ [b.data.toList]) ++ (scan l en).1, (scan l en).2)) := Lib.hid (by rw [HS.out, scan_some hrd]; simp)
      have hext := hE.trans hE1
      have hown1 := ownsRow_ext hown hE1
      clear h2 h3 h4 hp hrd hown
      go_wp2_with (at_builtin; go_must (refine appR info_string und_strs rfl (by decide) w1 rfl (.tmp 18) (.tmp 20) rfl w.heap.size hext.le _ bodies.length (scells bodies) hown1 (by rfl) 1 _ (by rfl) (by rfl) (by simp [Value.oneCell']) (by unfold maxLen; omega) (by omega) ?_); intro v7 w7 hown7 hg7)
      have hE7 := (hext.alloc (.cells #[.string b] 9)).grown hg7 (fun k hk => (hown1.lt k hk).1)
      go_roundw
      case rel =>
        refine ⟨bodies ++ [b.data.toList], en, rfl, henl, by simp; omega, hE7, ?_, HN⟩
        have e : scells (bodies ++ [b.data.toList]) = scells bodies ++ [.string b] := by simp [scells, str_self]
        rw [e]
        simpa using hown7
      case measure => simp [intOf]; omega
    · have HN : Hid (scan l 0 = (bodies, good)) := Lib.hid (by rw [HS.out, scan_none hrd]; simp)
      go_wp2
      go_ret2
      rw [HN.out]
      exact ⟨_, ⟨rfl, hE.trans hE1⟩, SliceIn.of_owns (ownsRow_ext hown hE1)⟩
end Go.Proofs.YthhhbmeceilkhaaDoor

/- 'append(b, x...)' of bytes from any slice, b a row of the call's own. -/
namespace Go.Proofs.YthhhbmeceilkhaaDoor
open Go Go.RowKit

theorem info_b8c : Tryd.prog.info? 5 = some (Tryd.prog.info? 5).get! ∧ (Tryd.prog.info? 5).get!.zero = some (.int .u8 0) ∧ (Tryd.prog.info? 5).get!.size = 1 ∧ (Tryd.prog.info? 5).get!.bytes = 1 := ⟨by kernel_rfl, by kernel_rfl, by kernel_rfl, by kernel_rfl⟩
theorem run_ownB {w : World} {B : Nat} {v u : Value} {l m : List UInt8} (hB : B ≤ w.heap.size) (hown : OwnB w B v l) (hin : BytesIn w u m) (hb : l.length + m.length ≤ 140737488355328) (ty : TypeId) :
    ∃ v' w', (Builtin.append_ #[22, 22] ty #[v, u]).run Tryd.prog w = .ok v' w' ∧ OwnB w' B v' (l ++ m) ∧ w.grownBy w' v.ownBlock := by
  obtain ⟨a, c, rfl, hc, hcm, ha, hcell⟩ := hin
  cases a with
  | none =>
    have h0 := ha rfl
    subst h0
    obtain rfl : m = [] := List.eq_nil_of_length_eq_zero (by omega)
    exact ⟨v, w, run_append_owned_none (P := Tryd.prog) w B 22 ty 5 _ 1 und_bytes info_b8c.1 v l.length (bcells l) hown, by simpa using hown, ⟨rfl, rfl, rfl, Nat.le_refl _, fun _ _ _ => rfl⟩⟩
  | some ad =>
    obtain ⟨v', w', h1, h2, h3, _⟩ := run_append_own (P := Tryd.prog) w B 22 ty 5 _ (.int .u8 0) 1 1 und_bytes info_b8c.1 info_b8c.2.1 info_b8c.2.2.1 info_b8c.2.2.2 rfl (by decide) v l.length (bcells l) hown ad m.length c (bcells m) (by simp) (fun j u hj => by
        obtain ⟨b', o', e', hc'⟩ := hcell j u hj
        cases e'
        rw [Addr.add_lit]
        exact hc') (fun u hu => by
        simp only [bcells, List.mem_map] at hu
        obtain ⟨b, _, rfl⟩ := hu
        rfl) (by unfold maxLen; omega) (by omega) hB
    refine ⟨v', w', h1, ?_, h3⟩
    unfold OwnB
    rw [List.length_append, bcells_append]
    exact h2
section
variable {ops : Array Oper} {Q : Exit → Act → World → Prop} {a : Act} {w : World} {rest : List Oper} {o : Oper}
theorem yields_ownB (s x : Operand) (hop : o.op = Op.call { callee := Callee.builtin Builtin.append, args := #[s, x], argTypes := #[22, 22] }) {B : Nat} {v u : Value} {l m : List UInt8} (hs : a.eval s = v) (hx : a.eval x = u) (hB : B ≤ w.heap.size) (hown : OwnB w B v l) (hin : BytesIn w u m)
    (hb : l.length + m.length ≤ 140737488355328) {R : Value → World → Prop} (hR : ∀ v' w', OwnB w' B v' (l ++ m) → w.grownBy w' v.ownBlock → R v' w') : yields Tryd.prog o a w R := by
  obtain ⟨v', w', h1, h2, h3⟩ := run_ownB hB hown hin hb o.type
  unfold yields execOp
  simp only [hop, resolve, invoke, builtin, Sem.run_bind, Sem.run_pure, Result.andThen_ok, List.map_toArray, List.map_cons, List.map_nil, hs, hx, h1]
  exact hR v' w' h2 h3
theorem wpList_ownB (hw : Region.wanted o (yielded ops a.tmps) = true) (s x : Operand) (hop : o.op = Op.call { callee := Callee.builtin Builtin.append, args := #[s, x], argTypes := #[22, 22] }) {B : Nat} {v u : Value} {l m : List UInt8} (hs : a.eval s = v) (hx : a.eval x = u) (hB : B ≤ w.heap.size) (hown : OwnB w B v l) (hin : BytesIn w u m)
    (hb : l.length + m.length ≤ 140737488355328) (hK : ∀ v' w', OwnB w' B v' (l ++ m) → w.grownBy w' v.ownBlock → wpList Tryd.prog ops Q rest (a.put o.dst v') w') : wpList Tryd.prog ops Q (o :: rest) a w := by
  unfold wpList
  rw [if_pos hw]
  exact .inl (yields_wp (yields_ownB (R := fun v w' => wpList Tryd.prog ops Q rest (a.put o.dst v) w') s x hop hs hx hB hown hin hb hK) fun v w' h => h)
/-- append([]byte(nil), x...). -/
theorem yields_cloneB (s x : Operand) (hop : o.op = Op.call { callee := Callee.builtin Builtin.append, args := #[s, x], argTypes := #[22, 22] }) {u : Value} {m : List UInt8} (hs : a.eval s = .slice none 0 0) (hx : a.eval x = u) (hin : BytesIn w u m)
    (hb : m.length ≤ 140737488355328) {R : Value → World → Prop} (hR : ∀ v' w', OwnB w' w.heap.size v' m → Ext w w' → R v' w') : yields Tryd.prog o a w R :=
  yields_ownB (l := []) s x hop hs hx (Nat.le_refl _) (World.ownsRow_nil _ _ _ _) hin (by simpa using hb) fun v' w' h1 h2 => hR v' w' h1 ((Ext.refl w).grown h2 nofun)
theorem wpList_cloneB (hw : Region.wanted o (yielded ops a.tmps) = true) (s x : Operand) (hop : o.op = Op.call { callee := Callee.builtin Builtin.append, args := #[s, x], argTypes := #[22, 22] }) {u : Value} {m : List UInt8} (hs : a.eval s = .slice none 0 0) (hx : a.eval x = u) (hin : BytesIn w u m)
    (hb : m.length ≤ 140737488355328) (hK : ∀ v' w', OwnB w' w.heap.size v' m → Ext w w' → wpList Tryd.prog ops Q rest (a.put o.dst v') w') : wpList Tryd.prog ops Q (o :: rest) a w :=
  wpList_ownB (l := []) hw s x hop hs hx (Nat.le_refl _) (World.ownsRow_nil _ _ _ _) hin (by simpa using hb) fun v' w' h1 h2 => hK v' w' h1 ((Ext.refl w).grown h2 nofun)
end
end Go.Proofs.YthhhbmeceilkhaaDoor

/- A slice of integers that comes in, read. -/
namespace Go.Proofs.YthhhbmeceilkhaaDoor
open Go Go.RowKit Go.ChangeShapes Go.WideShapes Go.ChangeAt

/-- The cells of a list of integers. -/
def kcells (k : IntKind) (l : List Int) : List Value := l.map (Value.int k)
@[simp] theorem kcells_length (k : IntKind) (l : List Int) : (kcells k l).length = l.length := by simp [kcells]
theorem kcells_get (k : IntKind) (l : List Int) (i : Nat) : (kcells k l)[i]? = l[i]?.map (Value.int k) := by simp [kcells]
/-- v is a slice of integers that reads as l. -/
def IntsIn (w : World) (v : Value) (k : IntKind) (l : List Int) : Prop := SliceIn w v l.length (kcells k l)
theorem IntsIn.ext {w w' : World} (hE : Ext w w') {v : Value} {k : IntKind} {l : List Int} (h : IntsIn w v k l) : IntsIn w' v k l := SliceIn.ext hE h

theorem read_ints {P : Program} {H : Type} {enc : TypeId × Value → H} {W : World} {base : Nat} {t e : TypeId} {k : IntKind} {v : Value} {d : DataW H} {p : List MemPlace} (ht : P.underlying t = some (.slice e)) (he : P.underlying e = some (.int k)) (hc : P.cellsOf e = 1)
    (hv : Value.okWide P W .any base t v) (h : DataW.Trod enc P W 0 (fun _ => true) true t v d p) : ∃ l : List Int, IntsIn W v k l ∧ ∀ n ∈ l, (Lit.int k n).wf = true := by
  obtain ⟨a, len, cap, rfl⟩ := okWide_slice ht hv
  obtain ⟨fuel, hf⟩ := h
  rcases open_ints ht he hc hf with ⟨hcs, _⟩ | ⟨x, l, c, zs, hcs, _, hl, hm, hz, _, hcell, hwz⟩
  · simp [Value.cells] at hcs
    obtain ⟨rfl, rfl, rfl⟩ := hcs
    exact ⟨[], SliceIn.nil W, by simp⟩
  · simp [Value.cells] at hcs
    obtain ⟨rfl, rfl, rfl⟩ := hcs
    have hz' : zs.length = cap := by simpa using hz
    refine ⟨zs.take len, ?_, fun n hn => hwz n (List.mem_of_mem_take hn)⟩
    have hlen : (zs.take len).length = len := by simp; omega
    unfold IntsIn
    rw [hlen]
    refine ⟨some x, cap, rfl, hl, hm, nofun, fun j u hj => ?_⟩
    rw [kcells_get, List.getElem?_take] at hj
    split at hj
    · rename_i hlt
      have hjz : j < zs.length := by omega
      have hc := hcell j hjz
      have h0 := hcell 0 (by omega)
      obtain ⟨b, o, s⟩ := x
      have hs : s = none := by
        cases s with
        | none => rfl
        | some s =>
          simp only [Addr.add, if_pos] at h0
          unfold World.cell? at h0
          split at h0 <;> simp at h0
      subst hs
      refine ⟨b, o, rfl, ?_⟩
      rw [Addr.add_lit] at hc
      rw [hc, List.getD_eq_getElem?_getD]
      rw [List.getElem?_eq_getElem hjz] at hj ⊢
      simp at hj ⊢
      exact hj
    · cases hj
end Go.Proofs.YthhhbmeceilkhaaDoor

/- A slice of bytes that comes in; a prefix of a slice of bytes; texts put together. -/
namespace Go.Proofs.YthhhbmeceilkhaaDoor
open Go Go.RowKit

theorem bytes_of_ints {w : World} {v : Value} {z : List Int} (h : IntsIn w v .u8 z) (hw : ∀ n ∈ z, (Lit.int .u8 n).wf = true) : ∃ l : List UInt8, BytesIn w v l := by
  refine ⟨z.map fun n => UInt8.ofNat n.toNat, ?_⟩
  have e : bcells (z.map fun n => UInt8.ofNat n.toNat) = kcells .u8 z := by
    unfold bcells kcells
    rw [List.map_map]
    refine List.map_congr_left fun n hn => ?_
    have := wf_u8 (hw n hn)
    simp only [Function.comp]
    rw [byte_of this.1 this.2]
  unfold BytesIn
  rw [e, List.length_map]
  exact h

theorem cs99 : (#[Value.int .u8 99] : Array Value).toList = bcells [99] := rfl
theorem BytesIn.cut {w : World} {a : Option Addr} {n c : Nat} {l m : List UInt8} (h : BytesIn w (.slice a n c) (l ++ m)) : BytesIn w (.slice a l.length c) l := by
  obtain ⟨a', c', e, hc, hcm, ha, hcell⟩ := h
  cases e
  exact ⟨a, c, rfl, by simp at hc; omega, hcm, ha, fun j u hj => hcell j u (by rw [bcells_append, List.getElem?_append_left (by have := (List.getElem?_eq_some_iff.1 hj).1; exact this)]; exact hj)⟩

theorem strz_app (l m : List UInt8) : str l ++ str m = str (l ++ m) := by
  apply ByteArray.ext
  simp [str]
end Go.Proofs.YthhhbmeceilkhaaDoor
