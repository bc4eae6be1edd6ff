/- Place: any number as one below another. -/
import Derived.Test.YthhhbmeceilkhaaDoorR1
import Derived.Test.YthhhbmeceilkhaaDoorR2
import Derived.Test.YthhhbmeceilkhaaDoorProg
import Derived.Test.YthhhbmeceilkhaaDoorR3
import Derived.Test.YthhhbmeceilkhaaDoorR4
import Derived.ProofKit
import Derived.SliceStrings
import Derived.WideShapes
import Derived.OpenShut
set_option linter.unusedSimpArgs false
set_option linter.unusedVariables false
namespace Go.Proofs.YthhhbmeceilkhaaDoor
open Go Go.RowKit

set_option maxHeartbeats 400000 in
theorem place_any (v n : Int) (h : 1 ≤ n) (hn : n ≤ 9223372036854775807) (w : World) :
    Calls Tryd.prog 14 #[.int .i64 v, .int .i64 n] w fun e w' => e = .returned (.int .i64 (v % n)) ∧ w = w' := by
  have hlo := (tmod_lo (v := v) h).1
  have hhi := (tmod_lo (v := v) h).2
  by_cases h0 : v.tmod n < 0
  · have HE := Lib.hid (tmod_neg h h0)
    go_enter Tryd.func14, Tryd.ntmps14
    go_wp2
    go_ret
    exact ⟨ret_int HE.out, rfl⟩
  · have h0' : 0 ≤ v.tmod n := by omega
    have HE := Lib.hid (tmod_pos h h0')
    go_enter Tryd.func14, Tryd.ntmps14
    go_wp2
    go_ret
    exact ⟨ret_int HE.out, rfl⟩

end Go.Proofs.YthhhbmeceilkhaaDoor

/- b[:hi], b[lo:] of a slice of bytes, as opaque values. -/
namespace Go.Proofs.YthhhbmeceilkhaaDoor
open Go Go.RowKit

section
variable {ops : Array Oper} {Q : Exit → Act → World → Prop} {a : Act} {w : World} {rest : List Oper} {o : Oper}
theorem run_subTo {ad : Option Addr} {n c hi : Nat} (h2 : hi ≤ n) (h3 : n ≤ c) (w : World) :
    ∃ v, (Instr.sliceAt 22 (.slice ad n c) none (some (.int .i64 (hi : Int))) none).run Tryd.prog w = .ok v w ∧ v = subV ad c 0 hi := by
  obtain ⟨i, hi', hs⟩ := Option.map_eq_some_iff.1 size_u8
  have e2 : (0 : Int) ≤ (hi : Int) ∧ (hi : Int) ≤ (c : Int) := ⟨by omega, by omega⟩
  have e4 : hi ≤ c := by omega
  refine ⟨_, ?_, rfl⟩
  simp [Instr.sliceAt, Instr.slice, Instr.sliceBounds, Instr.sliceBound, run_underlying und_bytes, sizeOf, typeInfo, hi', hs, go_sem, e2, e4, subV]
theorem run_subFrom {ad : Option Addr} {n c lo : Nat} (h1 : lo ≤ n) (h3 : n ≤ c) (w : World) :
    ∃ v, (Instr.sliceAt 22 (.slice ad n c) (some (.int .i64 (lo : Int))) none none).run Tryd.prog w = .ok v w ∧ v = subV ad c lo n := by
  obtain ⟨i, hi', hs⟩ := Option.map_eq_some_iff.1 size_u8
  have e1 : (0 : Int) ≤ (lo : Int) ∧ (lo : Int) ≤ (n : Int) := ⟨by omega, by omega⟩
  have e2 : (0 : Int) ≤ (n : Int) ∧ (n : Int) ≤ (c : Int) := ⟨by omega, by omega⟩
  refine ⟨_, ?_, rfl⟩
  simp [Instr.sliceAt, Instr.slice, Instr.sliceBounds, Instr.sliceBound, run_underlying und_bytes, sizeOf, typeInfo, hi', hs, go_sem, e1, e2, h1, h3, subV]
theorem wpList_subTo (hw : Region.wanted o (yielded ops a.tmps) = true) (s y : Operand) (hop : o.op = Op.slice 22 s none (some y) none) {ad : Option Addr} {c hi : Nat} {l : List UInt8} (hs : a.eval s = .slice ad l.length c) (hy : a.eval y = .int .i64 (hi : Int))
    (h : BytesIn w (.slice ad l.length c) l) (h2 : hi ≤ l.length) (hK : ∀ u, BytesIn w u (l.take hi) → wpList Tryd.prog ops Q rest (a.put o.dst u) w) : wpList Tryd.prog ops Q (o :: rest) a w := by
  have hlc : l.length ≤ c := by obtain ⟨a', c', e, hc, _⟩ := h; cases e; exact hc
  obtain ⟨v, hr, rfl⟩ := run_subTo (ad := ad) h2 hlc w
  unfold wpList
  rw [if_pos hw]
  refine .inl (yields_wp (R := fun v w' => v = subV ad c 0 hi ∧ w' = w) ?_ fun v w' ⟨e1, e2⟩ => by rw [e1, e2]; exact hK _ (by have := sub_bytes (lo := 0) h (by omega) h2; simpa using this))
  unfold yields execOp
  simp only [hop, Option.map_some, Option.map_none, hs, hy, Sem.run_bind, hr, Result.andThen_ok, Sem.run_pure]
  exact ⟨rfl, rfl⟩
theorem wpList_subFrom (hw : Region.wanted o (yielded ops a.tmps) = true) (s x : Operand) (hop : o.op = Op.slice 22 s (some x) none none) {ad : Option Addr} {c lo : Nat} {l : List UInt8} (hs : a.eval s = .slice ad l.length c) (hx : a.eval x = .int .i64 (lo : Int))
    (h : BytesIn w (.slice ad l.length c) l) (h1 : lo ≤ l.length) (hK : ∀ u, BytesIn w u (l.drop lo) → wpList Tryd.prog ops Q rest (a.put o.dst u) w) : wpList Tryd.prog ops Q (o :: rest) a w := by
  have hlc : l.length ≤ c := by obtain ⟨a', c', e, hc, _⟩ := h; cases e; exact hc
  obtain ⟨v, hr, rfl⟩ := run_subFrom (ad := ad) h1 hlc w
  unfold wpList
  rw [if_pos hw]
  refine .inl (yields_wp (R := fun v w' => v = subV ad c lo l.length ∧ w' = w) ?_ fun v w' ⟨e1, e2⟩ => by rw [e1, e2]; exact hK _ (by have := sub_bytes (hi := l.length) h h1 (Nat.le_refl _); rwa [List.take_of_length_le (by simp)] at this))
  unfold yields execOp
  simp only [hop, Option.map_some, Option.map_none, hs, hx, Sem.run_bind, hr, Result.andThen_ok, Sem.run_pure]
  exact ⟨rfl, rfl⟩
end
end Go.Proofs.YthhhbmeceilkhaaDoor

/- A slice of texts that comes in, read. -/
namespace Go.Proofs.YthhhbmeceilkhaaDoor
open Go Go.RowKit Go.ChangeShapes Go.WideShapes Go.ChangeAt

theorem str_data (s : ByteArray) : str s.data.toList = s := by cases s; simp [str]
theorem scells_texts (ss : List ByteArray) : scells (ss.map fun s => s.data.toList) = ss.map Value.string := by simp [scells, str_data, Function.comp_def]

theorem read_strs {P : Program} {H : Type} {enc : TypeId × Value → H} {W : World} {base : Nat} {t e : TypeId} {v : Value} {d : DataW H} {p : List MemPlace} (ht : P.underlying t = some (.slice e)) (he : P.underlying e = some .string) (hc : P.cellsOf e = 1)
    (hv : Value.okWide P W .any base t v) (h : DataW.Trod enc P W 0 (fun _ => true) true t v d p) : ∃ l : List (List UInt8), StrsIn W v l ∧ ∀ x ∈ l, x.length ≤ maxLen := by
  obtain ⟨a, len, cap, rfl⟩ := okWide_slice ht hv
  obtain ⟨fuel, hf⟩ := h
  rcases open_strings ht he hc hf with ⟨hcs, _⟩ | ⟨x, l, c, zs, hcs, _, hl, hm, hz, _, hcell, hwz⟩
  · simp [Value.cells] at hcs
    obtain ⟨rfl, rfl, rfl⟩ := hcs
    exact ⟨[], SliceIn.nil W, by simp⟩
  · simp [Value.cells] at hcs
    obtain ⟨rfl, rfl, rfl⟩ := hcs
    have hz' : zs.length = cap := by simpa using hz
    refine ⟨(zs.take len).map fun s => s.data.toList, ?_, fun n hn => ?_⟩
    · have hlen : (zs.take len).length = len := by simp; omega
      unfold StrsIn
      rw [scells_texts, List.length_map, hlen]
      refine ⟨some x, cap, rfl, hl, hm, nofun, fun j u hj => ?_⟩
      rw [List.getElem?_map, List.getElem?_take] at hj
      split at hj
      · rename_i hlt
        have hjz : j < zs.length := by omega
        have hc := hcell j hjz
        have h0 := hcell 0 (by omega)
        obtain ⟨b, o, s⟩ := x
        have hs : s = none := by
          cases s with
          | none => rfl
          | some s =>
            simp only [Addr.add, if_pos] at h0
            unfold World.cell? at h0
            split at h0 <;> simp at h0
        subst hs
        refine ⟨b, o, rfl, ?_⟩
        rw [Addr.add_lit] at hc
        rw [hc, List.getD_eq_getElem?_getD]
        rw [List.getElem?_eq_getElem hjz] at hj ⊢
        simp at hj ⊢
        exact hj
      · cases hj
    · obtain ⟨s, hs, rfl⟩ := List.mem_map.1 hn
      have := hwz s (List.mem_of_mem_take hs)
      simpa using this
end Go.Proofs.YthhhbmeceilkhaaDoor

/- The xor of two bytes is a byte. -/
namespace Go.Proofs.YthhhbmeceilkhaaDoor
open Go Go.RowKit
theorem xor_u8 (x y : Int) : 0 ≤ bits .xor .u8 x y ∧ bits .xor .u8 x y < 256 := by
  unfold bits
  exact wf_u8 (Go.wf_wrap _ _)
end Go.Proofs.YthhhbmeceilkhaaDoor
