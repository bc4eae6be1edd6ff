/- 'make([]T, n)' of structs as a variable's block; 'copy' over the whole of it. -/
import Derived.Test.YtkiodandnjbhoaaDoorGrow
import Derived.Laws.CopyOwn
import Derived.Laws.MakeOwn
import Derived.OwnWalk
namespace Go.Proofs.YtkiodandnjbhoaaDoor
open Go Go.RowKit

theorem wpList_make_box {P : Program} (w : World) {ops : Array Oper} {rest : List Oper} {o : Oper} {a : Act} {Q : Exit → Act → World → Prop} {t e : TypeId} {z : Value} {size bytes : Nat}
    (info : (P.info? e).map (fun i => (i.zero, i.size, i.bytes)) = some (some z, size, bytes)) (und : P.underlying t = some (.slice e))
    (hg : o.guard = none) (l c : Operand) (hop : o.op = Op.makeSlice t l c)
    (kl kc : IntKind) (n : Nat) (hl : a.eval l = .int kl n) (hc : a.eval c = .int kc n) (b2 : bytes * n ≤ 281474976710656) (b3 : n ≤ maxLen)
    (hK : ∀ w' Z, BoxAt w' w.heap.size Z e → Z.size = n * size → Ext w w' → wpList P ops Q rest (a.put o.dst (.slice (some ⟨w.heap.size, 0, none⟩) n n)) w') :
    wpList P ops Q (o :: rest) a w := by
  obtain ⟨i0, hi, hz0, hz1, hz2⟩ := info_parts info
  refine wpList_plain hg fun K hK' => ?_
  unfold maxLen at b3
  have hb' : (i0.bytes : Int) * (n : Int) ≤ 281474976710656 := by
    have h : ((bytes * n : Nat) : Int) ≤ 281474976710656 := by omega
    rw [hz2]
    rwa [Int.natCast_mul] at h
  have hr := run_make (P := P) w t e i0 z und hi hz0 kl kc n n (by omega) (Int.le_refl _) hb' (by omega)
  simp only [Int.toNat_natCast] at hr
  unfold Oper.wp
  simp [execOp, hop, hl, hc, hr, Result.andThen]
  exact hK' _ _ (hK _ _ (BoxAt.made w _ _) (by rw [size_madeCells, hz1]) ((Ext.refl w).alloc _))

theorem run_copyS {P : Program} (w : World) (dT sT ty elem : TypeId) (size n : Nat) (g dCap : Nat) (a : Option Addr) (sCap : Nat) (cur : Array Value) (t : TypeId) (cs : List Value)
    (hu : P.underlying dT = some (.slice elem)) (hs : (P.info? elem).map (·.size) = some size)
    (hg : BoxAt w g cur t) (hn : cs.length = n * size) (hcur : cur.size = n * size)
    (ha : a = none → n = 0) (hsrc : ∀ ad, a = some ad → ∀ j v, cs[j]? = some v → w.cell? (ad.add j) = some v) (h1 : ∀ v ∈ cs, v.oneCell' = true) :
    (Builtin.copy_ #[dT, sT] ty #[.slice (some ⟨g, 0, none⟩) n dCap, .slice a n sCap]).run P w = .ok (goInt n) (w.setRow g cs.toArray) := by
  have hst := run_storeCells_at P g 0 t cs 0 cur w hg (by omega) h1
  have e1 : cur.toList.take 0 ++ cs ++ cur.toList.drop (0 + 0 + cs.length) = cs := by
    rw [List.drop_eq_nil_of_le (by simp; omega)]
    simp
  simp only [Nat.zero_add] at hst e1
  rw [e1] at hst
  cases hq : P.info? elem with
  | none => simp [hq] at hs
  | some i =>
    have hi : i.size = size := by simpa [hq] using hs
    cases a with
    | none =>
      obtain rfl := ha rfl
      obtain rfl : cs = [] := List.eq_nil_of_length_eq_zero (by omega)
      simp [Builtin.copy_, run_underlying hu, Builtin.lenOf, Builtin.firstCells, sizeOf, typeInfo, hq, hi, hst]
    | some ad =>
      have hl := run_loadCells_list (P := P) w ad cs (hsrc ad rfl)
      rw [hn] at hl
      simp [Builtin.copy_, run_underlying hu, Builtin.lenOf, Builtin.firstCells, sizeOf, typeInfo, hq, hi, hl, hst]

theorem wpList_copy_box {P : Program} (w : World) {ops : Array Oper} {rest : List Oper} {o : Oper} {a : Act} {Q : Exit → Act → World → Prop} {dT sT elem : TypeId} {z : Value} {size bytes : Nat}
    (info : (P.info? elem).map (fun i => (i.zero, i.size, i.bytes)) = some (some z, size, bytes)) (und : P.underlying dT = some (.slice elem)) (hgd : o.guard = none) (d s : Operand)
    (ho : o.op = .call { callee := .builtin .copy, args := #[d, s], argTypes := #[dT, sT] }) (n g dCap : Nat) (hd : a.eval d = .slice (some ⟨g, 0, none⟩) n dCap) (u : Value) (hs : a.eval s = u)
    (cur : Array Value) (t : TypeId) (hb : BoxAt w g cur t) (hcur : cur.size = n * size) (xs : List Value) (hx : xs.length = n * size) (hin : SliceIn w u n xs) (h1 : ∀ v ∈ xs, v.oneCell' = true)
    (h : ∀ w', BoxAt w' g xs.toArray t → w.grownBy w' (some g) → wpList P ops Q rest (a.put o.dst (goInt n)) w') : wpList P ops Q (o :: rest) a w := by
  obtain ⟨i0, hi, hz0, hz1, hz2⟩ := info_parts info
  obtain ⟨ad, c, rfl, hc, hcm, ha, hcell⟩ := hin
  have hrun := run_copyS (P := P) w dT sT o.type elem size n g dCap ad c cur t xs und (by rw [hi]; simpa using hz1) hb hx hcur (fun e => by have := ha e; omega) (fun a' e j v hj => by
    obtain ⟨b, o', e', h'⟩ := hcell j v hj
    rw [e] at e'
    cases e'
    rw [Addr.add_lit]
    exact h') h1
  refine wpList_plain hgd fun K hK => ?_
  unfold Oper.wp
  simp [execOp, ho, resolve, invoke, builtin, hd, hs, hrun, Result.andThen]
  exact hK _ _ (h _ (setRow_heap w g _ _ t _ hb) ⟨rfl, rfl, rfl, by simp, fun k hk hne => setRow_other w g k _ (fun e => hne (by rw [e]))⟩)
end Go.Proofs.YtkiodandnjbhoaaDoor
