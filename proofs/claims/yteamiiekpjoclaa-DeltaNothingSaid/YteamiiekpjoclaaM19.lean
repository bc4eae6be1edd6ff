/- Cells by numbers may be; the names of columns rise. -/
import Derived.Test.YteamiiekpjoclaaM18
import Derived.Test.YteamiiekpjoclaaM17
import Derived.Test.YteamiiekpjoclaaM7
import Derived.Test.YteamiiekpjoclaaM2
import Derived.Laws.CopyOwn
import Derived.Laws.MakeOwn
import Derived.OwnWalk
namespace Go.Proofs.Yteamiiekpjoclaa
open Go Go.RowKit

theorem cellN_ok (n : Int) (h0 : 0 ≤ n) : checkC (cellN n).val (cellN n).dead (cellN n).at_ (cellN n).fin = true ∧ 0 < (cellN n).at_ := by
  have xs : ∀ i : Nat, i < 3 → ((⟨#[120, 121, 122]⟩ : ByteArray).extract i (i + 1)).size = 1 := by decide
  unfold cellN
  split
  · unfold checkC stampB
    have h1 : ¬ 1 + n % 7 = 0 := by omega
    simp [h1]
    omega
  · have e1 : (n / 28 % 3 + 1).toNat = (n / 28 % 3).toNat + 1 := by omega
    have e2 := xs (n / 28 % 3).toNat (by omega)
    rw [← e1] at e2
    have h1 : ¬ 1 + n % 7 = 0 := by omega
    unfold checkC stampB
    simp [h1, e2]
    split <;> omega
theorem nm_less (j k : Nat) (h : j < k) (hk : k < 4) : Op.bytesLess (nmK j).toList (nmK k).toList = true := by
  obtain ⟨rfl, rfl⟩ | ⟨rfl, rfl⟩ | ⟨rfl, rfl⟩ | ⟨rfl, rfl⟩ | ⟨rfl, rfl⟩ | ⟨rfl, rfl⟩ : (j = 0 ∧ k = 1) ∨ (j = 0 ∧ k = 2) ∨ (j = 0 ∧ k = 3) ∨ (j = 1 ∧ k = 2) ∨ (j = 1 ∧ k = 3) ∨ (j = 2 ∧ k = 3) := by omega
  all_goals (simp only [nmK, ByteArray.toList_eq]; decide)
end Go.Proofs.Yteamiiekpjoclaa

/- Rows by numbers: names rise; what joins make of them is such a row. -/
namespace Go.Proofs.Yteamiiekpjoclaa
open Go Go.RowKit

theorem nm_cmp {j k : Nat} (h : j < k) (hk : k < 4) : cmpB (nmK j).data.toList (nmK k).data.toList < 0 := by
  have h1 := nm_less j k h hk
  rw [ByteArray.toList_eq, ByteArray.toList_eq] at h1
  rw [cmpB_less, if_pos h1]
  decide
/-- A column of a row by numbers. -/
def NumCo (c : Co) : Prop := (∃ j, j < 4 ∧ c.name = nmK j) ∧ checkC c.cell.val c.cell.dead c.cell.at_ c.cell.fin = true ∧ 0 < c.cell.at_
theorem GenCols.num {k : Nat} {l : List Co} (h : GenCols k l) : k ≤ 4 → Up kCo l ∧ (∀ c ∈ l, NumCo c) ∧ ∀ c ∈ l, ∃ j, j < k ∧ c.name = nmK j := by
  induction h with
  | nil => exact fun _ => ⟨List.Pairwise.nil, nofun, nofun⟩
  | skip _ ih =>
    intro hk
    obtain ⟨h1, h2, h3⟩ := ih (by omega)
    exact ⟨h1, h2, fun c hc => let ⟨j, hj, e⟩ := h3 c hc; ⟨j, by omega, e⟩⟩
  | @put k l n _ hn ih =>
    intro hk
    obtain ⟨h1, h2, h3⟩ := ih (by omega)
    obtain ⟨c1, c2⟩ := cellN_ok n hn
    refine ⟨List.pairwise_append.2 ⟨h1, List.pairwise_singleton .., fun a ha b hb => ?_⟩, fun c hc => ?_, fun c hc => ?_⟩
    · obtain ⟨j, hj, e⟩ := h3 a ha
      rw [List.mem_singleton.1 hb]
      unfold kCo
      rw [e]
      exact nm_cmp hj (by omega)
    · rcases List.mem_append.1 hc with hc | hc
      · exact h2 c hc
      · rw [List.mem_singleton.1 hc]
        exact ⟨⟨k, by omega, rfl⟩, c1, c2⟩
    · rcases List.mem_append.1 hc with hc | hc
      · obtain ⟨j, hj, e⟩ := h3 c hc
        exact ⟨j, by omega, e⟩
      · rw [List.mem_singleton.1 hc]
        exact ⟨k, by omega, rfl⟩
/-- A row by numbers, or a join of such. -/
structure NumRow (r : Ro) : Prop where
  live : GenLive r.live
  gone : 0 ≤ r.gone ∧ r.gone ≤ 7
  shade : r.shade = 0
  up : Up kCo r.cols
  cols : ∀ c ∈ r.cols, NumCo c
theorem GenRow.num {r : Ro} (h : GenRow r) : NumRow r := ⟨h.live, h.gone, h.shade, (h.cols.num (Nat.le_refl _)).1, (h.cols.num (Nat.le_refl _)).2.1⟩
theorem num_mergeCo {l m : List Co} (hl : ∀ c ∈ l, NumCo c) (hm : ∀ c ∈ m, NumCo c) : ∀ c ∈ mergeCo l m, NumCo c := by
  intro c hc
  rcases mem_mergeCo hc with (h | h) | ⟨a, ha, b, hb, e, rfl⟩
  · exact hl c h
  · exact hm c h
  · obtain ⟨a1, a2, a3⟩ := hl a ha
    obtain ⟨b1, b2, b3⟩ := hm b hb
    rcases joinCl_or a.cell b.cell with h | h
    · exact ⟨a1, by rw [h]; exact a2, by rw [h]; exact a3⟩
    · exact ⟨a1, by rw [h]; exact b2, by rw [h]; exact b3⟩
theorem NumRow.join {a b : Ro} (ha : NumRow a) (hb : NumRow b) : NumRow (joinRo a b) := by
  refine ⟨?_, ?_, ?_, mergeCo_up ha.up hb.up, num_mergeCo ha.cols hb.cols⟩
  · rcases joinCl_or a.live b.live with h | h
    · show GenLive (joinCl a.live b.live); rw [h]; exact ha.live
    · show GenLive (joinCl a.live b.live); rw [h]; exact hb.live
  · have := ha.gone; have := hb.gone
    show 0 ≤ max a.gone b.gone ∧ max a.gone b.gone ≤ 7
    omega
  · show max a.shade b.shade = 0
    rw [ha.shade, hb.shade]; rfl
theorem NumRow.len {r : Ro} (h : NumRow r) : r.cols.length ≤ 4 :=
  h.up.len (K := [(nmK 0).data.toList, (nmK 1).data.toList, (nmK 2).data.toList, (nmK 3).data.toList]) fun c hc => by
    obtain ⟨⟨j, hj, e⟩, _⟩ := h.cols c hc
    unfold kCo
    rw [e]
    obtain rfl | rfl | rfl | rfl : j = 0 ∨ j = 1 ∨ j = 2 ∨ j = 3 := by omega
    all_goals simp
end Go.Proofs.Yteamiiekpjoclaa

/- 'make([]T, n)' of structs as a variable's block; 'copy' over the whole of it. -/
namespace Go.Proofs.Yteamiiekpjoclaa
open Go Go.RowKit

theorem wpList_make_box {P : Program} (w : World) {ops : Array Oper} {rest : List Oper} {o : Oper} {a : Act} {Q : Exit → Act → World → Prop} {t e : TypeId} {z : Value} {size bytes : Nat}
    (info : (P.info? e).map (fun i => (i.zero, i.size, i.bytes)) = some (some z, size, bytes)) (und : P.underlying t = some (.slice e))
    (hg : o.guard = none) (l c : Operand) (hop : o.op = Op.makeSlice t l c)
    (kl kc : IntKind) (n : Nat) (hl : a.eval l = .int kl n) (hc : a.eval c = .int kc n) (b2 : bytes * n ≤ 281474976710656) (b3 : n ≤ maxLen)
    (hK : ∀ w' Z, BoxAt w' w.heap.size Z e → Z.size = n * size → Ext w w' → wpList P ops Q rest (a.put o.dst (.slice (some ⟨w.heap.size, 0, none⟩) n n)) w') :
    wpList P ops Q (o :: rest) a w := by
  obtain ⟨i0, hi, hz0, hz1, hz2⟩ := info_parts info
  refine wpList_plain hg fun K hK' => ?_
  unfold maxLen at b3
  have hb' : (i0.bytes : Int) * (n : Int) ≤ 281474976710656 := by
    have h : ((bytes * n : Nat) : Int) ≤ 281474976710656 := by omega
    rw [hz2]
    rwa [Int.natCast_mul] at h
  have hr := run_make (P := P) w t e i0 z und hi hz0 kl kc n n (by omega) (Int.le_refl _) hb' (by omega)
  simp only [Int.toNat_natCast] at hr
  unfold Oper.wp
  simp [execOp, hop, hl, hc, hr, Result.andThen]
  exact hK' _ _ (hK _ _ (BoxAt.made w _ _) (by rw [size_madeCells, hz1]) ((Ext.refl w).alloc _))

theorem run_copyS {P : Program} (w : World) (dT sT ty elem : TypeId) (size n : Nat) (g dCap : Nat) (a : Option Addr) (sCap : Nat) (cur : Array Value) (t : TypeId) (cs : List Value)
    (hu : P.underlying dT = some (.slice elem)) (hs : (P.info? elem).map (·.size) = some size)
    (hg : BoxAt w g cur t) (hn : cs.length = n * size) (hcur : cur.size = n * size)
    (ha : a = none → n = 0) (hsrc : ∀ ad, a = some ad → ∀ j v, cs[j]? = some v → w.cell? (ad.add j) = some v) (h1 : ∀ v ∈ cs, v.oneCell' = true) :
    (Builtin.copy_ #[dT, sT] ty #[.slice (some ⟨g, 0, none⟩) n dCap, .slice a n sCap]).run P w = .ok (goInt n) (w.setRow g cs.toArray) := by
  have hst := run_storeCells_at P g 0 t cs 0 cur w hg (by omega) h1
  have e1 : cur.toList.take 0 ++ cs ++ cur.toList.drop (0 + 0 + cs.length) = cs := by
    rw [List.drop_eq_nil_of_le (by simp; omega)]
    simp
  simp only [Nat.zero_add] at hst e1
  rw [e1] at hst
  cases hq : P.info? elem with
  | none => simp [hq] at hs
  | some i =>
    have hi : i.size = size := by simpa [hq] using hs
    cases a with
    | none =>
      obtain rfl := ha rfl
      obtain rfl : cs = [] := List.eq_nil_of_length_eq_zero (by omega)
      simp [Builtin.copy_, run_underlying hu, Builtin.lenOf, Builtin.firstCells, sizeOf, typeInfo, hq, hi, hst]
    | some ad =>
      have hl := run_loadCells_list (P := P) w ad cs (hsrc ad rfl)
      rw [hn] at hl
      simp [Builtin.copy_, run_underlying hu, Builtin.lenOf, Builtin.firstCells, sizeOf, typeInfo, hq, hi, hl, hst]

theorem wpList_copy_box {P : Program} (w : World) {ops : Array Oper} {rest : List Oper} {o : Oper} {a : Act} {Q : Exit → Act → World → Prop} {dT sT elem : TypeId} {z : Value} {size bytes : Nat}
    (info : (P.info? elem).map (fun i => (i.zero, i.size, i.bytes)) = some (some z, size, bytes)) (und : P.underlying dT = some (.slice elem)) (hgd : o.guard = none) (d s : Operand)
    (ho : o.op = .call { callee := .builtin .copy, args := #[d, s], argTypes := #[dT, sT] }) (n g dCap : Nat) (hd : a.eval d = .slice (some ⟨g, 0, none⟩) n dCap) (u : Value) (hs : a.eval s = u)
    (cur : Array Value) (t : TypeId) (hb : BoxAt w g cur t) (hcur : cur.size = n * size) (xs : List Value) (hx : xs.length = n * size) (hin : SliceIn w u n xs) (h1 : ∀ v ∈ xs, v.oneCell' = true)
    (h : ∀ w', BoxAt w' g xs.toArray t → w.grownBy w' (some g) → wpList P ops Q rest (a.put o.dst (goInt n)) w') : wpList P ops Q (o :: rest) a w := by
  obtain ⟨i0, hi, hz0, hz1, hz2⟩ := info_parts info
  obtain ⟨ad, c, rfl, hc, hcm, ha, hcell⟩ := hin
  have hrun := run_copyS (P := P) w dT sT o.type elem size n g dCap ad c cur t xs und (by rw [hi]; simpa using hz1) hb hx hcur (fun e => by have := ha e; omega) (fun a' e j v hj => by
    obtain ⟨b, o', e', h'⟩ := hcell j v hj
    rw [e] at e'
    cases e'
    rw [Addr.add_lit]
    exact h') h1
  refine wpList_plain hgd fun K hK => ?_
  unfold Oper.wp
  simp [execOp, ho, resolve, invoke, builtin, hd, hs, hrun, Result.andThen]
  exact hK _ _ (h _ (setRow_heap w g _ _ t _ hb) ⟨rfl, rfl, rfl, by simp, fun k hk hne => setRow_other w g k _ (fun e => hne (by rw [e]))⟩)
end Go.Proofs.Yteamiiekpjoclaa
