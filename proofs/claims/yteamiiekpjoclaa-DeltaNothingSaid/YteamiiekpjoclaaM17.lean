/- Joins of rows and of partitions are one way: plain laws of rising rows; the least that is above some. -/
import Derived.Test.YteamiiekpjoclaaM15
import Derived.Test.YteamiiekpjoclaaM16
import Derived.Test.YteamiiekpjoclaaM9
import Derived.Test.YteamiiekpjoclaaM3
import Derived.Test.YteamiiekpjoclaaM5
namespace Go.Proofs.Yteamiiekpjoclaa
open Go Go.RowKit

def kRo (r : Ro) : List UInt8 := r.key.data.toList
theorem kRo_join (a b : Ro) : kRo (joinRo a b) = kRo a := rfl
theorem mergeRo_K (l m : List Ro) : mergeRo l m = mergeK kRo joinRo l m := rfl
theorem key_of_k {a b : Ro} (h : kRo a = kRo b) : a.key = b.key := by
  apply ByteArray.ext
  exact Array.toList_inj.1 h
theorem joinRo_comm {a b : Ro} (h : a.key = b.key) (ha : Up kCo a.cols) (hb : Up kCo b.cols) : joinRo a b = joinRo b a := by
  unfold joinRo
  rw [h, joinCl_comm a.live, mergeCo_comm ha hb, Int.max_comm a.gone, Int.max_comm a.shade]
theorem joinRo_assoc {a b c : Ro} (ha : Up kCo a.cols) (hb : Up kCo b.cols) (hc : Up kCo c.cols) : joinRo (joinRo a b) c = joinRo a (joinRo b c) := by
  unfold joinRo
  simp only [joinCl_assoc, mergeCo_assoc ha hb hc, Int.max_assoc]
theorem joinRo_self {a : Ro} (ha : Up kCo a.cols) : joinRo a a = a := by
  unfold joinRo
  rw [joinCl_self, mergeCo_self ha, Int.max_self, Int.max_self]
theorem joinRo_again {a b : Ro} (ha : Up kCo a.cols) (hb : Up kCo b.cols) : joinRo (joinRo a b) b = joinRo a b := by rw [joinRo_assoc ha hb hb, joinRo_self hb]
/-- Rising rows of rising columns. -/
def GoodRs (l : List Ro) : Prop := Up kRo l ∧ ∀ r ∈ l, Up kCo r.cols
theorem mem_mergeRs {l m : List Ro} {x : Ro} (h : x ∈ mergeRo l m) : (x ∈ l ∨ x ∈ m) ∨ ∃ a ∈ l, ∃ b ∈ m, a.key = b.key ∧ x = joinRo a b := by
  unfold mergeRo at h
  fun_induction mergeG keyR joinRo l m with
  | case1 m => exact .inl (.inr h)
  | case2 a l => exact .inl (.inl h)
  | case3 a l b m hc ih =>
    rcases List.mem_cons.1 h with rfl | h
    · exact .inl (.inl (List.mem_cons_self ..))
    · rcases ih h with (h | h) | ⟨y, hy, z, hz, e⟩
      · exact .inl (.inl (List.mem_cons_of_mem _ h))
      · exact .inl (.inr h)
      · exact .inr ⟨y, List.mem_cons_of_mem _ hy, z, hz, e⟩
  | case4 a l b m hc hc' ih =>
    rcases List.mem_cons.1 h with rfl | h
    · exact .inl (.inr (List.mem_cons_self ..))
    · rcases ih h with (h | h) | ⟨y, hy, z, hz, e⟩
      · exact .inl (.inl h)
      · exact .inl (.inr (List.mem_cons_of_mem _ h))
      · exact .inr ⟨y, hy, z, List.mem_cons_of_mem _ hz, e⟩
  | case5 a l b m hc hc' ih =>
    rcases List.mem_cons.1 h with rfl | h
    · exact .inr ⟨a, List.mem_cons_self .., b, List.mem_cons_self .., key_of_k (cmpB_zero (show cmpB (kRo a) (kRo b) = 0 by have h1 : keyR a b = cmpB (kRo a) (kRo b) := rfl; omega)), rfl⟩
    · rcases ih h with (h | h) | ⟨y, hy, z, hz, e⟩
      · exact .inl (.inl (List.mem_cons_of_mem _ h))
      · exact .inl (.inr (List.mem_cons_of_mem _ h))
      · exact .inr ⟨y, List.mem_cons_of_mem _ hy, z, List.mem_cons_of_mem _ hz, e⟩
theorem GoodRs.merge {l m : List Ro} (hl : GoodRs l) (hm : GoodRs m) : GoodRs (mergeRo l m) := by
  refine ⟨hl.1.merge kRo_join hm.1, fun r hr => ?_⟩
  rcases mem_mergeRs hr with (h | h) | ⟨a, ha, b, hb, _, rfl⟩
  · exact hl.2 r h
  · exact hm.2 r h
  · exact mergeCo_up (hl.2 a ha) (hm.2 b hb)
theorem GoodRs.nil : GoodRs [] := ⟨List.Pairwise.nil, nofun⟩
theorem mergeRo_comm {l m : List Ro} (hl : GoodRs l) (hm : GoodRs m) : mergeRo l m = mergeRo m l := mergeK_comm kRo_join hl.1 hm.1 fun a ha b hb h => joinRo_comm (key_of_k h) (hl.2 a ha) (hm.2 b hb)
theorem mergeRo_assoc {l m n : List Ro} (hl : GoodRs l) (hm : GoodRs m) (hn : GoodRs n) : mergeRo (mergeRo l m) n = mergeRo l (mergeRo m n) := mergeK_assoc kRo_join hl.1 hm.1 hn.1 fun a ha b hb c hc _ _ => joinRo_assoc (hl.2 a ha) (hm.2 b hb) (hn.2 c hc)
theorem mergeRo_self {l : List Ro} (hl : GoodRs l) : mergeRo l l = l := mergeK_self kRo_join hl.1 fun a ha => joinRo_self (hl.2 a ha)

/-! ### Partitions: what is gone, and the rows -/
abbrev Dp := Int × List Ro
def joinD (p q : Dp) : Dp := (max p.1 q.1, mergeRo p.2 q.2)
def GoodD (p : Dp) : Prop := GoodRs p.2
theorem GoodD.join {p q : Dp} (hp : GoodD p) (hq : GoodD q) : GoodD (joinD p q) := GoodRs.merge hp hq
theorem joinD_comm {p q : Dp} (hp : GoodD p) (hq : GoodD q) : joinD p q = joinD q p := by unfold joinD; rw [mergeRo_comm hp hq, Int.max_comm]
theorem joinD_assoc {p q r : Dp} (hp : GoodD p) (hq : GoodD q) (hr : GoodD r) : joinD (joinD p q) r = joinD p (joinD q r) := by unfold joinD; simp only [mergeRo_assoc hp hq hr, Int.max_assoc]
theorem joinD_self {p : Dp} (hp : GoodD p) : joinD p p = p := by unfold joinD; rw [mergeRo_self hp, Int.max_self]
/-- x is the least above some. -/
structure Lub (S : Dp → Prop) (x : Dp) : Prop where
  good : GoodD x
  each : ∀ s, S s → GoodD s
  above : ∀ s, S s → joinD x s = x
  least : ∀ y, GoodD y → (∀ s, S s → joinD y s = y) → joinD y x = y
theorem Lub.one {s : Dp} (h : GoodD s) : Lub (· = s) s := ⟨h, fun t e => by rw [e]; exact h, fun t e => by rw [e]; exact joinD_self h, fun y _ hs => hs s rfl⟩
theorem Lub.join {S : Dp → Prop} {x s : Dp} (h : Lub S x) (hs : GoodD s) : Lub (fun t => S t ∨ t = s) (joinD x s) := by
  refine ⟨h.good.join hs, fun t ht => ?_, fun t ht => ?_, fun y hy ht => ?_⟩
  · rcases ht with ht | rfl
    · exact h.each t ht
    · exact hs
  · rcases ht with ht | rfl
    · rw [joinD_assoc h.good hs (h.each t ht), joinD_comm hs (h.each t ht), ← joinD_assoc h.good (h.each t ht) hs, h.above t ht]
    · rw [joinD_assoc h.good hs hs, joinD_self hs]
  · rw [← joinD_assoc hy h.good hs, h.least y hy (fun t h => ht t (.inl h)), ht s (.inr rfl)]
theorem Lub.congr {S T : Dp → Prop} {x : Dp} (h : Lub S x) (e : ∀ s, S s ↔ T s) : Lub T x := by
  have : S = T := funext fun s => propext (e s)
  exact this ▸ h
theorem Lub.unique {S : Dp → Prop} {x y : Dp} (hx : Lub S x) (hy : Lub S y) : x = y := by
  have h1 := hx.least y hy.good hy.above
  have h2 := hy.least x hx.good hx.above
  rw [← h2, joinD_comm hx.good hy.good, h1]
end Go.Proofs.Yteamiiekpjoclaa

/- The reference's joins are the merges, of rows whose names and keys rise. -/
namespace Go.Proofs.Yteamiiekpjoclaa
open Go Go.RowKit

theorem mergeG_congr {α : Type} {cmp : α → α → Int} {j j' : α → α → α} {l m : List α} (h : ∀ a ∈ l, ∀ b ∈ m, j a b = j' a b) : mergeG cmp j l m = mergeG cmp j' l m := by
  fun_induction mergeG cmp j l m with
  | case1 m => rw [mergeG_nil_left]
  | case2 a l => rw [mergeG_nil_right]
  | case3 a l b m hc ih => rw [mergeG_lt hc, ih fun x hx y hy => h x (List.mem_cons_of_mem _ hx) y hy]
  | case4 a l b m hc hd ih => rw [mergeG_gt hd, ih fun x hx y hy => h x hx y (List.mem_cons_of_mem _ hy)]
  | case5 a l b m hc hd ih =>
    rw [mergeG_eq (by omega), ih fun x hx y hy => h x (List.mem_cons_of_mem _ hx) y (List.mem_cons_of_mem _ hy), h a (List.mem_cons_self ..) b (List.mem_cons_self ..)]
theorem foldRo_join {a b : Ro} (ha : Up kCo a.cols) (hb : Up kCo b.cols) : foldRo a b = joinRo a b := by
  unfold foldRo joinRo
  rw [show foldG keyC joinCo a.cols b.cols = mergeCo a.cols b.cols from foldK (κ := kCo) (fun _ => True) kCo_join (fun _ _ _ _ => trivial) (fun a b c _ _ _ _ _ => joinCo_assoc a b c) ha hb (fun _ _ => trivial) (fun _ _ => trivial)]
theorem up_joinRo {a b : Ro} (ha : Up kCo a.cols) (hb : Up kCo b.cols) : Up kCo (joinRo a b).cols := mergeCo_up ha hb
theorem fold_step : ∀ {m l : List Ro}, (∀ r ∈ l, Up kCo r.cols) → (∀ r ∈ m, Up kCo r.cols) → foldG keyR foldRo l m = foldG keyR joinRo l m
  | [], _, _, _ => rfl
  | c :: m, l, hl, hm => by
    have hc := hm c (List.mem_cons_self ..)
    have e : mergeG keyR foldRo l [c] = mergeG keyR joinRo l [c] := mergeG_congr fun a ha b hb => foldRo_join (hl a ha) (by rw [List.mem_singleton.1 hb]; exact hc)
    show foldG keyR foldRo (mergeG keyR foldRo l [c]) m = foldG keyR joinRo (mergeG keyR joinRo l [c]) m
    rw [e]
    refine fold_step (fun r hr => ?_) (fun r hr => hm r (List.mem_cons_of_mem _ hr))
    rcases mem_mergeI hr with h | h | ⟨a, ha, b, hb, _, rfl⟩
    · exact hl r h
    · rw [List.mem_singleton.1 h]; exact hc
    · rw [List.mem_singleton.1 hb]; exact up_joinRo (hl a ha) hc
theorem fold_merge {l m : List Ro} (hl : GoodRs l) (hm : GoodRs m) : foldG keyR foldRo l m = mergeRo l m := by
  rw [fold_step hl.2 hm.2]
  exact foldK (κ := kRo) (fun r => Up kCo r.cols) kRo_join (fun _ _ ha hb => up_joinRo ha hb) (fun a b c ha hb hc _ _ => joinRo_assoc ha hb hc) hl.1 hm.1 hl.2 hm.2
end Go.Proofs.Yteamiiekpjoclaa

/- Rows by numbers: L.Cell whatever numbers are left; Names. -/
namespace Go.Proofs.Yteamiiekpjoclaa
open Go Go.RowKit
attribute [local go_sem] yields yUpon

theorem next_nil (p : Nat) (w : World) (hv : BoxAt w p #[.slice none 0 0] 83) (n : Int) :
    Calls Try.prog 74 #[.pointer (some ⟨p, 0, none⟩), .int .i64 n] w fun e w' => e = .returned (.int .i64 0) ∧ w = w' := by
  have c0 := hv.cell 0
  simp at c0
  go_enter Try.func74, Try.ntmps74
  go_wp2
  go_ret
  exact ⟨rfl, rfl⟩
theorem next_nil' (W : World) (p : Nat) (v : Value) (hin : IntsIn W v .i64 []) (w : World) (hv : BoxAt w p #[v] 83) (n : Int) :
    Calls Try.prog 74 #[.pointer (some ⟨p, 0, none⟩), .int .i64 n] w fun e w' => e = .returned (.int .i64 0) ∧ w = w' := by
  obtain ⟨a, c, rfl, hc, hcm, ha⟩ := hin.block
  have c0 := hv.cell 0
  simp at c0
  go_enter Try.func74, Try.ntmps74
  go_wp2
  go_ret
  exact ⟨rfl, rfl⟩

set_option maxHeartbeats 1000000 in
theorem lcell_nil (W : World) (p : Nat) (v : Value) (hin : IntsIn W v .i64 []) (w : World) (hv : BoxAt w p #[v] 83) :
    Calls Try.prog 100 #[.pointer (some ⟨p, 0, none⟩)] w fun e w' => e = .returned (.agg #[.string (cellN 0).val, .bool (cellN 0).dead, .int .i64 (cellN 0).at_, .int .i64 (cellN 0).fin]) ∧ Ext w w' := by
  go_enter Try.func100, Try.ntmps100
  go_wp2_with fail
  refine (next_nil' W p v hin _ (hv.ext ((Ext.refl _).alloc _)) _).mono ?_
  rintro e w1 ⟨rfl, rfl⟩
  go_wp2
  refine bodyPost_ret (v := (.agg #[.string (cellN 0).val, .bool (cellN 0).dead, .int .i64 (cellN 0).at_, .int .i64 (cellN 0).fin])) (by simp [results, Try.results100, go_sem, cellN]) rfl ⟨rfl, ((Ext.refl _).alloc _).alloc _⟩

/-- The numbers that are left: any. -/
def LeftIn (W w : World) (p : Nat) : Prop := ∃ v l, BoxAt w p #[v] 83 ∧ IntsIn W v .i64 l

theorem lcell_ex (W : World) (p : Nat) (hp : W.heap.size ≤ p) (w : World) (hE : Ext W w) (hL : LeftIn W w p) :
    Calls Try.prog 100 #[.pointer (some ⟨p, 0, none⟩)] w fun e w' => ∃ n : Int, 0 ≤ n ∧ e = .returned (.agg #[.string (cellN n).val, .bool (cellN n).dead, .int .i64 (cellN n).at_, .int .i64 (cellN n).fin]) ∧ w.grownBy w' (some p) ∧ LeftIn W w' p := by
  obtain ⟨v, l, hv, hin⟩ := hL
  cases l with
  | nil =>
    refine (lcell_nil W p v hin w hv).mono ?_
    rintro e w' ⟨rfl, hX⟩
    exact ⟨0, Int.le_refl 0, rfl, grownBy_ext (grownBy_refl w _) hX, v, [], hv.ext hX, hin⟩
  | cons x l =>
    refine (lcell_any W p hp v x l hin w hE hv).mono ?_
    rintro e w' ⟨rfl, v', hX, hin'⟩
    exact ⟨x % 1048576, by omega, rfl, grownBy_ext (grownBy_set p v') hX, v', l, (hv.set 0 v').ext hX, hin'⟩
theorem next_ex (W : World) (p : Nat) (hp : W.heap.size ≤ p) (w : World) (hE : Ext W w) (hL : LeftIn W w p) :
    Calls Try.prog 74 #[.pointer (some ⟨p, 0, none⟩), .int .i64 1048576] w fun e w' => ∃ n : Int, 0 ≤ n ∧ n < 1048576 ∧ e = .returned (.int .i64 n) ∧ w.grownBy w' (some p) ∧ LeftIn W w' p := by
  obtain ⟨v, l, hv, hin⟩ := hL
  refine (next_gen W p hp v l hin 1048576 (by omega) (by omega) w hE hv).mono ?_
  rintro e w' ⟨rfl, hg, v', hb, hin'⟩
  refine ⟨nextN l 1048576, ?_, ?_, rfl, hg, v', l.tail, hb, hin'⟩
  · cases l with
    | nil => exact Int.le_refl 0
    | cons x l => show 0 ≤ x % 1048576; omega
  · cases l with
    | nil => show (0 : Int) < 1048576; omega
    | cons x l => show x % 1048576 < 1048576; omega

/-- The names of columns. -/
def nm4 : Array Value := #[.string ⟨#[97]⟩, .string ⟨#[98]⟩, .string ⟨#[99]⟩, .string ⟨#[100]⟩]
set_option maxHeartbeats 1000000 in
theorem names_any (w : World) :
    Calls Try.prog 99 #[] w fun e w' => e = .returned (.slice (some ⟨w.heap.size, 0, none⟩) 4 4) ∧ w' = w.alloc (.cells nm4 9) := by
  go_enter Try.func99, Try.ntmps99
  go_wp2
  go_ret
  exact ⟨rfl, rfl⟩

def nmK : Nat → ByteArray
  | 0 => ⟨#[97]⟩
  | 1 => ⟨#[98]⟩
  | 2 => ⟨#[99]⟩
  | _ => ⟨#[100]⟩
/-- Columns by numbers, of the first so many names. -/
inductive GenCols : Nat → List Co → Prop
  | nil : GenCols 0 []
  | skip {k l} : GenCols k l → GenCols (k + 1) l
  | put {k l} {n : Int} : GenCols k l → 0 ≤ n → GenCols (k + 1) (l ++ [⟨nmK k, cellN n⟩])
theorem GenCols.len {k : Nat} {l : List Co} (h : GenCols k l) : l.length ≤ k := by
  induction h with
  | nil => exact Nat.le_refl 0
  | skip _ ih => omega
  | put _ _ ih => simp; omega
end Go.Proofs.Yteamiiekpjoclaa
