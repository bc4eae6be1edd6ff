/- The reference's code points: All, Letter, Name. (what a smaller cut has) -/
import Derived.Test.YtfagnbofnaoncaaP20
import Derived.Test.YtfagnbofnaoncaaP1
import Derived.Test.YtfagnbofnaoncaaP10
import Derived.Test.YtfagnbofnaoncaaProg
import Derived.Lib.DecodeN
import Derived.Lib.Hide
import Derived.Laws.BitsLemmas
set_option linter.unusedSimpArgs false
set_option linter.unusedVariables false
namespace Go.Proofs.Ytfagnbofnaoncaa
open Go Go.RowKit
attribute [local go_sem] yields yUpon

structure Rn where
  r : Nat
  at_ : Nat
  n : Nat
  ok : Bool
def rn4 (x : Rn) : Array Value := #[.int .i32 x.r, .int .i64 x.at_, .int .i64 x.n, .bool x.ok]
attribute [local go_sem] rn4
def rnCells : List Rn → List Value
  | [] => []
  | x :: l => .int .i32 x.r :: .int .i64 x.at_ :: .int .i64 x.n :: .bool x.ok :: rnCells l
theorem rnCells_append (l m : List Rn) : rnCells (l ++ m) = rnCells l ++ rnCells m := by
  induction l with
  | nil => rfl
  | cons c l ih => simp [rnCells, ih]
theorem rnCells_get : ∀ (l : List Rn) (k : Nat) (h : k < l.length), (rnCells l)[k * 4]? = some (.int .i32 l[k].r) ∧ (rnCells l)[k * 4 + 1]? = some (.int .i64 l[k].at_) ∧ (rnCells l)[k * 4 + 2]? = some (.int .i64 l[k].n) ∧ (rnCells l)[k * 4 + 3]? = some (.bool l[k].ok)
  | c :: l, 0, _ => by simp [rnCells]
  | c :: l, k + 1, h => by
    have ih := rnCells_get l k (by simpa using h)
    have e : (k + 1) * 4 = k * 4 + 4 := by omega
    simp only [e, rnCells, List.getElem_cons_succ]
    simpa using ih
def rnOf (s : ByteArray) (at_ : Nat) : Rn := ⟨(roneR s at_).1, at_, (roneR s at_).2.1, (roneR s at_).2.2⟩
def rsF (s : ByteArray) : Nat → Nat → List Rn
  | 0, _ => []
  | f + 1, at_ => if at_ < s.size then rnOf s at_ :: rsF s f (at_ + (rnOf s at_).n) else []
def rsAll (s : ByteArray) : List Rn := rsF s s.size 0
theorem rsF_end (s : ByteArray) (f k : Nat) (h : s.size ≤ k) : rsF s f k = [] := by
  cases f with
  | zero => rfl
  | succ f => unfold rsF; rw [if_neg (by omega)]
theorem more_size (s : ByteArray) (at_ n r0 : Nat) (ha : at_ < s.size) : 1 ≤ (moreR s at_ n r0).2.1 ∧ at_ + (moreR s at_ n r0).2.1 ≤ s.size := by
  unfold moreR
  split
  · rename_i h
    unfold contB at h
    rw [Bool.and_eq_true] at h
    have : at_ + 1 + n ≤ s.size := by simpa using h.1
    split
    · exact ⟨Nat.le_refl _, ha⟩
    · exact ⟨by show 1 ≤ n + 1; omega, by show at_ + (n + 1) ≤ _; omega⟩
  · exact ⟨Nat.le_refl _, ha⟩
theorem rone_size (s : ByteArray) (at_ : Nat) (ha : at_ < s.size) : 1 ≤ (rnOf s at_).n ∧ at_ + (rnOf s at_).n ≤ s.size := by
  show 1 ≤ (roneR s at_).2.1 ∧ at_ + (roneR s at_).2.1 ≤ s.size
  unfold roneR roneC
  split
  · exact ⟨Nat.le_refl _, ha⟩
  · split
    · exact more_size s at_ 1 _ ha
    · split
      · exact more_size s at_ 2 _ ha
      · split
        · exact more_size s at_ 3 _ ha
        · exact ⟨Nat.le_refl _, ha⟩

theorem BoxAt.rn {w : World} {p : Nat} {x : Rn} {T : TypeId} (h : BoxAt w p (rn4 x) T) : w.cell? ⟨p, 0, none⟩ = some (.int .i32 x.r) ∧ w.cell? ⟨p, 1, none⟩ = some (.int .i64 x.at_) ∧ w.cell? ⟨p, 2, none⟩ = some (.int .i64 x.n) ∧ w.cell? ⟨p, 3, none⟩ = some (.bool x.ok) := ⟨h.cell 0, h.cell 1, h.cell 2, h.cell 3⟩

def letB (x : Rn) : Bool := x.ok && ((decide (97 ≤ x.r) && decide (x.r ≤ 122)) || x.r == 95 || decide (128 ≤ x.r))
def okN (i : Nat) (x : Rn) : Bool := letB x || (!decide (i = 0) && (decide (48 ≤ x.r) && decide (x.r ≤ 57)))
def nmLoop : Nat → List Rn → Bool
  | _, [] => true
  | i, x :: l => okN i x && nmLoop (i + 1) l
/-- Is a text a name? -/
def nameB (s : ByteArray) : Bool := nmLoop 0 (rsAll s) && (decide (1 ≤ s.size) && decide (s.size ≤ 100))
theorem rs_len (s : ByteArray) : ∀ f k, k ≤ s.size → (rsF s f k).length ≤ s.size - k
  | 0, k, _ => Nat.zero_le _
  | f + 1, k, hk => by
    unfold rsF
    split
    · rename_i h
      have h1 := rone_size s k h
      have := rs_len s f (k + (rnOf s k).n) h1.2
      simp only [List.length_cons]
      omega
    · exact Nat.zero_le _
end Go.Proofs.Ytfagnbofnaoncaa

/- The reference's Check of cells, of rows. (what a smaller cut has) -/
namespace Go.Proofs.Ytfagnbofnaoncaa
open Go Go.RowKit
attribute [local go_sem] yields yUpon

theorem less_leq : ∀ a b : List UInt8, (Op.bytesLess a b || a == b) = !Op.bytesLess b a
  | [], [] => rfl
  | [], b :: y => rfl
  | a :: x, [] => rfl
  | a :: x, b :: y => by
    have ih := less_leq x y
    unfold Op.bytesLess
    by_cases h : a = b
    · subst h
      simp [← ih]
    · by_cases h2 : a < b
      · have h3 : ¬ b < a := by
          rw [UInt8.lt_iff_toNat_lt] at *
          omega
        have h4 : ¬ b = a := fun e => h e.symm
        simp [h, h2, h3, h4]
      · have h3 : b < a := by
          rw [UInt8.lt_iff_toNat_lt] at *
          have h5 : a.toNat ≠ b.toNat := fun e => h (UInt8.toNat_inj.1 e)
          omega
        simp [h, h2, h3]
def orB : Option ByteArray → ByteArray → Bool
  | none, _ => true
  | some q, n => Op.bytesLess q.toList n.toList
/-- Columns that may be, behind a name. -/
def csB : Option ByteArray → List Co → Bool
  | _, [] => true
  | p, c :: l => nameB c.name && orB p c.name && checkC c.cell.val c.cell.dead c.cell.at_ c.cell.fin && decide (0 < c.cell.at_) && csB (some c.name) l
def prevM (l : List Co) : Nat → Option ByteArray
  | 0 => none
  | k + 1 => (l[k]?).map (·.name)
/-- A row's own cells may be. -/
def hdB (r : Ro) : Bool := !decide (400 < (r.key.size : Int)) && checkC r.live.val r.live.dead r.live.at_ r.live.fin && (r.live.val.toList == []) && !r.live.dead && stampB r.gone && stampB r.shade && !decide (8 < (r.cols.length : Int))
/-- A row that may be. -/
def rwB (r : Ro) : Bool := hdB r && csB none r.cols

theorem hdB_parts {r : Ro} (h : hdB r = true) : decide (400 < (r.key.size : Int)) = false ∧ checkC r.live.val r.live.dead r.live.at_ r.live.fin = true ∧ (r.live.val.toList == []) = true ∧ r.live.dead = false ∧ stampB r.gone = true ∧ stampB r.shade = true ∧ decide (8 < (r.cols.length : Int)) = false := by
  unfold hdB at h
  simp only [Bool.and_eq_true, Bool.not_eq_true'] at h
  obtain ⟨⟨⟨⟨⟨⟨a, b⟩, c⟩, d⟩, e⟩, f⟩, g⟩ := h
  exact ⟨a, b, c, d, e, f, g⟩
theorem csB_cons (p : Option ByteArray) (M : Co) (R : List Co) : csB p (M :: R) = (nameB M.name && orB p M.name && checkC M.cell.val M.cell.dead M.cell.at_ M.cell.fin && decide (0 < M.cell.at_) && csB (some M.name) R) := rfl
theorem prevM_succ {l : List Co} {k : Nat} {M : Co} {R : List Co} (hd : l.drop k = M :: R) : prevM l (k + 1) = some M.name := by
  have hk : k < l.length := by
    rcases Nat.lt_or_ge k l.length with h | h
    · exact h
    · rw [List.drop_eq_nil_of_le h] at hd; cases hd
  have e : l[k] = M := by rw [List.drop_eq_getElem_cons hk] at hd; exact (List.cons.inj hd).1
  simp [prevM, hk, e]
end Go.Proofs.Ytfagnbofnaoncaa

/- The reference's Check of partitions. (what a smaller cut has) -/
namespace Go.Proofs.Ytfagnbofnaoncaa
open Go Go.RowKit
attribute [local go_sem] yields yUpon ro8 pa3

def rsB : Option ByteArray → List Ro → Bool
  | _, [] => true
  | p, r :: l => rwB r && orB p r.key && rsB (some r.key) l
def ptB (k : ByteArray) (g : Int) (l : List Ro) : Bool := !decide (100 < (k.size : Int)) && !decide (g < 0) && !decide (1099511627776 < g) && !decide (100 < (l.length : Int)) && rsB none l
def prevR (l : List (Ro × Value)) : Nat → Option ByteArray
  | 0 => none
  | k + 1 => (l[k]?).map (·.1.key)
theorem prevR_succ {l : List (Ro × Value)} {k : Nat} {M : Ro × Value} {R : List (Ro × Value)} (hd : l.drop k = M :: R) : prevR l (k + 1) = some M.1.key := by
  have hk : k < l.length := by
    rcases Nat.lt_or_ge k l.length with h | h
    · exact h
    · rw [List.drop_eq_nil_of_le h] at hd; cases hd
  have e : l[k] = M := by rw [List.drop_eq_getElem_cons hk] at hd; exact (List.cons.inj hd).1
  simp [prevR, hk, e]
end Go.Proofs.Ytfagnbofnaoncaa

/- The reference's code points: cont, one. -/
namespace Go.Proofs.Ytfagnbofnaoncaa
open Go Go.RowKit
attribute [local go_sem] yields yUpon
set_option maxHeartbeats 1000000 in
theorem cont_any (s : ByteArray) (at_ n : Nat) (hs : s.size ≤ 1000000) (ha : at_ ≤ 1000000) (hn : n ≤ 3) (w : World) :
    Calls Try.prog 61 #[.string s, .int .i64 at_, .int .i64 n] w fun e w' => e = .returned (.bool (contB s at_ n)) ∧ w = w' := by
  by_cases hl : at_ + n ≤ s.size
  · have k1 : decide ((s.size : Int) < (at_ : Int) + (n : Int)) = false := by simp; omega
    go_enter Try.func61, Try.ntmps61
    go_wp2
    go_loopw [7] (fun i wr => ∃ k : Nat, k ≤ n ∧ i = .int .i64 ((at_ : Int) + (k : Int)) ∧ wr = w ∧ ∀ j, j < k → goesOn (s.get! (at_ + j)) = true) (fun i _ => at_ + n - (intOf i).toNat)
    case atStart => exact ⟨0, Nat.zero_le _, by simp, rfl, fun j hj => absurd hj (Nat.not_lt_zero _)⟩
    case round =>
      obtain ⟨k, hk, rfl, rfl, hall⟩ := hrel
      have HALL := Lib.hid hall
      clear hall
      by_cases hlt : k < n
      · have hki : decide ((at_ : Int) + (k : Int) < (at_ : Int) + (n : Int)) = true := by simp; omega
        have hb := goes_bits (s[at_ + k]'(by omega))
        obtain ⟨g, hg⟩ : ∃ g, g = goesOn (s[at_ + k]'(by omega)) := ⟨_, rfl⟩
        rw [← hg] at hb
        have HG := Lib.hid hg
        clear hg
        cases g
        · go_wp2_with fail
          go_ret
          have e : contB s at_ n = false := contB_false hlt (by rw [get_bang (show at_ + k < s.size by omega)]; exact HG.out.symm)
          exact ⟨by rw [e]; rfl, rfl⟩
        · go_wp2_with fail
          go_roundw
          case rel => exact ⟨k + 1, by omega, by go_num, trivial, fun j hj => by
            by_cases h : j < k
            · exact HALL.out j h
            · obtain rfl : j = k := by omega
              rw [get_bang (show at_ + j < s.size by omega)]; exact HG.out.symm⟩
          case measure => simp [intOf] <;> omega
      · have hki : decide ((at_ : Int) + (k : Int) < (at_ : Int) + (n : Int)) = false := by simp; omega
        obtain rfl : k = n := by omega
        go_wp2_with fail
        go_ret
        have e : contB s at_ k = true := contB_true hl HALL.out
        exact ⟨by rw [e]; rfl, rfl⟩
  · have k1 : decide ((s.size : Int) < (at_ : Int) + (n : Int)) = true := by simp; omega
    have e : contB s at_ n = false := by
      unfold contB
      rw [Bool.and_eq_false_iff]
      left
      simpa using hl
    go_enter Try.func61, Try.ntmps61
    go_wp2
    go_ret
    exact ⟨by rw [e]; rfl, rfl⟩

set_option maxRecDepth 100000 in
set_option maxHeartbeats 4000000 in
theorem rone_a (s : ByteArray) (at_ : Nat) (hs : s.size ≤ 1000000) (ha : at_ < s.size) (w : World) (c1 : (s[at_]).toNat < 128) :
    Calls Try.prog 58 #[.string s, .int .i64 at_] w fun e w' => e = .returned (.agg (rC (roneR s at_).1 at_ (roneR s at_).2.1 (roneR s at_).2.2)) ∧ Ext w w' := by
  have d1 : decide (((s[at_]).toNat : Int) < 128) = true := by simp; omega
  have e : roneR s at_ = ((s[at_]).toNat, 1, true) := by unfold roneR roneC; rw [get_bang ha, if_pos c1]
  rw [e]
  clear e
  go_enter Try.func58, Try.ntmps58
  go_wp2_with fail
  refine bodyPost_ret (v := .agg #[.int .i32 (s[at_]).toNat, .int .i64 at_, .int .i64 1, .bool true]) ?_ rfl ⟨rfl, ((Ext.refl w).alloc _).alloc _⟩
  simp [results, Try.results58, go_sem]
set_option maxRecDepth 100000 in
set_option maxHeartbeats 4000000 in
theorem rone_b (s : ByteArray) (at_ : Nat) (hs : s.size ≤ 1000000) (ha : at_ < s.size) (w : World) (c1 : ¬ (s[at_]).toNat < 128) (c2 : 194 ≤ (s[at_]).toNat ∧ (s[at_]).toNat < 224) :
    Calls Try.prog 58 #[.string s, .int .i64 at_] w fun e w' => e = .returned (.agg (rC (roneR s at_).1 at_ (roneR s at_).2.1 (roneR s at_).2.2)) ∧ Ext w w' := by
  have d0 : decide (((s[at_]).toNat : Int) < 128) = false := by simp; omega
  have d1 : decide (194 ≤ ((s[at_]).toNat : Int)) = true := by simp; omega
  have d2 : decide (((s[at_]).toNat : Int) < 224) = true := by simp; omega
  have m : bits BinOp.and IntKind.i32 ((s[at_]).toNat : Int) 31 = (((s[at_]).toNat % 32 : Nat) : Int) := mask_i32 _ 5 (by decide)
  obtain ⟨r0, hr0⟩ : ∃ r0, r0 = (s[at_]).toNat % 32 := ⟨_, rfl⟩
  rw [← hr0] at m
  have hr : r0 < 32 := by omega
  have e : roneR s at_ = moreR s at_ 1 r0 := by
    unfold roneR roneC
    rw [get_bang ha, ← hr0, if_neg c1, if_pos c2]
  have HE := Lib.hid e
  clear e hr0
  go_enter Try.func58, Try.ntmps58
  go_wp2_with fail
  refine (cont_any s (at_ + 1) 1 hs (by omega) (by omega) _).mono ?_
  rintro e w1 ⟨rfl, rfl⟩
  cases hc : contB s (at_ + 1) 1
  · have e : Hid (roneR s at_ = (65533, 1, false)) := by rw [HE.out]; unfold moreR; rw [hc]; rfl
    clear HE
    go_wp2_with fail
    refine bodyPost_ret (v := .agg #[.int .i32 65533, .int .i64 at_, .int .i64 1, .bool false]) ?_ rfl ⟨by rw [e.out]; rfl, ((Ext.refl w).alloc _).alloc _⟩
    simp [results, Try.results58, go_sem]
  · have hsz : at_ + 1 + 1 ≤ s.size := by
      unfold contB at hc
      rw [Bool.and_eq_true] at hc
      simpa using hc.1
    have HE2 : Hid (roneR s at_ = if (1 = 2 ∧ (accR s at_ r0 1 < 2048 ∨ 55296 ≤ accR s at_ r0 1 ∧ accR s at_ r0 1 < 57344)) ∨ (1 = 3 ∧ (accR s at_ r0 1 < 65536 ∨ 1114111 < accR s at_ r0 1)) then (65533, 1, false) else (accR s at_ r0 1, 1 + 1, true)) := by have := HE.out; unfold moreR at this; rw [if_pos hc] at this; exact this
    clear HE hc
    go_wp2_with fail
    go_loopw [8, 9] (fun r i wr => ∃ k : Nat, k ≤ 1 ∧ i = .int .i64 ((k : Int) + 1) ∧ r = .int .i32 (accR s at_ r0 k : Nat) ∧ wr = ((w.alloc (.cells #[.int .i32 0, .int .i64 0, .int .i64 0, .bool false] 96)).alloc (.cells #[.int .i32 65533, .int .i64 at_, .int .i64 1, .bool false] 96))) (fun _ i _ => 1 + 1 - (intOf i).toNat)
    case atStart => exact ⟨0, Nat.zero_le _, rfl, rfl, rfl⟩
    case round =>
      obtain ⟨k, hk, rfl, rfl, rfl⟩ := hrel
      by_cases hlt : k < 1
      · have t1 : decide ((k : Int) + 1 ≤ 1) = true := by simp; omega
        have t2 := accR_one s at_ r0 k hr (by omega)
        rw [get_bang (show at_ + (k + 1) < s.size by omega)] at t2
        go_wp2_with fail
        go_roundw
        case rel => exact ⟨k + 1, by omega, by go_num, rfl, trivial⟩
        case measure => simp [intOf] <;> omega
      · have t1 : decide ((k : Int) + 1 ≤ 1) = false := by simp; omega
        obtain rfl : k = 1 := by omega
        obtain ⟨R, hR⟩ : ∃ R, R = accR s at_ r0 1 := ⟨_, rfl⟩
        rw [← hR] at HE2 ⊢
        clear hR
        go_wp2_with fail
        refine bodyPost_ret (v := .agg #[.int .i32 R, .int .i64 at_, .int .i64 2, .bool true]) ?_ rfl ⟨by rw [HE2.out, if_neg (by omega)]; rfl, ((Ext.refl w).alloc _).alloc _⟩
        simp [results, Try.results58, go_sem]
set_option maxRecDepth 100000 in
set_option maxHeartbeats 4000000 in
theorem rone_c (s : ByteArray) (at_ : Nat) (hs : s.size ≤ 1000000) (ha : at_ < s.size) (w : World) (c1 : ¬ (s[at_]).toNat < 128) (c2 : ¬ (194 ≤ (s[at_]).toNat ∧ (s[at_]).toNat < 224)) (c3 : 224 ≤ (s[at_]).toNat ∧ (s[at_]).toNat < 240) :
    Calls Try.prog 58 #[.string s, .int .i64 at_] w fun e w' => e = .returned (.agg (rC (roneR s at_).1 at_ (roneR s at_).2.1 (roneR s at_).2.2)) ∧ Ext w w' := by
  have d0 : decide (((s[at_]).toNat : Int) < 128) = false := by simp; omega
  have d1 : decide (194 ≤ ((s[at_]).toNat : Int)) = true := by simp; omega
  have d2 : decide (((s[at_]).toNat : Int) < 224) = false := by simp; omega
  have d3 : decide (224 ≤ ((s[at_]).toNat : Int)) = true := by simp; omega
  have d4 : decide (((s[at_]).toNat : Int) < 240) = true := by simp; omega
  have m : bits BinOp.and IntKind.i32 ((s[at_]).toNat : Int) 15 = (((s[at_]).toNat % 16 : Nat) : Int) := mask_i32 _ 4 (by decide)
  obtain ⟨r0, hr0⟩ : ∃ r0, r0 = (s[at_]).toNat % 16 := ⟨_, rfl⟩
  rw [← hr0] at m
  have hr : r0 < 32 := by omega
  have e : roneR s at_ = moreR s at_ 2 r0 := by
    unfold roneR roneC
    rw [get_bang ha, ← hr0, if_neg c1, if_neg c2, if_pos c3]
  have HE := Lib.hid e
  clear e hr0
  go_enter Try.func58, Try.ntmps58
  go_wp2_with fail
  refine (cont_any s (at_ + 1) 2 hs (by omega) (by omega) _).mono ?_
  rintro e w1 ⟨rfl, rfl⟩
  cases hc : contB s (at_ + 1) 2
  · have e : Hid (roneR s at_ = (65533, 1, false)) := by rw [HE.out]; unfold moreR; rw [hc]; rfl
    clear HE
    go_wp2_with fail
    refine bodyPost_ret (v := .agg #[.int .i32 65533, .int .i64 at_, .int .i64 1, .bool false]) ?_ rfl ⟨by rw [e.out]; rfl, ((Ext.refl w).alloc _).alloc _⟩
    simp [results, Try.results58, go_sem]
  · have hsz : at_ + 1 + 2 ≤ s.size := by
      unfold contB at hc
      rw [Bool.and_eq_true] at hc
      simpa using hc.1
    have HE2 : Hid (roneR s at_ = if (2 = 2 ∧ (accR s at_ r0 2 < 2048 ∨ 55296 ≤ accR s at_ r0 2 ∧ accR s at_ r0 2 < 57344)) ∨ (2 = 3 ∧ (accR s at_ r0 2 < 65536 ∨ 1114111 < accR s at_ r0 2)) then (65533, 1, false) else (accR s at_ r0 2, 2 + 1, true)) := by have := HE.out; unfold moreR at this; rw [if_pos hc] at this; exact this
    clear HE hc
    go_wp2_with fail
    go_loopw [8, 9] (fun r i wr => ∃ k : Nat, k ≤ 2 ∧ i = .int .i64 ((k : Int) + 1) ∧ r = .int .i32 (accR s at_ r0 k : Nat) ∧ wr = ((w.alloc (.cells #[.int .i32 0, .int .i64 0, .int .i64 0, .bool false] 96)).alloc (.cells #[.int .i32 65533, .int .i64 at_, .int .i64 1, .bool false] 96))) (fun _ i _ => 2 + 1 - (intOf i).toNat)
    case atStart => exact ⟨0, Nat.zero_le _, rfl, rfl, rfl⟩
    case round =>
      obtain ⟨k, hk, rfl, rfl, rfl⟩ := hrel
      by_cases hlt : k < 2
      · have t1 : decide ((k : Int) + 1 ≤ 2) = true := by simp; omega
        have t2 := accR_one s at_ r0 k hr (by omega)
        rw [get_bang (show at_ + (k + 1) < s.size by omega)] at t2
        go_wp2_with fail
        go_roundw
        case rel => exact ⟨k + 1, by omega, by go_num, rfl, trivial⟩
        case measure => simp [intOf] <;> omega
      · have t1 : decide ((k : Int) + 1 ≤ 2) = false := by simp; omega
        obtain rfl : k = 2 := by omega
        obtain ⟨R, hR⟩ : ∃ R, R = accR s at_ r0 2 := ⟨_, rfl⟩
        rw [← hR] at HE2 ⊢
        clear hR
        by_cases q1 : R < 2048
        · have p1 : decide ((R : Int) < 2048) = true := by simp; omega
          go_wp2_with fail
          refine bodyPost_ret (v := .agg #[.int .i32 65533, .int .i64 at_, .int .i64 1, .bool false]) ?_ rfl ⟨by rw [HE2.out, if_pos (.inl ⟨by trivial, .inl q1⟩)]; rfl, ((Ext.refl w).alloc _).alloc _⟩
          simp [results, Try.results58, go_sem]
        · have p1 : decide ((R : Int) < 2048) = false := by simp; omega
          by_cases q2 : 55296 ≤ R
          · have p2 : decide (55296 ≤ (R : Int)) = true := by simp; omega
            by_cases q3 : R < 57344
            · have p3 : decide ((R : Int) < 57344) = true := by simp; omega
              go_wp2_with fail
              refine bodyPost_ret (v := .agg #[.int .i32 65533, .int .i64 at_, .int .i64 1, .bool false]) ?_ rfl ⟨by rw [HE2.out, if_pos (.inl ⟨by trivial, .inr ⟨q2, q3⟩⟩)]; rfl, ((Ext.refl w).alloc _).alloc _⟩
              simp [results, Try.results58, go_sem]
            · have p3 : decide ((R : Int) < 57344) = false := by simp; omega
              go_wp2_with fail
              refine bodyPost_ret (v := .agg #[.int .i32 R, .int .i64 at_, .int .i64 3, .bool true]) ?_ rfl ⟨by rw [HE2.out, if_neg (by omega)]; rfl, ((Ext.refl w).alloc _).alloc _⟩
              simp [results, Try.results58, go_sem]
          · have p2 : decide (55296 ≤ (R : Int)) = false := by simp; omega
            go_wp2_with fail
            refine bodyPost_ret (v := .agg #[.int .i32 R, .int .i64 at_, .int .i64 3, .bool true]) ?_ rfl ⟨by rw [HE2.out, if_neg (by omega)]; rfl, ((Ext.refl w).alloc _).alloc _⟩
            simp [results, Try.results58, go_sem]
set_option maxRecDepth 100000 in
set_option maxHeartbeats 4000000 in
theorem rone_d (s : ByteArray) (at_ : Nat) (hs : s.size ≤ 1000000) (ha : at_ < s.size) (w : World) (c1 : ¬ (s[at_]).toNat < 128) (c2 : ¬ (194 ≤ (s[at_]).toNat ∧ (s[at_]).toNat < 224)) (c3 : ¬ (224 ≤ (s[at_]).toNat ∧ (s[at_]).toNat < 240)) (c4 : 240 ≤ (s[at_]).toNat ∧ (s[at_]).toNat < 245) :
    Calls Try.prog 58 #[.string s, .int .i64 at_] w fun e w' => e = .returned (.agg (rC (roneR s at_).1 at_ (roneR s at_).2.1 (roneR s at_).2.2)) ∧ Ext w w' := by
  have d0 : decide (((s[at_]).toNat : Int) < 128) = false := by simp; omega
  have d1 : decide (194 ≤ ((s[at_]).toNat : Int)) = true := by simp; omega
  have d2 : decide (((s[at_]).toNat : Int) < 224) = false := by simp; omega
  have d3 : decide (224 ≤ ((s[at_]).toNat : Int)) = true := by simp; omega
  have d4 : decide (((s[at_]).toNat : Int) < 240) = false := by simp; omega
  have d5 : decide (240 ≤ ((s[at_]).toNat : Int)) = true := by simp; omega
  have d6 : decide (((s[at_]).toNat : Int) < 245) = true := by simp; omega
  have m : bits BinOp.and IntKind.i32 ((s[at_]).toNat : Int) 7 = (((s[at_]).toNat % 8 : Nat) : Int) := mask_i32 _ 3 (by decide)
  obtain ⟨r0, hr0⟩ : ∃ r0, r0 = (s[at_]).toNat % 8 := ⟨_, rfl⟩
  rw [← hr0] at m
  have hr : r0 < 32 := by omega
  have e : roneR s at_ = moreR s at_ 3 r0 := by
    unfold roneR roneC
    rw [get_bang ha, ← hr0, if_neg c1, if_neg c2, if_neg c3, if_pos c4]
  have HE := Lib.hid e
  clear e hr0
  go_enter Try.func58, Try.ntmps58
  go_wp2_with fail
  refine (cont_any s (at_ + 1) 3 hs (by omega) (by omega) _).mono ?_
  rintro e w1 ⟨rfl, rfl⟩
  cases hc : contB s (at_ + 1) 3
  · have e : Hid (roneR s at_ = (65533, 1, false)) := by rw [HE.out]; unfold moreR; rw [hc]; rfl
    clear HE
    go_wp2_with fail
    refine bodyPost_ret (v := .agg #[.int .i32 65533, .int .i64 at_, .int .i64 1, .bool false]) ?_ rfl ⟨by rw [e.out]; rfl, ((Ext.refl w).alloc _).alloc _⟩
    simp [results, Try.results58, go_sem]
  · have hsz : at_ + 1 + 3 ≤ s.size := by
      unfold contB at hc
      rw [Bool.and_eq_true] at hc
      simpa using hc.1
    have HE2 : Hid (roneR s at_ = if (3 = 2 ∧ (accR s at_ r0 3 < 2048 ∨ 55296 ≤ accR s at_ r0 3 ∧ accR s at_ r0 3 < 57344)) ∨ (3 = 3 ∧ (accR s at_ r0 3 < 65536 ∨ 1114111 < accR s at_ r0 3)) then (65533, 1, false) else (accR s at_ r0 3, 3 + 1, true)) := by have := HE.out; unfold moreR at this; rw [if_pos hc] at this; exact this
    clear HE hc
    go_wp2_with fail
    go_loopw [8, 9] (fun r i wr => ∃ k : Nat, k ≤ 3 ∧ i = .int .i64 ((k : Int) + 1) ∧ r = .int .i32 (accR s at_ r0 k : Nat) ∧ wr = ((w.alloc (.cells #[.int .i32 0, .int .i64 0, .int .i64 0, .bool false] 96)).alloc (.cells #[.int .i32 65533, .int .i64 at_, .int .i64 1, .bool false] 96))) (fun _ i _ => 3 + 1 - (intOf i).toNat)
    case atStart => exact ⟨0, Nat.zero_le _, rfl, rfl, rfl⟩
    case round =>
      obtain ⟨k, hk, rfl, rfl, rfl⟩ := hrel
      by_cases hlt : k < 3
      · have t1 : decide ((k : Int) + 1 ≤ 3) = true := by simp; omega
        have t2 := accR_one s at_ r0 k hr (by omega)
        rw [get_bang (show at_ + (k + 1) < s.size by omega)] at t2
        go_wp2_with fail
        go_roundw
        case rel => exact ⟨k + 1, by omega, by go_num, rfl, trivial⟩
        case measure => simp [intOf] <;> omega
      · have t1 : decide ((k : Int) + 1 ≤ 3) = false := by simp; omega
        obtain rfl : k = 3 := by omega
        obtain ⟨R, hR⟩ : ∃ R, R = accR s at_ r0 3 := ⟨_, rfl⟩
        rw [← hR] at HE2 ⊢
        clear hR
        by_cases q1 : R < 65536
        · have p1 : decide ((R : Int) < 65536) = true := by simp; omega
          go_wp2_with fail
          refine bodyPost_ret (v := .agg #[.int .i32 65533, .int .i64 at_, .int .i64 1, .bool false]) ?_ rfl ⟨by rw [HE2.out, if_pos (.inr ⟨by trivial, .inl q1⟩)]; rfl, ((Ext.refl w).alloc _).alloc _⟩
          simp [results, Try.results58, go_sem]
        · have p1 : decide ((R : Int) < 65536) = false := by simp; omega
          by_cases q2 : 1114111 < R
          · have p2 : decide (1114111 < (R : Int)) = true := by simp; omega
            go_wp2_with fail
            refine bodyPost_ret (v := .agg #[.int .i32 65533, .int .i64 at_, .int .i64 1, .bool false]) ?_ rfl ⟨by rw [HE2.out, if_pos (.inr ⟨by trivial, .inr q2⟩)]; rfl, ((Ext.refl w).alloc _).alloc _⟩
            simp [results, Try.results58, go_sem]
          · have p2 : decide (1114111 < (R : Int)) = false := by simp; omega
            go_wp2_with fail
            refine bodyPost_ret (v := .agg #[.int .i32 R, .int .i64 at_, .int .i64 4, .bool true]) ?_ rfl ⟨by rw [HE2.out, if_neg (by omega)]; rfl, ((Ext.refl w).alloc _).alloc _⟩
            simp [results, Try.results58, go_sem]
set_option maxRecDepth 100000 in
set_option maxHeartbeats 4000000 in
theorem rone_e (s : ByteArray) (at_ : Nat) (hs : s.size ≤ 1000000) (ha : at_ < s.size) (w : World) (c1 : ¬ (s[at_]).toNat < 128) (c2 : ¬ (194 ≤ (s[at_]).toNat ∧ (s[at_]).toNat < 224)) (c3 : ¬ (224 ≤ (s[at_]).toNat ∧ (s[at_]).toNat < 240)) (c4 : ¬ (240 ≤ (s[at_]).toNat ∧ (s[at_]).toNat < 245)) :
    Calls Try.prog 58 #[.string s, .int .i64 at_] w fun e w' => e = .returned (.agg (rC (roneR s at_).1 at_ (roneR s at_).2.1 (roneR s at_).2.2)) ∧ Ext w w' := by
  have e : Hid (roneR s at_ = (65533, 1, false)) := by
    show roneR s at_ = _
    unfold roneR roneC
    rw [get_bang ha, if_neg c1, if_neg c2, if_neg c3, if_neg c4]
  by_cases c5 : (s[at_]).toNat < 194
  · have _x := c5
    have d0 : decide (((s[at_]).toNat : Int) < 128) = false := by simp; omega
    have d1 : decide (194 ≤ ((s[at_]).toNat : Int)) = false := by simp; omega
    have d2 : decide (224 ≤ ((s[at_]).toNat : Int)) = false := by simp; omega
    have d3 : decide (240 ≤ ((s[at_]).toNat : Int)) = false := by simp; omega
    go_enter Try.func58, Try.ntmps58
    go_wp2_with fail
    refine bodyPost_ret (v := .agg #[.int .i32 65533, .int .i64 at_, .int .i64 1, .bool false]) ?_ rfl ⟨by rw [e.out]; rfl, ((Ext.refl w).alloc _).alloc _⟩
    simp [results, Try.results58, go_sem]
  · have hub : ((s[at_]).toNat : Int) < 256 := by have := (s[at_]).toNat_lt; omega
    have d0 : decide (((s[at_]).toNat : Int) < 128) = false := by simp; omega
    have d1 : decide (194 ≤ ((s[at_]).toNat : Int)) = true := by simp; omega
    have d2 : decide (((s[at_]).toNat : Int) < 224) = false := by simp; omega
    have d3 : decide (224 ≤ ((s[at_]).toNat : Int)) = true := by simp; omega
    have d4 : decide (((s[at_]).toNat : Int) < 240) = false := by simp; omega
    have d5 : decide (240 ≤ ((s[at_]).toNat : Int)) = true := by simp; omega
    have d6 : decide (((s[at_]).toNat : Int) < 245) = false := by simp; omega
    go_enter Try.func58, Try.ntmps58
    go_wp2_with fail
    refine bodyPost_ret (v := .agg #[.int .i32 65533, .int .i64 at_, .int .i64 1, .bool false]) ?_ rfl ⟨by rw [e.out]; rfl, ((Ext.refl w).alloc _).alloc _⟩
    simp [results, Try.results58, go_sem]
set_option maxRecDepth 100000 in
set_option maxHeartbeats 4000000 in
theorem rone_any (s : ByteArray) (at_ : Nat) (hs : s.size ≤ 1000000) (ha : at_ < s.size) (w : World) :
    Calls Try.prog 58 #[.string s, .int .i64 at_] w fun e w' => e = .returned (.agg (rC (roneR s at_).1 at_ (roneR s at_).2.1 (roneR s at_).2.2)) ∧ Ext w w' := by
  by_cases c1 : (s[at_]).toNat < 128
  · exact rone_a s at_ hs ha w c1
  by_cases c2 : 194 ≤ (s[at_]).toNat ∧ (s[at_]).toNat < 224
  · exact rone_b s at_ hs ha w c1 c2
  by_cases c3 : 224 ≤ (s[at_]).toNat ∧ (s[at_]).toNat < 240
  · exact rone_c s at_ hs ha w c1 c2 c3
  by_cases c4 : 240 ≤ (s[at_]).toNat ∧ (s[at_]).toNat < 245
  · exact rone_d s at_ hs ha w c1 c2 c3 c4
  exact rone_e s at_ hs ha w c1 c2 c3 c4
end Go.Proofs.Ytfagnbofnaoncaa
