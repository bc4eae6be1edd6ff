/- pack's reader: its box in memory; fail, left, any, number, count, text, truth. -/
import Derived.Test.YtimbikbbbfpeeaaGreatDoorP19
import Derived.Test.YtimbikbbbfpeeaaGreatDoorP3
import Derived.BigQuiet
import Derived.RegionTactic
import Derived.Test.YtimbikbbbfpeeaaGreatDoorP6
set_option linter.unusedSimpArgs false
set_option linter.unusedVariables false
namespace Go.Proofs.YtimbikbbbfpeeaaGreatDoor
open Go Go.RowKit
attribute [local go_sem] yields yUpon

theorem Touch9.refl (w : World) (q : Nat) : Touch9 w w q := ⟨rfl, rfl, rfl, Nat.le_refl _, fun _ _ _ => rfl⟩
theorem Touch9.of_ext {w a : World} (h : Ext w a) (q : Nat) : Touch9 w a q := ⟨h.os, h.tape, h.output, h.size, fun k hk _ => h.block k hk⟩
theorem Touch9.trans {a b c : World} {q : Nat} (h : Touch9 a b q) (k : Touch9 b c q) : Touch9 a c q :=
  ⟨k.os.trans h.os, k.tape.trans h.tape, k.output.trans h.output, Nat.le_trans h.size k.size, fun i hi hn => (k.block i (Nat.lt_of_lt_of_le hi h.size) hn).trans (h.block i hi hn)⟩
theorem Touch9.drewN {a w : World} {q : Nat} (h : Touch9 a w q) (n : Nat) : Touch9 a (w.drewN n) q := ⟨h.os, h.tape, h.output, h.size, h.block⟩
theorem Touch9.alloc {a w : World} {q : Nat} (h : Touch9 a w q) (o : Obj) : Touch9 a (w.alloc o) q := h.more ((Ext.refl w).alloc o)
/-- A new thing: what turns a block that was not there lets memory grow. -/
theorem Touch9.fresh {a w w' : World} {q : Nat} (h : Touch9 w w' q) (hE : Ext a w) (hq : a.heap.size ≤ q) : Ext a w' := h.ext hE hq

/-- A reader in memory: its bytes (a slice v), the next place, what is wrong. -/
structure RdAt (w : World) (q : Nat) (v : Value) (B : List UInt8) (s : Nat × Int) : Prop where
  box : BoxAt w q #[v, .int .i64 (s.1 : Int), .int .i64 s.2] 197
  bytes : BytesIn w v B
  off : ∀ b o k c, v = .slice (some ⟨b, o, none⟩) k c → b ≠ q
  le : s.1 ≤ B.length
  big : B.length ≤ 900000
section
variable {w w' : World} {q : Nat} {v : Value} {B : List UInt8} {s : Nat × Int}
theorem RdAt.ext (h : RdAt w q v B s) (hE : Ext w w') : RdAt w' q v B s := ⟨h.box.ext hE, h.bytes.ext hE, h.off, h.le, h.big⟩
theorem RdAt.c0 (h : RdAt w q v B s) : w.cell? ⟨q, 0, none⟩ = some v := h.box.cell 0
theorem RdAt.c1 (h : RdAt w q v B s) : w.cell? ⟨q, 1, none⟩ = some (.int .i64 (s.1 : Int)) := h.box.cell 1
theorem RdAt.c2 (h : RdAt w q v B s) : w.cell? ⟨q, 2, none⟩ = some (.int .i64 s.2) := h.box.cell 2
theorem RdAt.f1 (h : RdAt w q v B s) : w.frozen? ⟨q, 1, none⟩ = false := h.box.free 1
theorem RdAt.f2 (h : RdAt w q v B s) : w.frozen? ⟨q, 2, none⟩ = false := h.box.free 2
theorem RdAt.lt (h : RdAt w q v B s) : q < w.heap.size := BoxAt.lt h.box
theorem RdAt.set1 (h : RdAt w q v B s) (i : Nat) (hi : i ≤ B.length) : RdAt (w.setCell ⟨q, 1, none⟩ (.int .i64 (i : Int))) q v B (i, s.2) := ⟨h.box.set 1 _, slice_off h.bytes h.off, h.off, hi, h.big⟩
theorem RdAt.set2 (h : RdAt w q v B s) (e : Int) : RdAt (w.setCell ⟨q, 2, none⟩ (.int .i64 e)) q v B (s.1, e) := ⟨h.box.set 2 _, slice_off h.bytes h.off, h.off, h.le, h.big⟩
theorem RdAt.shape (h : RdAt w q v B s) : ∃ a c, v = .slice a B.length c ∧ B.length ≤ c ∧ c ≤ 9223372036854775807 ∧ ∀ k (hk : k < B.length), ∃ b o, a = some ⟨b, o, none⟩ ∧ w.cell? ⟨b, o + k, none⟩ = some (.int .u8 (B[k].toNat : Int)) := by
  obtain ⟨a, c, rfl, h1, h2, _, h3⟩ := h.bytes
  unfold maxLen at h2
  refine ⟨a, c, rfl, h1, by omega, fun k hk => ?_⟩
  obtain ⟨b, o, e, hc⟩ := h3 k (.int .u8 (B[k].toNat : Int)) (by simp [bcells, hk])
  exact ⟨b, o, e, hc⟩
end

def failR (k : Int) (s : Nat × Int) : Nat × Int := if s.2 = 0 then (s.1, k) else s
/-- The next number, whatever it is. -/
def anyR (B : List UInt8) (s : Nat × Int) : Nat × (Nat × Int) :=
  if s.2 = 0 then (if (getNum B s.1).2.2 = 0 then ((getNum B s.1).1, ((getNum B s.1).2.1.toNat, 0)) else (0, (s.1, (getNum B s.1).2.2))) else (0, s)
def numR (B : List UInt8) (s : Nat × Int) : Nat × (Nat × Int) := if (anyR B s).1 ≤ 1099511627776 then anyR B s else (0, failR 6 (anyR B s).2)
def cntR (B : List UInt8) (s : Nat × Int) : Nat × (Nat × Int) :=
  if (anyR B s).1 ≤ B.length - (anyR B s).2.1 then (if (anyR B s).2.2 = 0 then anyR B s else (0, (anyR B s).2)) else (0, failR 8 (anyR B s).2)
def txtR (B : List UInt8) (s : Nat × Int) : ByteArray × (Nat × Int) := (str ((B.drop (cntR B s).2.1).take (cntR B s).1), ((cntR B s).2.1 + (cntR B s).1, (cntR B s).2.2))
def truR (B : List UInt8) (s : Nat × Int) : Bool × (Nat × Int) :=
  if s.2 = 0 then (match B[s.1]? with | none => (false, (s.1, 8)) | some b => (b == 1, (s.1 + 1, if 1 < b.toNat then 6 else 0))) else (false, s)

theorem getNumN_next {B : List UInt8} {i : Nat} : (getNumN B i).2.2 = 0 → 0 ≤ (getNumN B i).2.1 ∧ (getNumN B i).2.1.toNat ≤ B.length ∧ i < (getNumN B i).2.1.toNat := by
  unfold getNumN
  split
  · intro h; simp at h
  · split
    · split
      · intro h; simp at h
      · split
        · intro h; simp at h
        · split
          · intro h; simp at h
          · intro _
            simp only
            omega
    · intro h; simp at h
theorem getNumN_lt {B : List UInt8} {i : Nat} : (getNumN B i).1 < 18446744073709551616 := by
  unfold getNumN
  repeat' split
  all_goals try (simp; done)
  rename_i h1 h2 h3 h4 h5
  have h := valB_lt _ ((B.drop (i + 1)).take B[i].toNat) rfl
  have hl : ((B.drop (i + 1)).take B[i].toNat).length ≤ 8 := by rw [List.length_take]; omega
  have hp : 256 ^ ((B.drop (i + 1)).take B[i].toNat).length ≤ 256 ^ 8 := Nat.pow_le_pow_right (by decide) hl
  exact Nat.lt_of_lt_of_le h (Nat.le_trans hp (by decide))
theorem getNum_nat (B : List UInt8) (i : Nat) : getNum B (i : Int) = getNumN B i := by unfold getNum; rw [if_neg (by omega), Int.toNat_natCast]
theorem anyR_lt (B : List UInt8) (s : Nat × Int) : (anyR B s).1 < 18446744073709551616 := by
  unfold anyR
  rw [getNum_nat]
  have := @getNumN_lt B s.1
  repeat' split
  all_goals simp only
  all_goals omega
theorem anyR_le {B : List UInt8} {s : Nat × Int} (h : s.1 ≤ B.length) : (anyR B s).2.1 ≤ B.length := by
  unfold anyR
  rw [getNum_nat]
  split
  · split
    · rename_i h2
      exact (getNumN_next h2).2.1
    · exact h
  · exact h

set_option maxHeartbeats 400000 in
theorem rd_fail {w : World} {q : Nat} {v : Value} {B : List UInt8} {s : Nat × Int} (k : Int) (h : RdAt w q v B s) :
    Calls Tryz.prog 118 #[.pointer (some ⟨q, 0, none⟩), .int .i64 k] w fun e w' => e = .returned (.tuple #[]) ∧ RdAt w' q v B (failR k s) ∧ Touch9 w w' q := by
  have c2 := h.c2
  have f2 := h.f2
  obtain ⟨i, e⟩ := s
  simp only at c2
  by_cases he : e = 0
  · subst he
    have hf : failR k (i, 0) = (i, k) := if_pos rfl
    rw [hf]
    go_enter Tryz.func118, Tryz.ntmps118
    go_wp2
    go_end0
    exact ⟨rfl, h.set2 k, Touch9.set w 2 _⟩
  · have hf : failR k (i, e) = (i, e) := if_neg he
    rw [hf]
    go_enter Tryz.func118, Tryz.ntmps118
    go_wp2
    go_end0
    exact ⟨rfl, h, Touch9.refl w q⟩

set_option maxHeartbeats 400000 in
theorem rd_left {w : World} {q : Nat} {v : Value} {B : List UInt8} {s : Nat × Int} (h : RdAt w q v B s) :
    Calls Tryz.prog 161 #[.pointer (some ⟨q, 0, none⟩)] w fun e w' => e = .returned (.int .i64 ((B.length - s.1 : Nat) : Int)) ∧ Ext w w' := by
  have c0 := h.c0
  have c1 := h.c1
  have hle := h.le
  have hbig := h.big
  obtain ⟨a, c, rfl, _⟩ := h.shape
  obtain ⟨i, e⟩ := s
  simp only at c1 hle ⊢
  go_enter Tryz.func161, Tryz.ntmps161
  go_wp2
  go_quiet (fail)
  go_wp2
  go_ret
  exact ⟨ret_int (by omega), (Ext.refl w).drewN _⟩
set_option maxRecDepth 100000 in
set_option maxHeartbeats 1000000 in
theorem rd_any {w : World} {q : Nat} {v : Value} {B : List UInt8} {s : Nat × Int} (h : RdAt w q v B s) :
    Calls Tryz.prog 160 #[.pointer (some ⟨q, 0, none⟩)] w fun e w' => e = .returned (.int .u64 ((anyR B s).1 : Int)) ∧ RdAt w' q v B (anyR B s).2 ∧ Touch9 w w' q := by
  have c0 := h.c0
  have c1 := h.c1
  have c2 := h.c2
  have f1 := h.f1
  have hle := h.le
  have hbig := h.big
  obtain ⟨a, c, rfl, _⟩ := h.shape
  obtain ⟨i, e⟩ := s
  simp only at c1 c2 hle
  by_cases he : e = 0
  · subst he
    obtain ⟨V, N, K, hg⟩ : ∃ V N K, getNum B (i : Int) = (V, N, K) := ⟨_, _, _, rfl⟩
    have hcall : ∀ n, Calls Tryz.prog 100 #[.slice a B.length c, .int .i64 (i : Int)] (w.drewN n) fun e w'' => e = .returned (.tuple #[.int .u64 (V : Int), .int .i64 N, .int .i64 K]) ∧ w'' = w.drewN n := fun n => by
      have hx := getNum_any (.slice a B.length c) B (i : Int) (w.drewN n) (h.bytes.ext ((Ext.refl w).drewN n)) (by omega)
      rw [hg] at hx
      exact hx.mono fun e w'' hh => ⟨hh.1, hh.2.symm⟩
    by_cases hK : K = 0
    · subst hK
      have hn : N = ((N.toNat : Nat) : Int) ∧ N.toNat ≤ B.length := by
        have := @getNumN_next B i
        rw [← getNum_nat, hg] at this
        have := this rfl
        simp only at this
        omega
      have e1 : Hid (anyR B (i, 0) = (V, (N.toNat, 0))) := Lib.hid (by unfold anyR; rw [if_pos rfl, hg]; rfl)
      have HC := Lib.hid hcall
      have HN := Lib.hid hn
      rw [e1.out]
      clear hcall hg hn e1
      go_enter Tryz.func160, Tryz.ntmps160
      go_wp2
      go_quiet (first | (go_at_call 100; go_must (refine Calls.quiet_of_same (HC.out _))))
      go_wp2
      go_ret
      rw [HN.out.1]
      exact ⟨rfl, (h.ext ((Ext.refl w).drewN nq)).set1 _ HN.out.2, (Touch9.refl w q).drewN nq |>.put 1 _⟩
    · have e1 : Hid (anyR B (i, 0) = (0, (i, K))) := Lib.hid (by unfold anyR; rw [if_pos rfl, hg, if_neg hK])
      have HC := Lib.hid hcall
      rw [e1.out]
      clear hcall hg e1
      go_enter Tryz.func160, Tryz.ntmps160
      go_wp2
      go_quiet (first | (go_at_call 100; go_must (refine Calls.quiet_of_same (HC.out _))))
      go_wp2_with (go_at_call 118; go_must (refine (rd_fail K (h.ext ((Ext.refl w).drewN nq))).mono ?_); rintro e w1 ⟨rfl, h1, hT1⟩)
      go_ret
      exact ⟨rfl, h1, ((Touch9.refl w q).drewN nq).trans hT1⟩
  · have e1 : anyR B (i, e) = (0, (i, e)) := by unfold anyR; rw [if_neg he]
    rw [e1]
    go_enter Tryz.func160, Tryz.ntmps160
    go_wp2
    go_ret
    exact ⟨rfl, h, Touch9.refl w q⟩

set_option maxHeartbeats 1000000 in
theorem rd_number {w : World} {q : Nat} {v : Value} {B : List UInt8} {s : Nat × Int} (h : RdAt w q v B s) :
    Calls Tryz.prog 116 #[.pointer (some ⟨q, 0, none⟩)] w fun e w' => e = .returned (.int .i64 ((numR B s).1 : Int)) ∧ RdAt w' q v B (numR B s).2 ∧ Touch9 w w' q := by
  obtain ⟨V, S, hV⟩ : ∃ V S, anyR B s = (V, S) := ⟨_, _, rfl⟩
  have hA := rd_any h
  rw [hV] at hA
  simp only at hA
  have HA := Lib.hid hA
  have hlt := anyR_lt B s
  rw [hV] at hlt
  simp only at hlt
  clear hA
  by_cases hc : V ≤ 1099511627776
  · have e1 : numR B s = (V, S) := by unfold numR; rw [hV]; exact if_pos hc
    rw [e1]
    have d : ¬ (1099511627776 : Int) < (V : Int) := by omega
    clear e1 hV
    go_enter Tryz.func116, Tryz.ntmps116
    go_wp2_with (go_at_call 160; go_must (refine HA.out.mono ?_); rintro e w1 ⟨rfl, h1, hT1⟩)
    go_ret
    exact ⟨ret_int (by omega), h1, hT1⟩
  · have e1 : numR B s = (0, failR 6 S) := by unfold numR; rw [hV]; exact if_neg hc
    rw [e1]
    have d : decide ((1099511627776 : Int) < (V : Int)) = true := decide_eq_true (by omega)
    clear e1 hV
    go_enter Tryz.func116, Tryz.ntmps116
    go_wp2_with (first
      | (go_at_call 160; go_must (refine HA.out.mono ?_); rintro e w1 ⟨rfl, h1, hT1⟩)
      | (go_at_call 118; go_must (refine (rd_fail 6 h1).mono ?_); rintro e w2 ⟨rfl, h2, hT2⟩))
    go_ret
    exact ⟨rfl, h2, hT1.trans hT2⟩
end Go.Proofs.YtimbikbbbfpeeaaGreatDoor

/- b[lo:hi] of a slice of bytes, as one opaque value that reads as those bytes; string(..) of it. -/
namespace Go.Proofs.YtimbikbbbfpeeaaGreatDoor
open Go Go.RowKit

def subV (a : Option Addr) (c lo hi : Nat) : Value := .slice (if c = lo then a else a.map (·.add lo)) (hi - lo) (c - lo)
section
variable {ops : Array Oper} {Q : Exit → Act → World → Prop} {a : Act} {w : World} {rest : List Oper} {o : Oper}
theorem size_u8 : (Tryz.prog.info? 5).map (·.size) = some 1 := by kernel_rfl
theorem run_sub {ad : Option Addr} {n c lo hi : Nat} (h1 : lo ≤ hi) (h2 : hi ≤ n) (h3 : n ≤ c) (w : World) :
    (Instr.sliceAt 61 (.slice ad n c) (some (.int .i64 (lo : Int))) (some (.int .i64 (hi : Int))) none).run Tryz.prog w = .ok (subV ad c lo hi) w := by
  obtain ⟨i, hi', hs⟩ := Option.map_eq_some_iff.1 size_u8
  have e1 : (0 : Int) ≤ (lo : Int) ∧ (lo : Int) ≤ (hi : Int) := ⟨by omega, by omega⟩
  have e2 : (0 : Int) ≤ (hi : Int) ∧ (hi : Int) ≤ (c : Int) := ⟨by omega, by omega⟩
  have e3 : lo ≤ hi := h1
  have e4 : hi ≤ c := by omega
  simp [Instr.sliceAt, Instr.slice, Instr.sliceBounds, Instr.sliceBound, run_underlying und_bytes, sizeOf, typeInfo, hi', hs, go_sem, e1, e2, e3, e4, subV]
theorem sub_bytes {ad : Option Addr} {n c lo hi : Nat} {l : List UInt8} (h : BytesIn w (.slice ad n c) l) (h1 : lo ≤ hi) (h2 : hi ≤ l.length) : BytesIn w (subV ad c lo hi) ((l.drop lo).take (hi - lo)) := by
  obtain ⟨a', c', e, hc, hcm, ha, hcell⟩ := h
  injection e with e1 e2 e3
  subst e1 e2 e3
  have hl : ((l.drop lo).take (hi - lo)).length = hi - lo := by simp; omega
  refine ⟨_, c - lo, by rw [hl]; rfl, by rw [hl]; omega, by omega, fun e => ?_, fun j u hj => ?_⟩
  · split at e
    · omega
    · cases ad with
      | none => have := ha rfl; omega
      | some x => cases e
  · simp only [bcells, List.getElem?_map, List.getElem?_take, List.getElem?_drop] at hj
    by_cases hjl : j < hi - lo
    · rw [if_pos hjl] at hj
      obtain ⟨b, o, rfl, h⟩ := hcell (lo + j) u (by simpa [bcells] using hj)
      refine ⟨b, o + lo, ?_, by rw [show o + lo + j = o + (lo + j) by omega]; exact h⟩
      rw [if_neg (by omega)]
      simp [Addr.add_lit]
    · rw [if_neg hjl] at hj; cases hj
theorem wpList_sub (hw : Region.wanted o (yielded ops a.tmps) = true) (s x y : Operand) (hop : o.op = Op.slice 61 s (some x) (some y) none) {ad : Option Addr} {c lo hi : Nat} {l : List UInt8} (hs : a.eval s = .slice ad l.length c) (hx : a.eval x = .int .i64 (lo : Int)) (hy : a.eval y = .int .i64 (hi : Int))
    (h : BytesIn w (.slice ad l.length c) l) (h1 : lo ≤ hi) (h2 : hi ≤ l.length) (hK : ∀ u, BytesIn w u ((l.drop lo).take (hi - lo)) → wpList Tryz.prog ops Q rest (a.put o.dst u) w) : wpList Tryz.prog ops Q (o :: rest) a w := by
  have hlc : l.length ≤ c := by obtain ⟨a', c', e, hc, _⟩ := h; cases e; exact hc
  unfold wpList
  rw [if_pos hw]
  refine .inl (yields_wp (R := fun v w' => v = subV ad c lo hi ∧ w' = w) ?_ fun v w' ⟨e1, e2⟩ => by rw [e1, e2]; exact hK _ (sub_bytes h h1 h2))
  unfold yields execOp
  simp only [hop, Option.map_some, Option.map_none, hs, hx, hy, Sem.run_bind, run_sub h1 h2 hlc, Result.andThen_ok, Sem.run_pure]
  exact ⟨rfl, rfl⟩
theorem wpList_text (hw : Region.wanted o (yielded ops a.tmps) = true) (x : Operand) (hop : o.op = .convert 61 9 x) {l : List UInt8} (h : BytesIn w (a.eval x) l) (hK : ∀ s : ByteArray, Hid (s.data.toList = l) → s.size = l.length → wpList Tryz.prog ops Q rest (a.put o.dst (.string s)) w) : wpList Tryz.prog ops Q (o :: rest) a w :=
  wpList_convert_bytes hw 61 9 5 x hop und_bytes und_u8 und_string h (hK _ (Lib.hid rfl) (by simp))
end
end Go.Proofs.YtimbikbbbfpeeaaGreatDoor

/- pack's reader: count, text, truth. -/
namespace Go.Proofs.YtimbikbbbfpeeaaGreatDoor
open Go Go.RowKit
attribute [local go_sem] yields yUpon

theorem cntR_le {B : List UInt8} {s : Nat × Int} (h : s.1 ≤ B.length) : (cntR B s).2.1 + (cntR B s).1 ≤ B.length := by
  have := anyR_le h
  unfold cntR failR
  repeat' split
  all_goals (try simp only)
  all_goals omega
set_option maxRecDepth 100000 in
set_option maxHeartbeats 1000000 in
theorem rd_count {w : World} {q : Nat} {v : Value} {B : List UInt8} {s : Nat × Int} (h : RdAt w q v B s) :
    Calls Tryz.prog 157 #[.pointer (some ⟨q, 0, none⟩)] w fun e w' => e = .returned (.int .i64 ((cntR B s).1 : Int)) ∧ RdAt w' q v B (cntR B s).2 ∧ Touch9 w w' q := by
  obtain ⟨V, i, e, hV⟩ : ∃ V i e, anyR B s = (V, i, e) := ⟨_, _, _, rfl⟩
  have hA := rd_any h
  have hlt := anyR_lt B s
  have hbig := h.big
  rw [hV] at hA hlt
  simp only at hA hlt
  have HA := Lib.hid hA
  clear hA
  obtain ⟨lf, hlf⟩ : ∃ lf, lf = B.length - i := ⟨_, rfl⟩
  have hw : IntKind.u64.wrap (lf : Int) = (lf : Int) := by rw [IntKind.wrap_u64]; omega
  have hwV : lf = B.length - i := hlf
  have HLF := Lib.hid hlf
  clear hlf
  by_cases hc : V ≤ B.length - i
  · have d : ¬ ((lf : Int) < (V : Int)) := by omega
    clear hwV
    by_cases he : e = 0
    · subst he
      have e1 : cntR B s = (V, i, 0) := by unfold cntR; rw [hV]; simp [hc]
      rw [e1]
      clear e1 hV
      go_enter Tryz.func157, Tryz.ntmps157
      go_wp2_with (first
        | (go_at_call 160; go_must (refine HA.out.mono ?_); rintro e w1 ⟨rfl, h1, hT1⟩)
        | (go_at_call 161; go_must (refine (rd_left h1).mono ?_); rintro e w2 ⟨he2, hE2⟩; rw [show (B.length - ((i, e).1 : Nat) : Nat) = lf from HLF.out.symm] at he2; subst he2; have h2 := h1.ext hE2; have c2 := h2.c2))
      go_ret
      exact ⟨ret_int (by first | omega | (simp only [wrap64]; omega)), h2, hT1.more hE2⟩
    · have e1 : cntR B s = (0, i, e) := by unfold cntR; rw [hV]; simp only; rw [if_pos hc, if_neg he]
      rw [e1]
      clear e1 hV
      go_enter Tryz.func157, Tryz.ntmps157
      go_wp2_with (first
        | (go_at_call 160; go_must (refine HA.out.mono ?_); rintro e w1 ⟨rfl, h1, hT1⟩)
        | (go_at_call 161; go_must (refine (rd_left h1).mono ?_); rintro e w2 ⟨he2, hE2⟩; rw [show (B.length - ((i, e).1 : Nat) : Nat) = lf from HLF.out.symm] at he2; subst he2; have h2 := h1.ext hE2; have c2 := h2.c2))
      go_ret
      exact ⟨rfl, h2, hT1.more hE2⟩
  · have d : decide (lf < V) = true := decide_eq_true (by omega)
    clear hwV
    obtain ⟨E, hE, hE0⟩ : ∃ E, failR 8 (i, e) = (i, E) ∧ ¬ E = 0 := by
      by_cases he : e = 0
      · exact ⟨8, by unfold failR; rw [if_pos he], by decide⟩
      · exact ⟨e, by unfold failR; rw [if_neg he], he⟩
    have e1 : cntR B s = (0, i, E) := by unfold cntR; rw [hV]; simp only; rw [if_neg hc, hE]
    rw [e1]
    have HE := Lib.hid hE
    clear e1 hV hE
    go_enter Tryz.func157, Tryz.ntmps157
    go_wp2_with (first
      | (go_at_call 160; go_must (refine HA.out.mono ?_); rintro e w1 ⟨rfl, h1, hT1⟩)
      | (go_at_call 161; go_must (refine (rd_left h1).mono ?_); rintro e w2 ⟨he2, hE2⟩; rw [show (B.length - ((i, e).1 : Nat) : Nat) = lf from HLF.out.symm] at he2; subst he2; have h2 := h1.ext hE2; have c2 := h2.c2)
      | (go_at_call 118; go_must (refine (rd_fail 8 h2).mono ?_); rintro e w3 ⟨rfl, h3, hT3⟩; rw [HE.out] at h3; have d2 : w3.cell? ⟨q, 2, none⟩ = some (.int .i64 E) := h3.c2))
    go_ret
    exact ⟨rfl, h3, (hT1.more hE2).trans hT3⟩

theorem yields_sub {o : Oper} {a : Act} {w : World} {R : Value → World → Prop} (s x y : Operand) (hop : o.op = Op.slice 61 s (some x) (some y) none) {ad : Option Addr} {n c lo hi : Nat} (hs : a.eval s = .slice ad n c) (hx : a.eval x = .int .i64 (lo : Int)) (hy : a.eval y = .int .i64 (hi : Int))
    (h1 : lo ≤ hi) (h2 : hi ≤ n) (h3 : n ≤ c) (hR : R (subV ad c lo hi) w) : yields Tryz.prog o a w R := by
  unfold yields execOp
  simp only [hop, Option.map_some, Option.map_none, hs, hx, hy, Sem.run_bind, run_sub h1 h2 h3, Result.andThen_ok, Sem.run_pure]
  exact hR

set_option maxRecDepth 100000 in
set_option maxHeartbeats 2000000 in
theorem rd_text {w : World} {q : Nat} {v : Value} {B : List UInt8} {s : Nat × Int} (h : RdAt w q v B s) :
    Calls Tryz.prog 158 #[.pointer (some ⟨q, 0, none⟩)] w fun e w' => e = .returned (.string (txtR B s).1) ∧ RdAt w' q v B (txtR B s).2 ∧ Touch9 w w' q := by
  have hcl := cntR_le h.le
  have hA := rd_count h
  have hbig := h.big
  unfold txtR
  obtain ⟨N, i, e, hV⟩ : ∃ N i e, cntR B s = (N, i, e) := ⟨_, _, _, rfl⟩
  rw [hV] at hA hcl ⊢
  simp only at hA hcl ⊢
  have HA := Lib.hid hA
  obtain ⟨a, c, rfl, hlc, hcm, _⟩ := h.shape
  obtain ⟨X, hX⟩ : ∃ X, X = str ((B.drop i).take N) := ⟨_, rfl⟩
  rw [← hX]
  have HX := Lib.hid hX
  obtain ⟨j, hj⟩ : ∃ j : Nat, (i : Int) + (N : Int) = (j : Int) ∧ j = i + N := ⟨i + N, by omega, rfl⟩
  have hj1 := hj.1
  have hj2 := Lib.hid hj.2
  clear hA hV hX hj
  go_enter Tryz.func158, Tryz.ntmps158
  go_wp2_with (go_at_call 157; go_must (refine HA.out.mono ?_); rintro e w1 ⟨rfl, h1, hT1⟩; have c0 := h1.c0; have c1 : w1.cell? ⟨q, 1, none⟩ = some (.int .i64 (i : Int)) := h1.c1)
  refine wp_region_tab 17 [(1, fun v _ => v = .pointer (some ⟨q, 0, none⟩)), (5, fun v _ => v = .pointer (some ⟨q, 0, none⟩)), (9, fun v _ => v = .pointer (some ⟨q, 0, none⟩)), (14, fun v _ => v = subV a c i j), (15, fun v _ => v = .string X)] (by kernel_rfl) (by kernel_rfl) (by kernel_rfl) ⟨stays_eq _, stays_eq _, stays_eq _, stays_eq _, stays_eq _, trivial⟩ ?_
  replace c0 := held c0
  replace c1 := held c1
  refine rg_quiet rfl rfl rfl rfl ?_; intro K hK; go_big_quiet_op; go_big_quiet_on
  refine rg_val [] rfl rfl rfl (by kernel_rfl) (fun w1 hE hf => ?_) ?_
  · go_simp
    exact rg_done hE (Ext.refl w1) rfl
  simp only [Act.put, List.setIfInBounds_toArray, List.set_cons_zero, List.set_cons_succ]
  refine rg_quiet rfl rfl rfl rfl ?_; intro K hK; go_big_quiet_op; go_big_quiet_on
  refine rg_quiet rfl rfl rfl rfl ?_; intro K hK; go_big_quiet_op; go_big_quiet_on
  refine rg_quiet rfl rfl rfl rfl ?_; intro K hK; go_big_quiet_op; go_big_quiet_on
  refine rg_val [] rfl rfl rfl (by kernel_rfl) (fun w1 hE hf => ?_) ?_
  · go_simp
    exact rg_done hE (Ext.refl w1) rfl
  simp only [Act.put, List.setIfInBounds_toArray, List.set_cons_zero, List.set_cons_succ]
  refine rg_quiet rfl rfl rfl rfl ?_; intro K hK; go_big_quiet_op; go_big_quiet_on
  refine rg_quiet rfl rfl rfl rfl ?_; intro K hK; go_big_quiet_op; go_big_quiet_on
  refine rg_quiet rfl rfl rfl rfl ?_; intro K hK; go_big_quiet_op; go_big_quiet_on
  refine rg_val [] rfl rfl rfl (by kernel_rfl) (fun w1 hE hf => ?_) ?_
  · go_simp
    exact rg_done hE (Ext.refl w1) rfl
  simp only [Act.put, List.setIfInBounds_toArray, List.set_cons_zero, List.set_cons_succ]
  refine rg_quiet rfl rfl rfl rfl ?_; intro K hK; go_big_quiet_op; go_big_quiet_on
  refine rg_quiet rfl rfl rfl rfl ?_; intro K hK; go_big_quiet_op; go_big_quiet_on
  refine rg_quiet rfl rfl rfl rfl ?_; intro K hK; go_big_quiet_op; go_big_quiet_on
  refine rg_quiet rfl rfl rfl rfl ?_; intro K hK; go_big_quiet_op; go_big_quiet_on
  refine rg_val [] rfl rfl rfl (by kernel_rfl) (fun w1 hE hf => ?_) ?_
  · exact yields_sub (.tmp 10) (.tmp 14) (.tmp 20) rfl (n := B.length) (by rfl) (by rfl) (by rfl) (by rw [hj2.out]; omega) (by rw [hj2.out]; omega) hlc (rg_done hE (Ext.refl w1) rfl)
  simp only [Act.put, List.setIfInBounds_toArray, List.set_cons_zero, List.set_cons_succ]
  refine rg_val [] rfl rfl rfl (by kernel_rfl) (fun w1 hE hf => ?_) ?_
  · refine yields_convert_bytes 61 9 5 (.tmp 21) rfl und_bytes und_u8 und_string (l := (B.drop i).take N) ?_ ?_
    · have := sub_bytes (h1.bytes.ext hE) (lo := i) (hi := j) (by rw [hj2.out]; omega) (by rw [hj2.out]; omega)
      rw [show j - i = N by rw [hj2.out]; omega] at this
      exact this
    · rw [← HX.out]
      exact rg_done hE (Ext.refl w1) rfl
  simp only [Act.put, List.setIfInBounds_toArray, List.set_cons_zero, List.set_cons_succ]
  refine rg_quiet rfl rfl rfl rfl ?_; intro K hK; go_big_quiet_op; go_big_quiet_on
  refine rel_nil fun w2 hE2 hG => ?_
  clear hG c0 c1
  have h2 := h1.ext hE2
  have c1 : w2.cell? ⟨q, 1, none⟩ = some (.int .i64 (i : Int)) := h2.c1
  have f1 := h2.f1
  go_wp2_with fail
  go_ret
  rw [← hj2.out]
  exact ⟨rfl, h2.set1 j (by rw [hj2.out]; omega), (hT1.more hE2).put 1 _⟩

set_option maxRecDepth 100000 in
set_option maxHeartbeats 2000000 in
theorem rd_truth {w : World} {q : Nat} {v : Value} {B : List UInt8} {s : Nat × Int} (h : RdAt w q v B s) :
    Calls Tryz.prog 238 #[.pointer (some ⟨q, 0, none⟩)] w fun e w' => e = .returned (.bool (truR B s).1) ∧ RdAt w' q v B (truR B s).2 ∧ Touch9 w w' q := by
  have hle := h.le
  have hbig := h.big
  have c0 := h.c0
  have c1 := h.c1
  have c2 := h.c2
  obtain ⟨i, e⟩ := s
  simp only at hle c1 c2
  obtain ⟨a, c, rfl, hlc, hcm, hget⟩ := h.shape
  by_cases he : e = 0
  · subst he
    by_cases hi : i < B.length
    · obtain ⟨b, o, rfl, hb⟩ := hget i hi
      obtain ⟨x, hx⟩ : ∃ x, x = B[i].toNat := ⟨_, rfl⟩
      have hx256 : x < 256 := by rw [hx]; exact B[i].toNat_lt
      have e1 : truR B (i, 0) = (decide (x = 1), (i + 1, if 1 < x then 6 else 0)) := by
        unfold truR
        rw [if_pos rfl, List.getElem?_eq_getElem hi, hx]
        simp only
        congr 1
        rw [Bool.eq_iff_iff, beq_iff_eq, decide_eq_true_eq]
        constructor
        · intro h; rw [h]; rfl
        · intro h; exact UInt8.toNat.inj (by rw [h]; rfl)
      rw [← hx] at hb
      rw [e1]
      have hnz : ¬ ((B.length - i : Nat) : Int) = 0 := by omega
      have hb2 : (i : Int) < (B.length : Int) := by omega
      clear hx e1 hget
      by_cases hg : 1 < x
      · have d : decide ((1 : Int) < (x : Int)) = true := decide_eq_true (by omega)
        rw [if_pos hg]
        go_enter Tryz.func238, Tryz.ntmps238
        go_wp2_with (first
          | (go_at_call 161; go_must (refine (rd_left h).mono ?_); rintro e w2 ⟨rfl, hE2⟩; have h2 := h.ext hE2; have d0 := h2.c0; have d1 : w2.cell? ⟨q, 1, none⟩ = some (.int .i64 (i : Int)) := h2.c1; have d2 : w2.cell? ⟨q, 2, none⟩ = some (.int .i64 0) := h2.c2; have hbb := hE2.cell hb; have f1 := h2.f1))
        go_quiet (fail)
        have h3 := h2.ext ((Ext.refl w2).drewN nq)
        have hs := h3.set1 (i + 1) (by omega)
        go_wp2_with (go_at_call 118; go_must (refine (rd_fail 6 hs).mono ?_); rintro e w3 ⟨rfl, h4, hT4⟩)
        go_ret
        exact ⟨ret_bool (by rw [Bool.eq_iff_iff]; simp; omega), h4, ((((Touch9.refl w q).more hE2).drewN nq).put 1 _).trans hT4⟩
      · have d : ¬ (1 : Int) < (x : Int) := by omega
        rw [if_neg hg]
        go_enter Tryz.func238, Tryz.ntmps238
        go_wp2_with (first
          | (go_at_call 161; go_must (refine (rd_left h).mono ?_); rintro e w2 ⟨rfl, hE2⟩; have h2 := h.ext hE2; have d0 := h2.c0; have d1 : w2.cell? ⟨q, 1, none⟩ = some (.int .i64 (i : Int)) := h2.c1; have d2 : w2.cell? ⟨q, 2, none⟩ = some (.int .i64 0) := h2.c2; have hbb := hE2.cell hb; have f1 := h2.f1))
        go_quiet (fail)
        have h3 := h2.ext ((Ext.refl w2).drewN nq)
        have hs := h3.set1 (i + 1) (by omega)
        go_wp2_with fail
        go_ret
        exact ⟨ret_bool (by rw [Bool.eq_iff_iff]; simp; omega), hs, (((Touch9.refl w q).more hE2).drewN nq).put 1 _⟩
    · have hz : ((B.length - i : Nat) : Int) = 0 := by omega
      have e1 : truR B (i, 0) = (false, (i, 8)) := by
        unfold truR
        rw [if_pos rfl, List.getElem?_eq_none (by omega)]
      have hf : Hid (failR 8 (i, 0) = (i, 8)) := Lib.hid (if_pos rfl)
      rw [e1]
      have HZ := Lib.hid hz
      clear e1 hget hz
      go_enter Tryz.func238, Tryz.ntmps238
      go_wp2_with (first
        | (go_at_call 161; go_must (refine (rd_left h).mono ?_); rintro e w2 ⟨rfl, hE2⟩; rw [HZ.out]; have h2 := h.ext hE2)
        | (go_at_call 118; go_must (refine (rd_fail 8 h2).mono ?_); rintro e w3 ⟨rfl, h3, hT3⟩; rw [hf.out] at h3; have d2 : w3.cell? ⟨q, 2, none⟩ = some (.int .i64 8) := h3.c2))
      go_ret
      exact ⟨rfl, h3, ((Touch9.refl w q).more hE2).trans hT3⟩
  · have e1 : truR B (i, e) = (false, (i, e)) := by unfold truR; rw [if_neg he]
    rw [e1]
    clear e1 hget
    go_enter Tryz.func238, Tryz.ntmps238
    go_wp2_with fail
    go_ret
    exact ⟨rfl, h, Touch9.refl w q⟩
end Go.Proofs.YtimbikbbbfpeeaaGreatDoor
