/- clerestorylaw05.do: Crash. -/
import Derived.Test.YtmjhdfifbjdgpaaS8
set_option linter.unusedSimpArgs false
set_option linter.unusedVariables false
namespace Go.Proofs.Ytmjhdfifbjdgpaa
open Go Go.RowKit
attribute [local go_sem] yields yUpon

set_option maxRecDepth 100000 in
set_option maxHeartbeats 16000000 in
theorem do_crash {w wr : World} {p m q : Nat} {log : ByteArray} {good : Nat} {F : Fl} {man : ByteArray} (kd n : Int) (h0 : -9223372036854775808 ≤ n) (h1 : n ≤ 9223372036854775807) (s : ByteArray) (hs : s.size ≤ 300) (hV : kd % 10 = 8) (h : Duo w wr p m q log good F man) :
    Calls Try.prog 25 #[.pointer (some ⟨p, 0, none⟩), .pointer (some ⟨q, 0, none⟩), .agg #[.int .i64 kd, .int .i64 n, .string s]] wr fun e w' => e = .returned (.bool true) ∧ DoAny w wr p m q w' := by
  have hE0 := (Ext.refl wr).alloc (.cells #[.int .i64 kd, .int .i64 n, .string s] 56)
  have hbx := BoxAt.made wr #[.int .i64 kd, .int .i64 n, .string s] 56
  have hD := h.grow hE0
  have hsm := h.len
  have hlen := hsm.len
  have hgl := h.shelf.good_le
  have hll := h.shelf.log_le
  have hrs := h.shelf.files.2
  have hqp := hD.qp
  have hqm := hD.qm
  have hbp : wr.heap.size ≠ p := by have := h.shelf.box.lt; omega
  have hbm : wr.heap.size ≠ m := by have := h.shelf.files.lt; omega
  have x0 := hbx.cell 0
  have x1 := hbx.cell 1
  have x2 := hbx.cell 2
  simp at x0 x1 x2
  go_enter Try.func25, Try.ntmps25
  go_wp2_with (first
    | (go_at_call 9; go_must (refine (place_any _ _ (by omega) (by omega) _).mono ?_); rintro e w3 ⟨rfl, rfl⟩; rw [hV])
    | (go_at_call 54; go_must (refine (sh_crash n h0 h1 _ hD.shelf).mono ?_); rintro e w4 ⟨⟨rfl, ht4⟩, hs4⟩; have hr4 := hD.refP ht4; have hX4 := ht4.box hbx (by simpa using hbp); have y1 := hX4.cell 1; simp at y1)
    | (go_at_call 66; go_must (refine (r5_crash n hll hgl _ hr4).mono ?_); rintro e w5 ⟨⟨rfl, ht5⟩, hr5⟩))
  go_ret
  exact ⟨rfl, DoAny.of h hE0 ht4 (by simp) hs4 (.inl rfl) ht5 hr5 hsm⟩
end Go.Proofs.Ytmjhdfifbjdgpaa

/- clerestorylaw05.do: Wipe. -/
namespace Go.Proofs.Ytmjhdfifbjdgpaa
open Go Go.RowKit
attribute [local go_sem] yields yUpon

set_option maxRecDepth 100000 in
set_option maxHeartbeats 16000000 in
theorem do_wipe {w wr : World} {p m q : Nat} {log : ByteArray} {good : Nat} {F : Fl} {man : ByteArray} (kd n : Int) (h0 : -9223372036854775808 ≤ n) (h1 : n ≤ 9223372036854775807) (s : ByteArray) (hs : s.size ≤ 300) (hV : kd % 10 = 9) (h : Duo w wr p m q log good F man) :
    Calls Try.prog 25 #[.pointer (some ⟨p, 0, none⟩), .pointer (some ⟨q, 0, none⟩), .agg #[.int .i64 kd, .int .i64 n, .string s]] wr fun e w' => e = .returned (.bool true) ∧ DoAny w wr p m q w' := by
  have hE0 := (Ext.refl wr).alloc (.cells #[.int .i64 kd, .int .i64 n, .string s] 56)
  have hbx := BoxAt.made wr #[.int .i64 kd, .int .i64 n, .string s] 56
  have hD := h.grow hE0
  have hsm := h.len
  have hlen := hsm.len
  have hgl := h.shelf.good_le
  have hll := h.shelf.log_le
  have hrs := h.shelf.files.2
  have hqp := hD.qp
  have hqm := hD.qm
  have hbp : wr.heap.size ≠ p := by have := h.shelf.box.lt; omega
  have hbm : wr.heap.size ≠ m := by have := h.shelf.files.lt; omega
  have x0 := hbx.cell 0
  have x1 := hbx.cell 1
  have x2 := hbx.cell 2
  simp at x0 x1 x2
  go_enter Try.func25, Try.ntmps25
  go_wp2_with (first
    | (go_at_call 9; go_must (refine (place_any _ _ (by omega) (by omega) _).mono ?_); rintro e w3 ⟨rfl, rfl⟩; rw [hV])
    | (go_at_call 67; go_must (refine (sh_wipe _ hD.shelf).mono ?_); rintro e w4 ⟨⟨rfl, ht4⟩, hs4⟩; have hr4 := hD.refP ht4; have c0 := hr4.c0; have c1 := hr4.c1; have c3 := hr4.c3; have f0 := hr4.free 0; have f1 := hr4.free 1; have f2 := hr4.free 2; have f3 := hr4.free 3; obtain ⟨v2, c2, _⟩ := hr4.notes))
  go_ret
  have T : Touch w4 ((((w4.setCell ⟨q, 0, none⟩ (.string ⟨#[]⟩)).setCell ⟨q, 1, none⟩ (.int .i64 0)).setCell ⟨q, 2, none⟩ (.slice none 0 0)).setCell ⟨q, 3, none⟩ (.string ⟨#[]⟩)) [q] :=
    ((Touch.set (L := [q]) (by simp)).trans ((Touch.set (L := [q]) (by simp)).trans ((Touch.set (L := [q]) (by simp)).trans (Touch.set (L := [q]) (by simp))))).mono (by simp)
  obtain ⟨v3, hb3, _⟩ := hr4.box
  have hr5 : S5At ((((w4.setCell ⟨q, 0, none⟩ (.string ⟨#[]⟩)).setCell ⟨q, 1, none⟩ (.int .i64 0)).setCell ⟨q, 2, none⟩ (.slice none 0 0)).setCell ⟨q, 3, none⟩ (.string ⟨#[]⟩)) q ⟨#[]⟩ 0 [] ⟨#[]⟩ :=
    ⟨⟨.slice none 0 0, (((hb3.set 0 _).set 1 _).set 2 _).set 3 _, World.ownsRow_nil _ _ _ _⟩⟩
  exact ⟨rfl, DoAny.of h hE0 ht4 (by simp) hs4 (.inr (by simp)) T hr5 Small5.nil⟩
end Go.Proofs.Ytmjhdfifbjdgpaa

/- clerestorylaw05.do: Drop. -/
namespace Go.Proofs.Ytmjhdfifbjdgpaa
open Go Go.RowKit
attribute [local go_sem] yields yUpon

set_option maxRecDepth 100000 in
set_option maxHeartbeats 16000000 in
theorem do_drop {w wr : World} {p m q : Nat} {log : ByteArray} {good : Nat} {F : Fl} {man : ByteArray} (kd n : Int) (h0 : -9223372036854775808 ≤ n) (h1 : n ≤ 9223372036854775807) (s : ByteArray) (hs : s.size ≤ 300) (hV : kd % 10 = 6) (h : Duo w wr p m q log good F man) :
    Calls Try.prog 25 #[.pointer (some ⟨p, 0, none⟩), .pointer (some ⟨q, 0, none⟩), .agg #[.int .i64 kd, .int .i64 n, .string s]] wr fun e w' => e = .returned (.bool true) ∧ DoAny w wr p m q w' := by
  have hE0 := (Ext.refl wr).alloc (.cells #[.int .i64 kd, .int .i64 n, .string s] 56)
  have hbx := BoxAt.made wr #[.int .i64 kd, .int .i64 n, .string s] 56
  have hD := h.grow hE0
  have hsm := h.len
  have hlen := hsm.len
  have hgl := h.shelf.good_le
  have hll := h.shelf.log_le
  have hrs := h.shelf.files.2
  have hqp := hD.qp
  have hqm := hD.qm
  have hbp : wr.heap.size ≠ p := by have := h.shelf.box.lt; omega
  have hbm : wr.heap.size ≠ m := by have := h.shelf.files.lt; omega
  have x0 := hbx.cell 0
  have x1 := hbx.cell 1
  have x2 := hbx.cell 2
  simp at x0 x1 x2
  go_enter Try.func25, Try.ntmps25
  obtain ⟨B, hB⟩ : ∃ B, B = fhas n F := ⟨_, rfl⟩
  have HB := Lib.hid hB
  clear hB
  have hBB : (B == B) = true := by simp
  go_wp2_with (first | (go_at_call 9; go_must (refine (place_any _ _ (by omega) (by omega) _).mono ?_); rintro e w3 ⟨rfl, rfl⟩; rw [hV]))
  have hXa := hbx.ext (Ext.refl _).drew
  have hDa := hD.grow (Ext.refl _).drew
  have hEa := hE0.drew
  go_region_with (first
    | (go_at_call 62; go_must (refine (sh_drop n h0 h1 _ hDa.shelf).mono ?_); rintro e w4 ⟨⟨rfl, ht4⟩, hs4⟩; have hr4 := hDa.refM ht4; have hX4 := ht4.box hXa (by simpa using hbm); have y1 := hX4.cell 1; simp at y1; rw [← HB.out])
    | (go_at_call 63; go_must (refine (r5_drop n (by omega) _ hr4 hrs).mono ?_); rintro e w5 ⟨⟨rfl, ht5⟩, hr5⟩; rw [← HB.out]))
  all_goals
    go_wp2_with fail
    go_ret
    exact ⟨rfl, DoAny.of h hEa ht4 (by simp) hs4 (.inl rfl) ht5 hr5 (hsm.del n)⟩
end Go.Proofs.Ytmjhdfifbjdgpaa

/- clerestorylaw05.do: Append. -/
namespace Go.Proofs.Ytmjhdfifbjdgpaa
open Go Go.RowKit
attribute [local go_sem] yields yUpon

set_option maxRecDepth 100000 in
set_option maxHeartbeats 16000000 in
theorem do_append {w wr : World} {p m q : Nat} {log : ByteArray} {good : Nat} {F : Fl} {man : ByteArray} (kd n : Int) (h0 : -9223372036854775808 ≤ n) (h1 : n ≤ 9223372036854775807) (s : ByteArray) (hs : s.size ≤ 300) (V : Int) (hV : kd % 10 = V) (hv : V ≠ 2 ∧ V ≠ 3 ∧ V ≠ 4 ∧ V ≠ 5 ∧ V ≠ 6 ∧ V ≠ 7 ∧ V ≠ 8 ∧ V ≠ 9) (h : Duo w wr p m q log good F man) :
    Calls Try.prog 25 #[.pointer (some ⟨p, 0, none⟩), .pointer (some ⟨q, 0, none⟩), .agg #[.int .i64 kd, .int .i64 n, .string s]] wr fun e w' => e = .returned (.bool true) ∧ DoAny w wr p m q w' := by
  have hE0 := (Ext.refl wr).alloc (.cells #[.int .i64 kd, .int .i64 n, .string s] 56)
  have hbx := BoxAt.made wr #[.int .i64 kd, .int .i64 n, .string s] 56
  have hD := h.grow hE0
  have hsm := h.len
  have hlen := hsm.len
  have hgl := h.shelf.good_le
  have hll := h.shelf.log_le
  have hrs := h.shelf.files.2
  have hqp := hD.qp
  have hqm := hD.qm
  have hbp : wr.heap.size ≠ p := by have := h.shelf.box.lt; omega
  have hbm : wr.heap.size ≠ m := by have := h.shelf.files.lt; omega
  have x0 := hbx.cell 0
  have x1 := hbx.cell 1
  have x2 := hbx.cell 2
  simp at x0 x1 x2
  go_enter Try.func25, Try.ntmps25
  have t2 : (V == 2) = false := by rw [beq_eq_false_iff_ne]; omega
  have t3 : (V == 3) = false := by rw [beq_eq_false_iff_ne]; omega
  have t4 : (V == 4) = false := by rw [beq_eq_false_iff_ne]; omega
  have t5 : (V == 5) = false := by rw [beq_eq_false_iff_ne]; omega
  have t6 : (V == 6) = false := by rw [beq_eq_false_iff_ne]; omega
  have t7 : (V == 7) = false := by rw [beq_eq_false_iff_ne]; omega
  have t8 : (V == 8) = false := by rw [beq_eq_false_iff_ne]; omega
  have t9 : (V == 9) = false := by rw [beq_eq_false_iff_ne]; omega
  clear hv
  obtain ⟨B, hB⟩ : ∃ B, B = (if log.size + s.size ≤ 262144 then (0 : Int) else 2) := ⟨_, rfl⟩
  have HB := Lib.hid hB
  clear hB
  have hBB : (B == B) = true := by simp
  go_wp2_with (first | (go_at_call 9; go_must (refine (place_any _ _ (by omega) (by omega) _).mono ?_); rintro e w3 ⟨rfl, rfl⟩; rw [hV]))
  have hXa := hbx.ext (Ext.refl _).drew
  have hDa := hD.grow (Ext.refl _).drew
  have hEa := hE0.drew
  go_region_with (first
    | (go_at_call 52; go_must (refine (sh_append s (by unfold maxLen; omega) _ hDa.shelf).mono ?_); rintro e w4 ⟨⟨rfl, ht4⟩, hs4⟩; have hr4 := hDa.refP ht4; have hX4 := ht4.box hXa (by simpa using hbp); have y2 := hX4.cell 2; simp at y2; rw [← HB.out])
    | (go_at_call 68; go_must (refine (r5_append s (by omega) hll _ hr4).mono ?_); rintro e w5 ⟨⟨rfl, ht5⟩, hr5⟩; rw [← HB.out]))
  all_goals
    go_wp2_with fail
    go_ret
    exact ⟨rfl, DoAny.of h hEa ht4 (by simp) hs4 (.inl rfl) ht5 hr5 hsm⟩
end Go.Proofs.Ytmjhdfifbjdgpaa
