/- clerestorylaw05.do: Turn. -/
import Derived.Test.YtmjhdfifbjdgpaaS8
import Derived.Test.YtmjhdfifbjdgpaaS10
import Derived.Test.YtmjhdfifbjdgpaaS11
set_option linter.unusedSimpArgs false
set_option linter.unusedVariables false
namespace Go.Proofs.Ytmjhdfifbjdgpaa
open Go Go.RowKit
attribute [local go_sem] yields yUpon

set_option maxRecDepth 100000 in
set_option maxHeartbeats 16000000 in
theorem do_turn {w wr : World} {p m q : Nat} {log : ByteArray} {good : Nat} {F : Fl} {man : ByteArray} (kd n : Int) (h0 : -9223372036854775808 ≤ n) (h1 : n ≤ 9223372036854775807) (s : ByteArray) (hs : s.size ≤ 300) (hV : kd % 10 = 7) (h : Duo w wr p m q log good F man) :
    Calls Try.prog 25 #[.pointer (some ⟨p, 0, none⟩), .pointer (some ⟨q, 0, none⟩), .agg #[.int .i64 kd, .int .i64 n, .string s]] wr fun e w' => e = .returned (.bool true) ∧ DoAny w wr p m q w' := by
  have hE0 := (Ext.refl wr).alloc (.cells #[.int .i64 kd, .int .i64 n, .string s] 56)
  have hbx := BoxAt.made wr #[.int .i64 kd, .int .i64 n, .string s] 56
  have hD := h.grow hE0
  have hsm := h.len
  have hlen := hsm.len
  have hgl := h.shelf.good_le
  have hll := h.shelf.log_le
  have hrs := h.shelf.files.2
  have hqp := hD.qp
  have hqm := hD.qm
  have hbp : wr.heap.size ≠ p := by have := h.shelf.box.lt; omega
  have hbm : wr.heap.size ≠ m := by have := h.shelf.files.lt; omega
  have x0 := hbx.cell 0
  have x1 := hbx.cell 1
  have x2 := hbx.cell 2
  simp at x0 x1 x2
  go_enter Try.func25, Try.ntmps25
  have hsl : s.size ≤ 262144 := by omega
  go_wp2_with (first | (go_at_call 9; go_must (refine (place_any _ _ (by omega) (by omega) _).mono ?_); rintro e w3 ⟨rfl, rfl⟩; rw [hV]))
  have hXa := hbx.ext (Ext.refl _).drew
  have hDa := hD.grow (Ext.refl _).drew
  have hEa := hE0.drew
  go_region_with (first
    | (go_at_call 64; go_must (refine (sh_turn s (by unfold maxLen; omega) _ hDa.shelf).mono ?_); rintro e w4 ⟨⟨rfl, ht4⟩, hs4⟩; rw [if_pos hsl] at hs4 ⊢; have hr4 := hDa.refP ht4; have hX4 := ht4.box hXa (by simpa using hbp); have y2 := hX4.cell 2; simp at y2)
    | (go_at_call 65; go_must (refine (r5_turn s (by unfold maxLen; omega) _ hr4).mono ?_); rintro e w5 ⟨⟨rfl, ht5⟩, hr5⟩; rw [if_pos hsl] at hr5 ⊢; simp only [if_pos hsl] at hr5))
  all_goals
    go_wp2_with fail
    go_ret
    exact ⟨rfl, DoAny.of h hEa ht4 (by simp) hs4 (.inl rfl) ht5 hr5 hsm⟩
end Go.Proofs.Ytmjhdfifbjdgpaa

/- clerestorylaw05.do: Put. -/
namespace Go.Proofs.Ytmjhdfifbjdgpaa
open Go Go.RowKit
attribute [local go_sem] yields yUpon

set_option maxRecDepth 100000 in
set_option maxHeartbeats 16000000 in
theorem do_put4 {w wr : World} {p m q : Nat} {log : ByteArray} {good : Nat} {F : Fl} {man : ByteArray} (kd n : Int) (h0 : -9223372036854775808 ≤ n) (h1 : n ≤ 9223372036854775807) (s : ByteArray) (hs : s.size ≤ 300) (hV : kd % 10 = 4) (h : Duo w wr p m q log good F man) :
    Calls Try.prog 25 #[.pointer (some ⟨p, 0, none⟩), .pointer (some ⟨q, 0, none⟩), .agg #[.int .i64 kd, .int .i64 n, .string s]] wr fun e w' => e = .returned (.bool true) ∧ DoAny w wr p m q w' := by
  have hE0 := (Ext.refl wr).alloc (.cells #[.int .i64 kd, .int .i64 n, .string s] 56)
  have hbx := BoxAt.made wr #[.int .i64 kd, .int .i64 n, .string s] 56
  have hD := h.grow hE0
  have hsm := h.len
  have hlen := hsm.len
  have hgl := h.shelf.good_le
  have hll := h.shelf.log_le
  have hrs := h.shelf.files.2
  have hqp := hD.qp
  have hqm := hD.qm
  have hbp : wr.heap.size ≠ p := by have := h.shelf.box.lt; omega
  have hbm : wr.heap.size ≠ m := by have := h.shelf.files.lt; omega
  have x0 := hbx.cell 0
  have x1 := hbx.cell 1
  have x2 := hbx.cell 2
  simp at x0 x1 x2
  go_enter Try.func25, Try.ntmps25
  have hplen : Hid (Small5 (if putE n s F = 0 then fput n s.data.toList F else F)) := Lib.hid (hsm.put hrs n s)
  obtain ⟨B, hB⟩ : ∃ B, B = putE n s F := ⟨_, rfl⟩
  have HB := Lib.hid hB
  clear hB
  have hBB : (B == B) = true := by simp
  go_wp2_with (first | (go_at_call 9; go_must (refine (place_any _ _ (by omega) (by omega) _).mono ?_); rintro e w3 ⟨rfl, rfl⟩; rw [hV]))
  have hXa := hbx.ext (Ext.refl _).drew
  have hDa := hD.grow (Ext.refl _).drew
  have hEa := hE0.drew
  go_region_with (first
    | (go_at_call 60; go_must (refine (sh_put n h0 h1 s (by unfold maxLen; omega) hlen _ hDa.shelf).mono ?_); rintro e w4 ⟨⟨rfl, ht4⟩, hs4⟩; have hr4 := hDa.refM ht4; have hX4 := ht4.box hXa (by simpa using hbm); have y1 := hX4.cell 1; have y2 := hX4.cell 2; simp at y1 y2; rw [← HB.out])
    | (go_at_call 61; go_must (refine (r5_put n s (by omega) _ hr4 hrs).mono ?_); rintro e w5 ⟨⟨rfl, ht5⟩, hr5⟩; rw [← HB.out]))
  all_goals
    go_wp2_with fail
    go_ret
    exact ⟨rfl, DoAny.of h hEa ht4 (by simp) hs4 (.inl rfl) ht5 hr5 hplen.out⟩
end Go.Proofs.Ytmjhdfifbjdgpaa

/- clerestorylaw05.do: Put. -/
namespace Go.Proofs.Ytmjhdfifbjdgpaa
open Go Go.RowKit
attribute [local go_sem] yields yUpon

set_option maxRecDepth 100000 in
set_option maxHeartbeats 16000000 in
theorem do_put5 {w wr : World} {p m q : Nat} {log : ByteArray} {good : Nat} {F : Fl} {man : ByteArray} (kd n : Int) (h0 : -9223372036854775808 ≤ n) (h1 : n ≤ 9223372036854775807) (s : ByteArray) (hs : s.size ≤ 300) (hV : kd % 10 = 5) (h : Duo w wr p m q log good F man) :
    Calls Try.prog 25 #[.pointer (some ⟨p, 0, none⟩), .pointer (some ⟨q, 0, none⟩), .agg #[.int .i64 kd, .int .i64 n, .string s]] wr fun e w' => e = .returned (.bool true) ∧ DoAny w wr p m q w' := by
  have hE0 := (Ext.refl wr).alloc (.cells #[.int .i64 kd, .int .i64 n, .string s] 56)
  have hbx := BoxAt.made wr #[.int .i64 kd, .int .i64 n, .string s] 56
  have hD := h.grow hE0
  have hsm := h.len
  have hlen := hsm.len
  have hgl := h.shelf.good_le
  have hll := h.shelf.log_le
  have hrs := h.shelf.files.2
  have hqp := hD.qp
  have hqm := hD.qm
  have hbp : wr.heap.size ≠ p := by have := h.shelf.box.lt; omega
  have hbm : wr.heap.size ≠ m := by have := h.shelf.files.lt; omega
  have x0 := hbx.cell 0
  have x1 := hbx.cell 1
  have x2 := hbx.cell 2
  simp at x0 x1 x2
  go_enter Try.func25, Try.ntmps25
  have hplen : Hid (Small5 (if putE n s F = 0 then fput n s.data.toList F else F)) := Lib.hid (hsm.put hrs n s)
  obtain ⟨B, hB⟩ : ∃ B, B = putE n s F := ⟨_, rfl⟩
  have HB := Lib.hid hB
  clear hB
  have hBB : (B == B) = true := by simp
  go_wp2_with (first | (go_at_call 9; go_must (refine (place_any _ _ (by omega) (by omega) _).mono ?_); rintro e w3 ⟨rfl, rfl⟩; rw [hV]))
  have hXa := hbx.ext (Ext.refl _).drew
  have hDa := hD.grow (Ext.refl _).drew
  have hEa := hE0.drew
  go_region_with (first
    | (go_at_call 60; go_must (refine (sh_put n h0 h1 s (by unfold maxLen; omega) hlen _ hDa.shelf).mono ?_); rintro e w4 ⟨⟨rfl, ht4⟩, hs4⟩; have hr4 := hDa.refM ht4; have hX4 := ht4.box hXa (by simpa using hbm); have y1 := hX4.cell 1; have y2 := hX4.cell 2; simp at y1 y2; rw [← HB.out])
    | (go_at_call 61; go_must (refine (r5_put n s (by omega) _ hr4 hrs).mono ?_); rintro e w5 ⟨⟨rfl, ht5⟩, hr5⟩; rw [← HB.out]))
  all_goals
    go_wp2_with fail
    go_ret
    exact ⟨rfl, DoAny.of h hEa ht4 (by simp) hs4 (.inl rfl) ht5 hr5 hplen.out⟩
end Go.Proofs.Ytmjhdfifbjdgpaa

/- clerestorylaw05.do, any call. -/
namespace Go.Proofs.Ytmjhdfifbjdgpaa
open Go Go.RowKit

theorem do5_any {w wr : World} {p m q : Nat} {log : ByteArray} {good : Nat} {F : Fl} {man : ByteArray} (kd n : Int) (h0 : -9223372036854775808 ≤ n) (h1 : n ≤ 9223372036854775807) (s : ByteArray) (hs : s.size ≤ 300) (h : Duo w wr p m q log good F man) :
    Calls Try.prog 25 #[.pointer (some ⟨p, 0, none⟩), .pointer (some ⟨q, 0, none⟩), .agg #[.int .i64 kd, .int .i64 n, .string s]] wr fun e w' => e = .returned (.bool true) ∧ DoAny w wr p m q w' := by
  have hb : 0 ≤ kd % 10 ∧ kd % 10 < 10 := by omega
  by_cases e2 : kd % 10 = 2
  · exact do_sync kd n h0 h1 s hs e2 h
  by_cases e3 : kd % 10 = 3
  · exact do_cut kd n h0 h1 s hs e3 h
  by_cases e4 : kd % 10 = 4
  · exact do_put4 kd n h0 h1 s hs e4 h
  by_cases e5 : kd % 10 = 5
  · exact do_put5 kd n h0 h1 s hs e5 h
  by_cases e6 : kd % 10 = 6
  · exact do_drop kd n h0 h1 s hs e6 h
  by_cases e7 : kd % 10 = 7
  · exact do_turn kd n h0 h1 s hs e7 h
  by_cases e8 : kd % 10 = 8
  · exact do_crash kd n h0 h1 s hs e8 h
  by_cases e9 : kd % 10 = 9
  · exact do_wipe kd n h0 h1 s hs e9 h
  exact do_append kd n h0 h1 s hs _ rfl ⟨e2, e3, e4, e5, e6, e7, e8, e9⟩ h
end Go.Proofs.Ytmjhdfifbjdgpaa
