/- Package shelf: a shelf in memory; New, Append, Sync, Cut, Log, Unsynced, Put, Get, Drop, Man, Turn, Crash, Wipe. (what a smaller cut has) -/
import Derived.Test.YtimbikbbbfpeeaaGreatDoorP2
import Derived.Test.YtimbikbbbfpeeaaGreatDoorP33
import Derived.Test.YtimbikbbbfpeeaaGreatDoorP9
import Derived.Sort.OwnSortedInts
import Derived.Maps.Ext
import Derived.RegionTactic
import Derived.BigRegion
import Derived.Test.YtimbikbbbfpeeaaGreatDoorP1
import Derived.Test.YtimbikbbbfpeeaaGreatDoorP29
import Derived.Test.YtimbikbbbfpeeaaGreatDoorP25
set_option linter.unusedSimpArgs false
set_option linter.unusedVariables false
namespace Go.Proofs.YtimbikbbbfpeeaaGreatDoor
open Go Go.RowKit
attribute [local go_sem] yields yUpon

/-- A shelf in memory: its box p, its map m. -/
structure ShelfAt (w : World) (p m : Nat) (log : ByteArray) (good : Nat) (F : Fl) (man : ByteArray) : Prop where
  box : BoxAt w p #[.string log, .int .i64 (good : Int), .map (some m), .string man] 72
  files : FilesAt w m F
  ne : p ≠ m
  good_le : good ≤ log.size
  log_le : log.size ≤ 262144
theorem ShelfAt.touch {w w' : World} {L : List Nat} (ht : Touch w w' L) {p m : Nat} {log : ByteArray} {good : Nat} {F : Fl} {man : ByteArray} (h : ShelfAt w p m log good F man) (hp : p ∉ L) (hm : m ∉ L) : ShelfAt w' p m log good F man :=
  ⟨ht.box h.box hp, ht.files h.files hm, h.ne, h.good_le, h.log_le⟩
theorem ShelfAt.ext {w w' : World} (hE : Ext w w') {p m : Nat} {log : ByteArray} {good : Nat} {F : Fl} {man : ByteArray} (h : ShelfAt w p m log good F man) : ShelfAt w' p m log good F man :=
  h.touch (Touch.of_ext hE []) (by simp) (by simp)
theorem ShelfAt.c0 {w : World} {p m : Nat} {log : ByteArray} {good : Nat} {F : Fl} {man : ByteArray} (h : ShelfAt w p m log good F man) : w.cell? ⟨p, 0, none⟩ = some (.string log) := by rw [h.box.cell]; rfl
theorem ShelfAt.c1 {w : World} {p m : Nat} {log : ByteArray} {good : Nat} {F : Fl} {man : ByteArray} (h : ShelfAt w p m log good F man) : w.cell? ⟨p, 1, none⟩ = some (.int .i64 (good : Int)) := by rw [h.box.cell]; rfl
theorem ShelfAt.c2 {w : World} {p m : Nat} {log : ByteArray} {good : Nat} {F : Fl} {man : ByteArray} (h : ShelfAt w p m log good F man) : w.cell? ⟨p, 2, none⟩ = some (.map (some m)) := by rw [h.box.cell]; rfl
theorem ShelfAt.c3 {w : World} {p m : Nat} {log : ByteArray} {good : Nat} {F : Fl} {man : ByteArray} (h : ShelfAt w p m log good F man) : w.cell? ⟨p, 3, none⟩ = some (.string man) := by rw [h.box.cell]; rfl
theorem ShelfAt.turn {w w' : World} {p m : Nat} {log log' : ByteArray} {good good' : Nat} {F : Fl} {man man' : ByteArray} (h : ShelfAt w p m log good F man) (ht : Touch w w' [p])
    (hb : BoxAt w' p #[.string log', .int .i64 (good' : Int), .map (some m), .string man'] 72) (h1 : good' ≤ log'.size) (h2 : log'.size ≤ 262144) : ShelfAt w' p m log' good' F man' :=
  ⟨hb, ht.files h.files (by simp; exact fun e => h.ne e.symm), h.ne, h1, h2⟩

set_option maxHeartbeats 400000 in
theorem sh_new (w : World) : Calls Tryz.prog 9 #[] w fun e w' => e = .returned (.pointer (some ⟨w.heap.size + 1, 0, none⟩)) ∧ w' = (w.alloc (.map #[] 0)).alloc (.cells #[.string ⟨#[]⟩, .int .i64 0, .map (some w.heap.size), .string ⟨#[]⟩] 72) := by
  have hmm := @run_makeMap Tryz.prog
  go_enter Tryz.func9, Tryz.ntmps9
  go_wp2
  go_ret
  exact ⟨rfl, rfl⟩
theorem sh_made (w : World) : ShelfAt ((w.alloc (.map #[] 0)).alloc (.cells #[.string ⟨#[]⟩, .int .i64 0, .map (some w.heap.size), .string ⟨#[]⟩] 72)) (w.heap.size + 1) w.heap.size ⟨#[]⟩ 0 [] ⟨#[]⟩ := by
  have e : (w.alloc (.map #[] 0)).heap.size = w.heap.size + 1 := by simp
  refine ⟨?_, (files_new w).ext ((Ext.refl _).alloc _), by omega, by simp, by simp [ByteArray.size]⟩
  have := BoxAt.made (w.alloc (.map #[] 0)) #[.string ⟨#[]⟩, .int .i64 0, .map (some w.heap.size), .string ⟨#[]⟩] 72
  rw [e] at this
  exact this

section
variable {p m : Nat} {log : ByteArray} {good : Nat} {F : Fl} {man : ByteArray}

set_option maxHeartbeats 400000 in
theorem sh_log (w : World) (h : ShelfAt w p m log good F man) : Calls Tryz.prog 13 #[.pointer (some ⟨p, 0, none⟩)] w fun e w' => e = .returned (.string log) ∧ w = w' := by
  have c0 := h.c0
  go_enter Tryz.func13, Tryz.ntmps13
  go_wp2
  go_ret
  exact ⟨rfl, rfl⟩

set_option maxHeartbeats 400000 in
theorem sh_man (w : World) (h : ShelfAt w p m log good F man) : Calls Tryz.prog 29 #[.pointer (some ⟨p, 0, none⟩)] w fun e w' => e = .returned (.string man) ∧ w = w' := by
  have c0 := h.c3
  go_enter Tryz.func29, Tryz.ntmps29
  go_wp2
  go_ret
  exact ⟨rfl, rfl⟩

set_option maxHeartbeats 400000 in
theorem sh_append (b : ByteArray) (hb : b.size ≤ maxLen) (w : World) (h : ShelfAt w p m log good F man) :
    Calls Tryz.prog 14 #[.pointer (some ⟨p, 0, none⟩), .string b] w fun e w' =>
      (e = .returned (.int .i64 (if log.size + b.size ≤ 262144 then 0 else 2)) ∧ Touch w w' [p]) ∧ ShelfAt w' p m (if log.size + b.size ≤ 262144 then log ++ b else log) good F man := by
  have c0 := h.c0
  have f0 := h.box.free 0
  have hl := h.log_le
  unfold maxLen at hb
  by_cases hs : log.size + b.size ≤ 262144
  · rw [if_pos hs, if_pos hs]
    have hlt : ¬ (262144 - (log.size : Int) < (b.size : Int)) := by omega
    go_enter Tryz.func14, Tryz.ntmps14
    go_wp2
    go_ret
    refine ⟨⟨rfl, Touch.set (by simp)⟩, h.turn (Touch.set (by simp)) (h.box.set 0 _) ?_ ?_⟩
    · rw [ByteArray.size_append]; have := h.good_le; omega
    · rw [ByteArray.size_append]; omega
  · rw [if_neg hs, if_neg hs]
    have hlt : 262144 - (log.size : Int) < (b.size : Int) := by omega
    go_enter Tryz.func14, Tryz.ntmps14
    go_wp2
    go_ret
    exact ⟨⟨rfl, Touch.refl _ _⟩, h⟩

set_option maxHeartbeats 400000 in
theorem sh_sync0 (v : Value) (w : World) (c0 : w.cell? ⟨p, 0, none⟩ = some (.string log)) (c1 : w.cell? ⟨p, 1, none⟩ = some v) (f1 : w.frozen? ⟨p, 1, none⟩ = false) (hl : log.size ≤ 262144) :
    Calls Tryz.prog 41 #[.pointer (some ⟨p, 0, none⟩)] w fun e w' => e = .returned (.tuple #[]) ∧ w' = w.setCell ⟨p, 1, none⟩ (.int .i64 (log.size : Int)) := by
  go_enter Tryz.func41, Tryz.ntmps41
  go_wp2
  go_end0
  exact ⟨rfl, rfl⟩

theorem sh_sync (w : World) (h : ShelfAt w p m log good F man) : Calls Tryz.prog 41 #[.pointer (some ⟨p, 0, none⟩)] w fun e w' => (e = .returned (.tuple #[]) ∧ Touch w w' [p]) ∧ ShelfAt w' p m log log.size F man :=
  (sh_sync0 _ w h.c0 h.c1 (h.box.free 1) h.log_le).mono fun e w' ⟨he, hw⟩ => by
    subst hw
    exact ⟨⟨he, Touch.set (by simp)⟩, h.turn (Touch.set (by simp)) (h.box.set 1 _) (Nat.le_refl _) h.log_le⟩

set_option maxHeartbeats 400000 in
theorem sh_turn (b : ByteArray) (hb : b.size ≤ maxLen) (w : World) (h : ShelfAt w p m log good F man) :
    Calls Tryz.prog 86 #[.pointer (some ⟨p, 0, none⟩), .string b] w fun e w' =>
      (e = .returned (.int .i64 (if b.size ≤ 262144 then 0 else 2)) ∧ Touch w w' [p]) ∧ (if b.size ≤ 262144 then ShelfAt w' p m ⟨#[]⟩ 0 F b else w' = w) := by
  have c0 := h.c0
  have c1 := h.c1
  have c3 := h.c3
  have f0 := h.box.free 0
  have f1 := h.box.free 1
  have f3 := h.box.free 3
  unfold maxLen at hb
  by_cases hs : b.size ≤ 262144
  · simp only [if_pos hs]
    have hlt : ¬ (262144 < (b.size : Int)) := by omega
    go_enter Tryz.func86, Tryz.ntmps86
    go_wp2
    go_ret
    have ht : Touch w (((w.setCell ⟨p, 3, none⟩ (.string b)).setCell ⟨p, 0, none⟩ (.string ⟨#[]⟩)).setCell ⟨p, 1, none⟩ (.int .i64 0)) [p] :=
      (((Touch.set (L := [p]) (by simp)).trans (Touch.set (L := [p]) (by simp))).trans (Touch.set (L := [p]) (by simp))).mono (by simp)
    exact ⟨⟨rfl, ht⟩, h.turn ht (((h.box.set 3 _).set 0 _).set 1 _) (by simp) (by simp [ByteArray.size])⟩
  · simp only [if_neg hs]
    have hlt : 262144 < (b.size : Int) := by omega
    go_enter Tryz.func86, Tryz.ntmps86
    go_wp2
    go_ret
    exact ⟨⟨rfl, Touch.refl _ _⟩, rfl⟩

set_option maxHeartbeats 400000 in
theorem sh_unsynced (w : World) (h : ShelfAt w p m log good F man) :
    Calls Tryz.prog 43 #[.pointer (some ⟨p, 0, none⟩)] w fun e w' => e = .returned (.int .i64 ((log.size : Int) - good)) ∧ ∃ n, w' = w.drewN n := by
  have c0 := h.c0
  have c1 := h.c1
  have hl := h.log_le
  have hg := h.good_le
  go_enter Tryz.func43, Tryz.ntmps43
  go_wp2
  go_quiet (fail)
  go_wp2
  go_ret
  exact ⟨rfl, _, rfl⟩

/-- How many bytes are left by 'Cut(n)'. -/
def cutN (n : Int) (k : Nat) : Nat := (max 0 (min n (k : Int))).toNat
theorem cutN_le (n : Int) (k : Nat) : cutN n k ≤ k := by unfold cutN; omega
theorem cut_size (s : ByteArray) (n : Nat) (h : n ≤ s.size) : (s.extract 0 n).size = n := by simp [ByteArray.size_extract]; omega

set_option maxHeartbeats 400000 in
theorem sh_get (n : Int) (h0 : -9223372036854775808 ≤ n) (h1 : n ≤ 9223372036854775807) (w : World) (h : ShelfAt w p m log good F man) :
    Calls Tryz.prog 101 #[.pointer (some ⟨p, 0, none⟩), .int .i64 n] w fun e w' => e = .returned (.tuple #[.string (str (fget n F)), .int .i64 (if fhas n F then 0 else 9)]) ∧ w = w' := by
  have c2 := h.c2
  obtain ⟨hk, _⟩ := files_look h.files h0 h1
  cases hh : fhas n F with
  | true =>
    rw [hh] at hk
    rw [if_pos rfl]
    clear hh
    go_enter Tryz.func101, Tryz.ntmps101
    go_wp2
    go_ret2
    exact ⟨rfl, rfl⟩
  | false =>
    rw [hh] at hk
    have e : fget n F = [] := by
      unfold fget fhas at *
      rw [List.find?_eq_none.2 (by simpa using hh)]; rfl
    rw [if_neg (by decide), e]
    rw [e] at hk
    clear hh e
    go_enter Tryz.func101, Tryz.ntmps101
    go_wp2
    go_ret2
    exact ⟨rfl, rfl⟩

set_option maxHeartbeats 400000 in
theorem sh_drop (n : Int) (h0 : -9223372036854775808 ≤ n) (h1 : n ≤ 9223372036854775807) (w : World) (h : ShelfAt w p m log good F man) :
    Calls Tryz.prog 35 #[.pointer (some ⟨p, 0, none⟩), .int .i64 n] w fun e w' => (e = .returned (.bool (fhas n F)) ∧ Touch w w' [m]) ∧ ShelfAt w' p m log good (fdel n F) man := by
  have c2 := h.c2
  obtain ⟨hk, _⟩ := files_look h.files h0 h1
  obtain ⟨w1, hr, hf, ht⟩ := files_del h.files h0 h1 0
  go_enter Tryz.func35, Tryz.ntmps35
  go_wp2
  go_ret
  exact ⟨⟨rfl, ht⟩, ht.box h.box (by simpa using h.ne), hf, h.ne, h.good_le, h.log_le⟩

/-- What 'Put' says. -/
def putE (n : Int) (b : ByteArray) (F : Fl) : Int := if n < 1 ∨ 1099511627776 < n ∨ fhas n F = true then 1 else if 262144 < b.size ∨ 40 ≤ F.length then 2 else 0

set_option maxHeartbeats 400000 in
theorem sh_put (n : Int) (h0 : -9223372036854775808 ≤ n) (h1 : n ≤ 9223372036854775807) (b : ByteArray) (hb : b.size ≤ maxLen) (hF : F.length ≤ 40) (w : World) (h : ShelfAt w p m log good F man) :
    Calls Tryz.prog 85 #[.pointer (some ⟨p, 0, none⟩), .int .i64 n, .string b] w fun e w' => (e = .returned (.int .i64 (putE n b F)) ∧ Touch w w' [m]) ∧ ShelfAt w' p m log good (if putE n b F = 0 then fput n b.data.toList F else F) man := by
  have c2 := h.c2
  obtain ⟨hk, _⟩ := files_look h.files h0 h1
  have hlen := files_len h.files 3
  have hb' := hb
  unfold maxLen at hb'
  by_cases e1 : n < 1 ∨ 1099511627776 < n ∨ fhas n F = true
  · have e : putE n b F = 1 := by unfold putE; rw [if_pos e1]
    rw [e, if_neg (by decide)]
    clear e
    by_cases a1 : n < 1
    · go_enter Tryz.func85, Tryz.ntmps85
      go_wp2
      go_ret
      exact ⟨⟨rfl, Touch.refl _ _⟩, h⟩
    · by_cases a2 : 1099511627776 < n
      · go_enter Tryz.func85, Tryz.ntmps85
        go_wp2
        go_ret
        exact ⟨⟨rfl, Touch.refl _ _⟩, h⟩
      · have a3 : fhas n F = true := by rcases e1 with x | x | x; exact absurd x a1; exact absurd x a2; exact x
        rw [a3] at hk
        clear e1
        go_enter Tryz.func85, Tryz.ntmps85
        go_wp2
        go_ret
        exact ⟨⟨rfl, Touch.refl _ _⟩, h⟩
  · have a1 : ¬ n < 1 := fun x => e1 (.inl x)
    have a2 : ¬ 1099511627776 < n := fun x => e1 (.inr (.inl x))
    have a3 : fhas n F = false := by cases hh : fhas n F; rfl; exact absurd (.inr (.inr hh)) e1
    rw [a3] at hk
    by_cases e2 : 262144 < b.size ∨ 40 ≤ F.length
    · have e : putE n b F = 2 := by unfold putE; rw [if_neg e1, if_pos e2]
      rw [e, if_neg (by decide)]
      clear e e1
      by_cases a4 : 262144 < b.size
      · have a4' : 262144 < (b.size : Int) := by omega
        clear e2 a4
        go_enter Tryz.func85, Tryz.ntmps85
        go_wp2
        go_ret
        exact ⟨⟨rfl, Touch.refl _ _⟩, h⟩
      · have a4' : ¬ 262144 < (b.size : Int) := by omega
        have a5 : 40 ≤ (F.length : Int) := by rcases e2 with x | x; exact absurd x a4; omega
        clear e2 a4
        go_enter Tryz.func85, Tryz.ntmps85
        go_wp2
        go_ret
        exact ⟨⟨rfl, Touch.refl _ _⟩, h⟩
    · have e : putE n b F = 0 := by unfold putE; rw [if_neg e1, if_neg e2]
      rw [e, if_pos rfl]
      have a4' : ¬ 262144 < (b.size : Int) := by omega
      have a5 : ¬ 40 ≤ (F.length : Int) := by omega
      obtain ⟨w1, hr, hf, ht⟩ := files_put h.files h0 h1 hb (by unfold maxLen; omega)
      clear e e1 e2
      go_enter Tryz.func85, Tryz.ntmps85
      go_wp2
      go_ret
      exact ⟨⟨rfl, ht⟩, ht.box h.box (by simpa using h.ne), hf, h.ne, h.good_le, h.log_le⟩

set_option maxHeartbeats 1000000 in
theorem sh_cut (n : Int) (w : World) (h : ShelfAt w p m log good F man) :
    Calls Tryz.prog 42 #[.pointer (some ⟨p, 0, none⟩), .int .i64 n] w fun e w' => (e = .returned (.tuple #[]) ∧ Touch w w' [p]) ∧ ShelfAt w' p m (log.extract 0 (cutN n log.size)) (cutN n log.size) F man := by
  have c0 := h.c0
  have f0 := h.box.free 0
  have hl := h.log_le
  have hc := cutN_le n log.size
  have hcs := Lib.hid (cut_size log _ hc)
  go_enter Tryz.func42, Tryz.ntmps42
  go_wp2
  go_region
  change Exit.then _ _ _ _ ((w.setCell ⟨p, 0, none⟩ (.string (log.extract 0 (cutN n log.size)))).drew)
  have hb : BoxAt ((w.setCell ⟨p, 0, none⟩ (.string (log.extract 0 (cutN n log.size)))).drew) p #[.string (log.extract 0 (cutN n log.size)), .int .i64 (good : Int), .map (some m), .string man] 72 := h.box.set 0 _
  have ht : Touch w (((w.setCell ⟨p, 0, none⟩ (.string (log.extract 0 (cutN n log.size)))).setCell ⟨p, 1, none⟩ (.int .i64 (cutN n log.size : Int))).drew) [p] :=
    (((Touch.set (L := [p]) (by simp)).trans (Touch.set (L := [p]) (by simp))).mono (by simp)).drew
  have hs : ShelfAt (((w.setCell ⟨p, 0, none⟩ (.string (log.extract 0 (cutN n log.size)))).setCell ⟨p, 1, none⟩ (.int .i64 (cutN n log.size : Int))).drew) p m (log.extract 0 (cutN n log.size)) (cutN n log.size) F man :=
    h.turn ht ((h.box.set 0 _).set 1 _) (by rw [hcs.out]; exact Nat.le_refl _) (by rw [hcs.out]; omega)
  go_wp2_with (go_at_call 41; go_must (refine (sh_sync0 _ _ (hb.cell 0) (hb.cell 1) (hb.free 1) (by rw [hcs.out]; omega)).mono ?_); rintro e w1 ⟨rfl, rfl⟩)
  all_goals
    go_end0
    exact ⟨⟨rfl, ht⟩, hs⟩

/-- How many bytes a crash leaves. -/
def crashN (n : Int) (good k : Nat) : Nat := good + (max 0 (min n ((k : Int) - good))).toNat
theorem crashN_le (n : Int) {good k : Nat} (h : good ≤ k) : crashN n good k ≤ k := by unfold crashN; omega
theorem crashN_cut (n u : Int) {good k : Nat} (h : good ≤ k) (hu : u = (k : Int) - good) : cutN (good + max 0 (min n u)) k = crashN n good k := by
  subst hu
  unfold crashN cutN
  omega

set_option maxHeartbeats 1000000 in
theorem sh_crash (n : Int) (h0 : -9223372036854775808 ≤ n) (h1 : n ≤ 9223372036854775807) (w : World) (h : ShelfAt w p m log good F man) :
    Calls Tryz.prog 16 #[.pointer (some ⟨p, 0, none⟩), .int .i64 n] w fun e w' => (e = .returned (.tuple #[]) ∧ Touch w w' [p]) ∧ ShelfAt w' p m (log.extract 0 (crashN n good log.size)) (crashN n good log.size) F man := by
  have c1 := h.c1
  have hl := h.log_le
  have hg := h.good_le
  obtain ⟨u, hu⟩ : ∃ u : Int, u = (log.size : Int) - good := ⟨_, rfl⟩
  have u0 : 0 ≤ u := by omega
  have u1 : u ≤ 262144 := by omega
  have K2 := Lib.hid (crashN_cut n u hg hu)
  have HU := Lib.hid hu
  clear hu
  go_enter Tryz.func16, Tryz.ntmps16
  go_wp2
  refine wp_region_tab 11 [(2, fun v _ => v = .pointer (some ⟨p, 0, none⟩)), (7, fun v _ => v = .int .i64 u)] (by kernel_rfl) (by kernel_rfl) (by kernel_rfl) ⟨stays_eq _, stays_eq _, trivial⟩ ?_
  replace c1 := held c1
  refine rg_quiet rfl rfl rfl rfl ?_; intro K hK; go_big_quiet_op; go_big_quiet_on
  refine rg_quiet rfl rfl rfl rfl ?_; intro K hK; go_big_quiet_op; go_big_quiet_on
  refine rg_val [] rfl rfl rfl (by kernel_rfl) (fun w1 hE hf => ?_) ?_
  · go_simp
    exact rg_done hE (Ext.refl w1) rfl
  simp only [Act.put, List.setIfInBounds_toArray, List.set_cons_zero, List.set_cons_succ]
  refine rg_quiet rfl rfl rfl rfl ?_; intro K hK; go_big_quiet_op; go_big_quiet_on
  refine rg_quiet rfl rfl rfl rfl ?_; intro K hK; go_big_quiet_op; go_big_quiet_on
  refine rg_quiet rfl rfl rfl rfl ?_; intro K hK; go_big_quiet_op; go_big_quiet_on
  refine rg_quiet rfl rfl rfl rfl ?_; intro K hK; go_big_quiet_op; go_big_quiet_on
  refine rg_val [] rfl rfl rfl (by kernel_rfl) (fun w1 hE hf => ?_) ?_
  · go_simp
    exact (sh_unsynced w1 (h.ext hE)).mono fun e w' ⟨he, k, hw⟩ => ⟨_, he, rg_done hE (by rw [hw]; exact (Ext.refl w1).drewN k) (by rw [HU.out])⟩
  simp only [Act.put, List.setIfInBounds_toArray, List.set_cons_zero, List.set_cons_succ]
  refine rg_quiet rfl rfl rfl rfl ?_; intro K hK; go_big_quiet_op; go_big_quiet_on
  refine rg_quiet rfl rfl rfl rfl ?_; intro K hK; go_big_quiet_op; go_big_quiet_on
  refine rg_quiet rfl rfl rfl rfl ?_; intro K hK; go_big_quiet_op; go_big_quiet_on
  refine rel_tail rfl rfl fun w1 hE hG => ?_
  clear c1 hG
  go_wp2_with (go_at_call 42; go_must (refine (sh_cut _ _ (h.ext hE)).mono ?_); rintro e w2 ⟨⟨rfl, ht⟩, hs⟩; rw [K2.out] at hs)
  all_goals
    go_end0
    exact ⟨⟨rfl, ((Touch.of_ext hE [p]).trans ht).mono (by simp)⟩, hs⟩

end
end Go.Proofs.YtimbikbbbfpeeaaGreatDoor

/- Facts that tactics leave alone. -/
namespace Go.Proofs.YtimbikbbbfpeeaaGreatDoor
open Go Go.RowKit
/-- A fact that no tactic brings to its head form. -/
def Far (p : Prop) : Prop := Unit → p
theorem far {p : Prop} (h : p) : Far p := fun _ => h
theorem Far.out {p : Prop} (h : Far p) : p := h ()
end Go.Proofs.YtimbikbbbfpeeaaGreatDoor

/- pack.CheckBatch of batches whose partitions have no rows. -/
namespace Go.Proofs.YtimbikbbbfpeeaaGreatDoor
open Go Go.RowKit
attribute [local go_sem] yields yUpon
set_option maxHeartbeats 400000 in
theorem id_any (n : Int) (w : World) : Calls Tryz.prog 73 #[.int .i64 n] w fun e w' => e = .returned (.bool (idB n)) ∧ w = w' := by
  by_cases h1 : 1 ≤ n
  · have t1 : decide (1 ≤ n) = true := by simpa using h1
    have e : idB n = decide (n ≤ 1099511627776) := by unfold idB; rw [t1]; rfl
    rw [e]
    go_enter Tryz.func73, Tryz.ntmps73
    go_wp2
    go_ret
    exact ⟨rfl, rfl⟩
  · have t1 : decide (1 ≤ n) = false := by simpa using h1
    have e : idB n = false := by unfold idB; rw [t1]; rfl
    rw [e]
    go_enter Tryz.func73, Tryz.ntmps73
    go_wp2
    go_ret
    exact ⟨rfl, rfl⟩
set_option maxRecDepth 100000 in
set_option maxHeartbeats 8000000 in
theorem cb_any (vm va vd : Value) (M : List Mu) (A : List Nt) (D : List Int) (w : World) (hT : TabU w) (hM : MusIn w vm M) (hA : NtsIn w va A) (hD : IntsIn w vd .i64 D) (hMb : ∀ x ∈ M, x.table.size ≤ 100 ∧ x.key.size ≤ 100 ∧ x.gone ≤ 1099511627776) (hAb : ∀ x ∈ A, x.body.size ≤ 1000000) :
    Calls Tryz.prog 36 #[.agg #[vm, va, vd]] w fun e w' => e = .returned (.bool (cbB M A D)) ∧ Ext w w' := by
  obtain ⟨am, cm, rfl, hcm, hcmm, hgm⟩ := hM.get
  obtain ⟨aa, ca, rfl, hca, hcma, hga⟩ := hA.get
  obtain ⟨ad, cd, rfl, hcd, hcmd, _, hgd⟩ := hD
  unfold maxLen at hcmd
  have HGM := Lib.hid hgm
  have HGA := Lib.hid hga
  have HGD := Lib.hid hgd
  have HMB := Lib.hid hMb
  have HAB := Lib.hid hAb
  clear hgm hga hgd hMb hAb hM hA
  obtain ⟨mn, hmn⟩ : ∃ n, n = M.length := ⟨_, rfl⟩
  obtain ⟨an, han⟩ : ∃ n, n = A.length := ⟨_, rfl⟩
  obtain ⟨dn, hdn⟩ : ∃ n, n = D.length := ⟨_, rfl⟩
  rw [← hmn] at hcm ⊢
  rw [← han] at hca ⊢
  rw [← hdn] at hcd ⊢
  have HMN := Lib.hid hmn
  have HAN := Lib.hid han
  have HDN := Lib.hid hdn
  clear hmn han hdn
  have hE0 := (Ext.refl w).alloc (.cells #[.slice am mn cm, .slice aa an ca, .slice ad dn cd] 37)
  have hbx := BoxAt.made w #[.slice am mn cm, .slice aa an ca, .slice ad dn cd] 37
  obtain ⟨R, hR⟩ : ∃ R, R = cbB M A D := ⟨_, rfl⟩
  have HR : Hid (R = (decide (mn ≤ 64) && decide (an ≤ 300) && decide (dn ≤ 300) && M.all okMu && A.all okNt && D.all idB)) := Lib.hid (by rw [hR, HMN.out, HAN.out, HDN.out]; rfl)
  rw [← hR]
  clear hR
  by_cases hsz : mn ≤ 64 ∧ an ≤ 300 ∧ dn ≤ 300
  · obtain ⟨z1, z2, z3⟩ := hsz
    have y1 : ¬ (64 : Int) < (mn : Int) := by omega
    have y2 : ¬ (300 : Int) < (an : Int) := by omega
    have y3 : ¬ (300 : Int) < (dn : Int) := by omega
    have HR2 : Hid (R = (M.all okMu && A.all okNt && D.all idB)) := Lib.hid (by rw [HR.out, decide_eq_true z1, decide_eq_true z2, decide_eq_true z3]; rfl)
    clear HR
    go_enter Tryz.func36, Tryz.ntmps36
    go_wp2
    obtain ⟨W0, hW0⟩ : ∃ W0, W0 = w.alloc (.cells #[.slice am mn cm, .slice aa an ca, .slice ad dn cd] 37) := ⟨_, rfl⟩
    rw [← hW0] at hE0 hbx ⊢
    clear hW0
    go_loopw [28] (fun i wr => ∃ k : Nat, k ≤ mn ∧ i = .int .i64 (k : Int) ∧ Hid ((M.take k).all okMu = true) ∧ Ext W0 wr) (fun i _ => mn - (intOf i).toNat)
    case atStart => exact ⟨0, Nat.zero_le _, rfl, Lib.hid rfl, Ext.refl W0⟩
    case round =>
      obtain ⟨k, hk, rfl, HP, hE⟩ := hrel
      by_cases hlt : k < mn
      · have hkF : k < M.length := by rw [← HMN.out]; exact hlt
        obtain ⟨b, o, rfl, g0, g1, g2, g3⟩ := HGM.out k hkF
        replace g0 := (hE0.trans hE).cell g0
        replace g1 := (hE0.trans hE).cell g1
        replace g2 := (hE0.trans hE).cell g2
        replace g3 := (hE0.trans hE).cell g3
        obtain ⟨q1, q2, q3⟩ := HMB.out _ (List.getElem_mem hkF)
        have HP1 : Hid (okMu M[k] = true → (M.take (k + 1)).all okMu = true) := Lib.hid fun h => all_take hkF HP.out h
        have HP0 : Hid (okMu M[k] = false → R = false) := Lib.hid fun h => by rw [HR2.out, all_no hkF h]; rfl
        have HOK : Hid (okMu M[k] = (nameB (M[k]).table && decide (0 ≤ (M[k]).gone))) := Lib.hid rfl
        obtain ⟨ok, hok⟩ : ∃ ok, ok = okMu M[k] := ⟨_, rfl⟩
        obtain ⟨t, ht⟩ : ∃ t, t = (M[k]).table := ⟨_, rfl⟩
        obtain ⟨ky, hky⟩ : ∃ t, t = (M[k]).key := ⟨_, rfl⟩
        obtain ⟨gn, hgn⟩ : ∃ t, t = (M[k]).gone := ⟨_, rfl⟩
        rw [← hok] at HP1 HP0 HOK
        rw [← ht] at g0 q1 HOK
        rw [← hky] at g1 q2
        rw [← hgn] at g2 q3 HOK
        clear hok ht hky hgn
        have hEb := (Ext.refl wr).alloc (.cells #[.string t, .string ky, .int .i64 gn, .slice none 0 0] 54)
        have hbm := BoxAt.made wr #[.string t, .string ky, .int .i64 gn, .slice none 0 0] 54
        have hTb := hT.ext ((hE0.trans hE).trans hEb)
        have t1 : decide ((k : Int) < (mn : Int)) = true := by simp; omega
        cases hn : nameB t
        · have HN := Lib.hid hn
          clear hn
          go_wp2_with (go_at_call 71; go_must (refine (name_gen t (by omega) _ hTb).mono ?_); rintro e w5 ⟨rfl, hE5⟩; rw [HN.out])
          go_ret
          exact ⟨by rw [HP0.out (by rw [HOK.out, HN.out]; rfl)]; rfl, ((hE0.trans hE).trans hEb).trans hE5⟩
        · have HN := Lib.hid hn
          clear hn
          cases hg : decide (0 ≤ gn)
          all_goals
            have HG := Lib.hid hg
            clear hg
            go_wp2_with (first
              | (go_at_call 71; go_must (refine (name_gen t (by omega) _ hTb).mono ?_); rintro e w5 ⟨rfl, hE5⟩; rw [HN.out]; have hb5 := hbm.ext hE5; have y1 : w5.cell? ⟨wr.heap.size, 1, none⟩ = some (.string ky) := hb5.cell 1; have y2 : w5.cell? ⟨wr.heap.size, 2, none⟩ = some (.int .i64 gn) := hb5.cell 2; have y3 : w5.cell? ⟨wr.heap.size, 3, none⟩ = some (.slice none 0 0) := hb5.cell 3)
              | (go_at_call 72; go_must (refine (check0_any ky gn q2 q3 _).mono ?_); rintro e w6 ⟨rfl, hE6⟩; rw [HG.out]))
          · go_ret
            exact ⟨by rw [HP0.out (by rw [HOK.out, HN.out, HG.out]; rfl)]; rfl, (((hE0.trans hE).trans hEb).trans hE5).trans hE6⟩
          · go_roundw
            case rel => exact ⟨k + 1, by omega, by go_num, Lib.hid (HP1.out (by rw [HOK.out, HN.out, HG.out]; rfl)), ((hE.trans hEb).trans hE5).trans hE6⟩
            case measure => simp [intOf]; omega
      · obtain rfl : k = mn := by omega
        have HR3 : Hid (R = (A.all okNt && D.all idB)) := Lib.hid (by
          have h1 := HP.out
          rw [HMN.out, List.take_length] at h1
          rw [HR2.out, h1]; rfl)
        clear HR2 HP
        have hbx1 := hbx.ext hE
        have c1 : wr.cell? ⟨w.heap.size, 1, none⟩ = some (.slice aa an ca) := hbx1.cell 1
        have c2 : wr.cell? ⟨w.heap.size, 2, none⟩ = some (.slice ad dn cd) := hbx1.cell 2
        go_wp2_with fail
        obtain ⟨w1, rfl⟩ : ∃ w', w' = wr := ⟨_, rfl⟩
        go_loopw [46] (fun i wr => ∃ k : Nat, k ≤ an ∧ i = .int .i64 (k : Int) ∧ Hid ((A.take k).all okNt = true) ∧ Ext w1 wr) (fun i _ => an - (intOf i).toNat)
        case atStart => exact ⟨0, Nat.zero_le _, rfl, Lib.hid rfl, Ext.refl w1⟩
        case round =>
          obtain ⟨j, hj, rfl, HP, hE2⟩ := hrel
          have hEw := (hE0.trans hE).trans hE2
          by_cases hlt2 : j < an
          · have hkF : j < A.length := by rw [← HAN.out]; exact hlt2
            obtain ⟨b, o, rfl, g0, g1⟩ := HGA.out j hkF
            replace g0 := hEw.cell g0
            replace g1 := hEw.cell g1
            have q1 := HAB.out _ (List.getElem_mem hkF)
            have HP1 : Hid (okNt A[j] = true → (A.take (j + 1)).all okNt = true) := Lib.hid fun h => all_take hkF HP.out h
            have HP0 : Hid (okNt A[j] = false → R = false) := Lib.hid fun h => by rw [HR3.out, all_no hkF h]; rfl
            have HOK : Hid (okNt A[j] = (idB (A[j]).id && decide ((A[j]).body.size ≤ 4096))) := Lib.hid rfl
            obtain ⟨ok, hok⟩ : ∃ ok, ok = okNt A[j] := ⟨_, rfl⟩
            obtain ⟨x, hx⟩ : ∃ t, t = (A[j]).id := ⟨_, rfl⟩
            obtain ⟨bd, hbd⟩ : ∃ t, t = (A[j]).body := ⟨_, rfl⟩
            rw [← hok] at HP1 HP0 HOK
            rw [← hx] at g0 HOK
            rw [← hbd] at g1 q1 HOK
            clear hok hx hbd
            have hEb := (Ext.refl wr).alloc (.cells #[.int .i64 x, .string bd] 32)
            have t1 : decide ((j : Int) < (an : Int)) = true := by simp; omega
            cases hn : idB x
            · have HN := Lib.hid hn
              clear hn
              go_wp2_with (go_at_call 73; go_must (refine (id_any x _).mono ?_); rintro e w5 ⟨rfl, rfl⟩; rw [HN.out])
              go_ret
              exact ⟨by rw [HP0.out (by rw [HOK.out, HN.out]; rfl)]; rfl, hEw.trans hEb⟩
            · have HN := Lib.hid hn
              clear hn
              by_cases hs : bd.size ≤ 4096
              · have t2 : decide ((4096 : Int) < (bd.size : Int)) = false := by simp; omega
                go_wp2_with (go_at_call 73; go_must (refine (id_any x _).mono ?_); rintro e w5 ⟨rfl, rfl⟩; rw [HN.out])
                go_roundw
                case rel => exact ⟨j + 1, by omega, by go_num, Lib.hid (HP1.out (by rw [HOK.out, HN.out, decide_eq_true hs]; rfl)), hE2.trans hEb⟩
                case measure => simp [intOf]; omega
              · have t2 : decide ((4096 : Int) < (bd.size : Int)) = true := by simp; omega
                go_wp2_with (go_at_call 73; go_must (refine (id_any x _).mono ?_); rintro e w5 ⟨rfl, rfl⟩; rw [HN.out])
                go_ret
                exact ⟨by rw [HP0.out (by rw [HOK.out, HN.out, decide_eq_false hs]; rfl)]; rfl, hEw.trans hEb⟩
          · obtain rfl : j = an := by omega
            have HR4 : Hid (R = D.all idB) := Lib.hid (by
              have h1 := HP.out
              rw [HAN.out, List.take_length] at h1
              rw [HR3.out, h1]; rfl)
            clear HR3 HP
            have hbx2 := hbx1.ext hE2
            have c3 : wr.cell? ⟨w.heap.size, 2, none⟩ = some (.slice ad dn cd) := hbx2.cell 2
            clear c1 c2
            go_wp2_with fail
            obtain ⟨w2, rfl⟩ : ∃ w', w' = wr := ⟨_, rfl⟩
            go_loopw [64] (fun i wr => ∃ k : Nat, k ≤ dn ∧ i = .int .i64 (k : Int) ∧ Hid ((D.take k).all idB = true) ∧ wr = w2) (fun i _ => dn - (intOf i).toNat)
            case atStart => exact ⟨0, Nat.zero_le _, rfl, Lib.hid rfl, rfl⟩
            case round =>
              obtain ⟨d, hd, rfl, HP, rfl⟩ := hrel
              by_cases hlt3 : d < dn
              · have hkF : d < D.length := by rw [← HDN.out]; exact hlt3
                obtain ⟨b, o, rfl, g0⟩ := HGD.out d (.int .i64 D[d]) (by rw [kcells_get, List.getElem?_eq_getElem hkF]; rfl)
                replace g0 := hEw.cell g0
                have HP1 : Hid (idB D[d] = true → (D.take (d + 1)).all idB = true) := Lib.hid fun h => all_take hkF HP.out h
                have HP0 : Hid (idB D[d] = false → R = false) := Lib.hid fun h => by rw [HR4.out, all_no hkF h]
                obtain ⟨x, hx⟩ : ∃ t, t = D[d] := ⟨_, rfl⟩
                rw [← hx] at g0 HP1 HP0
                clear hx
                have t1 : decide ((d : Int) < (dn : Int)) = true := by simp; omega
                cases hn : idB x
                · have HN := Lib.hid hn
                  clear hn
                  go_wp2_with (go_at_call 73; go_must (refine (id_any x _).mono ?_); rintro e w5 ⟨rfl, rfl⟩; rw [HN.out])
                  go_ret
                  exact ⟨by rw [HP0.out HN.out]; rfl, hEw⟩
                · have HN := Lib.hid hn
                  clear hn
                  go_wp2_with (go_at_call 73; go_must (refine (id_any x _).mono ?_); rintro e w5 ⟨rfl, rfl⟩; rw [HN.out])
                  go_roundw
                  case rel => exact ⟨d + 1, by omega, by go_num, Lib.hid (HP1.out HN.out), (by first | rfl | trivial)⟩
                  case measure => simp [intOf]; omega
              · obtain rfl : d = dn := by omega
                have HR5 : Hid (R = true) := Lib.hid (by
                  have h1 := HP.out
                  rw [HDN.out, List.take_length] at h1
                  rw [HR4.out, h1])
                go_wp2_with fail
                go_ret
                exact ⟨by rw [HR5.out]; rfl, hEw⟩
  · have HR2 : Hid (R = false) := Lib.hid (by
      rw [HR.out]
      by_cases z1 : mn ≤ 64
      · by_cases z2 : an ≤ 300
        · rw [decide_eq_false (p := dn ≤ 300) (by omega)]; simp
        · rw [decide_eq_false z2]; simp
      · rw [decide_eq_false z1]; simp)
    have hex : (64 : Int) < (mn : Int) ∨ (¬ (64 : Int) < (mn : Int) ∧ (300 : Int) < (an : Int)) ∨ (¬ (64 : Int) < (mn : Int) ∧ ¬ (300 : Int) < (an : Int) ∧ (300 : Int) < (dn : Int)) := by omega
    clear HR hsz
    rcases hex with y1 | ⟨y1, y2⟩ | ⟨y1, y2, y3⟩
    all_goals
      go_enter Tryz.func36, Tryz.ntmps36
      go_wp2
      go_ret
      exact ⟨by rw [HR2.out]; rfl, hE0⟩
end Go.Proofs.YtimbikbbbfpeeaaGreatDoor
