/- Contracts of the library, laid at this program: each is one application of a theorem of the shelf (the text is the tool's, its numbers by name). -/
import Derived.Shelf.Small.Bits
import Derived.Shelf.Small.Wraps
import Derived.Shelf.Strconv.Itoa0
import Derived.Shelf.Sort.Plain
import Derived.Shelf.Slices.In.SortNone
import Derived.Test.YtmjhdfifbjdgpaaProg
import Derived.Test.YtmjhdfifbjdgpaaQ2
import Derived.Test.YtmjhdfifbjdgpaaQ3
import Derived.Sort.OwnSortedInts
import Derived.Maps.Ext
import Derived.RegionTactic
import Derived.BigRegion
set_option linter.unusedSimpArgs false
set_option linter.unusedVariables false
namespace Go.Proofs
open Go.Shelf
def Try.lays189_ren : Go.Shelf.Ren := ⟨fun | 189 => 89 | 125 => 106 | 257 => 105 | 128 => 124 | 129 => 125 | 294 => 115 | 295 => 116 | 296 => 117 | 297 => 118 | 298 => 119 | 299 => 120 | 216 => 121 | 300 => 122 | 301 => 123 | 328 => 130 | 329 => 131 | 330 => 132 | 331 => 133 | 332 => 134 | 215 => 135 | 343 => 138 | n => n, fun | 28 => 22 | 3 => 3 | 46 => 155 | 0 => 0 | 51 => 176 | 53 => 178 | 4 => 4 | 183 => 169 | 182 => 168 | 131 => 106 | 5 => 5 | 9 => 9 | 218 => 184 | 222 => 188 | 228 => 192 | 229 => 193 | n => n, fun | n => n⟩
theorem Try.lays189 : Go.Proofs.Lays.n189 Try.prog Try.lays189_ren := {
  mixed := by kernel_rfl
  f125 := Try.func106.trans (congrArg some (by kernel_rfl))
  f128 := Try.func124.trans (congrArg some (by kernel_rfl))
  f129 := Try.func125.trans (congrArg some (by kernel_rfl))
  f189 := Try.func89.trans (congrArg some (by kernel_rfl))
  f215 := Try.func135.trans (congrArg some (by kernel_rfl))
  f216 := Try.func121.trans (congrArg some (by kernel_rfl))
  f257 := Try.func105.trans (congrArg some (by kernel_rfl))
  f294 := Try.func115.trans (congrArg some (by kernel_rfl))
  f295 := Try.func116.trans (congrArg some (by kernel_rfl))
  f296 := Try.func117.trans (congrArg some (by kernel_rfl))
  f297 := Try.func118.trans (congrArg some (by kernel_rfl))
  f298 := Try.func119.trans (congrArg some (by kernel_rfl))
  f299 := Try.func120.trans (congrArg some (by kernel_rfl))
  f300 := Try.func122.trans (congrArg some (by kernel_rfl))
  f301 := Try.func123.trans (congrArg some (by kernel_rfl))
  f328 := Try.func130.trans (congrArg some (by kernel_rfl))
  f329 := Try.func131.trans (congrArg some (by kernel_rfl))
  f330 := Try.func132.trans (congrArg some (by kernel_rfl))
  f331 := Try.func133.trans (congrArg some (by kernel_rfl))
  f332 := Try.func134.trans (congrArg some (by kernel_rfl))
  f343 := Try.func138.trans (congrArg some (by kernel_rfl))
  t0 := Try.underlying0
  a0 := Try.isAgg0
  z0 := Try.sizeOf0
  v0 := Try.zeroValue0
  t3 := Try.underlying3
  a3 := Try.isAgg3
  z3 := Try.sizeOf3
  v3 := Try.zeroValue3
  t4 := Try.underlying4
  a4 := Try.isAgg4
  z4 := Try.sizeOf4
  v4 := Try.zeroValue4
  t5 := Try.underlying5
  a5 := Try.isAgg5
  z5 := Try.sizeOf5
  v5 := Try.zeroValue5
  t9 := Try.underlying9
  a9 := Try.isAgg9
  z9 := Try.sizeOf9
  v9 := Try.zeroValue9
  t28 := Try.underlying22
  a28 := Try.isAgg22
  z28 := Try.sizeOf22
  v28 := Try.zeroValue22
  t46 := Try.underlying155
  a46 := Try.isAgg155
  z46 := Try.sizeOf155
  v46 := Try.zeroValue155
  t51 := Try.underlying176
  a51 := Try.isAgg176
  z51 := Try.sizeOf176
  v51 := Try.zeroValue176
  t53 := Try.underlying178
  a53 := Try.isAgg178
  z53 := Try.sizeOf178
  v53 := Try.zeroValue178
  t131 := Try.underlying106
  a131 := Try.isAgg106
  z131 := Try.sizeOf106
  v131 := Try.zeroValue106
  t182 := Try.underlying168
  a182 := Try.isAgg168
  z182 := Try.sizeOf168
  v182 := Try.zeroValue168
  t183 := Try.underlying169
  a183 := Try.isAgg169
  z183 := Try.sizeOf169
  v183 := Try.zeroValue169
  t218 := Try.underlying184
  a218 := Try.isAgg184
  z218 := Try.sizeOf184
  v218 := Try.zeroValue184
  t222 := Try.underlying188
  a222 := Try.isAgg188
  z222 := Try.sizeOf188
  v222 := Try.zeroValue188
  t228 := Try.underlying192
  a228 := Try.isAgg192
  z228 := Try.sizeOf192
  v228 := Try.zeroValue192
  t229 := Try.underlying193
  a229 := Try.isAgg193
  z229 := Try.sizeOf193
  v229 := Try.zeroValue193 }
open Go.Sort Go.RowKit in
theorem Try.slices_Sort_int (blk off cap : Nat) (zs : List Int) (w : World) (hH : Holds (Value.int .i64) w blk off zs.toArray) (hblk : blk < w.heap.size) (hsz : zs.length < 4611686018427387904) :
    Calls Try.prog 89 #[.slice (some ⟨blk, off, none⟩) zs.length cap] w fun e w' =>
      e = .returned (.tuple #[]) ∧ ∃ n os, w' = grow (putRow (Value.int .i64) (Sort.ahead w n) blk off (zs.mergeSort fun x y => decide (x ≤ y)).toArray) os := Any.slices_Sort_int Try.lays189 blk off cap zs w hH hblk hsz
theorem Try.slices_Sort_int_none (p : Option Addr) (cap : Nat) (w : World) :
    Calls Try.prog 89 #[.slice p 0 cap] w fun e w' => e = .returned (.tuple #[]) ∧ w' = w := Any.slices_Sort_int_none Try.lays189 p cap w
end Go.Proofs

/- Package shelf: a shelf in memory; New, Append, Sync, Cut, Log, Unsynced, Put, Get, Drop, Man, Turn, Crash, Wipe. -/
namespace Go.Proofs.Ytmjhdfifbjdgpaa
open Go Go.RowKit
attribute [local go_sem] yields yUpon

/-- A shelf in memory: its box p, its map m. -/
structure ShelfAt (w : World) (p m : Nat) (log : ByteArray) (good : Nat) (F : Fl) (man : ByteArray) : Prop where
  box : BoxAt w p #[.string log, .int .i64 (good : Int), .map (some m), .string man] 111
  files : FilesAt w m F
  ne : p ≠ m
  good_le : good ≤ log.size
  log_le : log.size ≤ 262144
theorem ShelfAt.touch {w w' : World} {L : List Nat} (ht : Touch w w' L) {p m : Nat} {log : ByteArray} {good : Nat} {F : Fl} {man : ByteArray} (h : ShelfAt w p m log good F man) (hp : p ∉ L) (hm : m ∉ L) : ShelfAt w' p m log good F man :=
  ⟨ht.box h.box hp, ht.files h.files hm, h.ne, h.good_le, h.log_le⟩
theorem ShelfAt.ext {w w' : World} (hE : Ext w w') {p m : Nat} {log : ByteArray} {good : Nat} {F : Fl} {man : ByteArray} (h : ShelfAt w p m log good F man) : ShelfAt w' p m log good F man :=
  h.touch (Touch.of_ext hE []) (by simp) (by simp)
theorem ShelfAt.c0 {w : World} {p m : Nat} {log : ByteArray} {good : Nat} {F : Fl} {man : ByteArray} (h : ShelfAt w p m log good F man) : w.cell? ⟨p, 0, none⟩ = some (.string log) := by rw [h.box.cell]; rfl
theorem ShelfAt.c1 {w : World} {p m : Nat} {log : ByteArray} {good : Nat} {F : Fl} {man : ByteArray} (h : ShelfAt w p m log good F man) : w.cell? ⟨p, 1, none⟩ = some (.int .i64 (good : Int)) := by rw [h.box.cell]; rfl
theorem ShelfAt.c2 {w : World} {p m : Nat} {log : ByteArray} {good : Nat} {F : Fl} {man : ByteArray} (h : ShelfAt w p m log good F man) : w.cell? ⟨p, 2, none⟩ = some (.map (some m)) := by rw [h.box.cell]; rfl
theorem ShelfAt.c3 {w : World} {p m : Nat} {log : ByteArray} {good : Nat} {F : Fl} {man : ByteArray} (h : ShelfAt w p m log good F man) : w.cell? ⟨p, 3, none⟩ = some (.string man) := by rw [h.box.cell]; rfl
theorem ShelfAt.turn {w w' : World} {p m : Nat} {log log' : ByteArray} {good good' : Nat} {F : Fl} {man man' : ByteArray} (h : ShelfAt w p m log good F man) (ht : Touch w w' [p])
    (hb : BoxAt w' p #[.string log', .int .i64 (good' : Int), .map (some m), .string man'] 111) (h1 : good' ≤ log'.size) (h2 : log'.size ≤ 262144) : ShelfAt w' p m log' good' F man' :=
  ⟨hb, ht.files h.files (by simp; exact fun e => h.ne e.symm), h.ne, h1, h2⟩

set_option maxHeartbeats 400000 in
theorem sh_new (w : World) : Calls Try.prog 21 #[] w fun e w' => e = .returned (.pointer (some ⟨w.heap.size + 1, 0, none⟩)) ∧ w' = (w.alloc (.map #[] 0)).alloc (.cells #[.string ⟨#[]⟩, .int .i64 0, .map (some w.heap.size), .string ⟨#[]⟩] 111) := by
  have hmm := @run_makeMap Try.prog
  go_enter Try.func21, Try.ntmps21
  go_wp2
  go_ret
  exact ⟨rfl, rfl⟩
theorem sh_made (w : World) : ShelfAt ((w.alloc (.map #[] 0)).alloc (.cells #[.string ⟨#[]⟩, .int .i64 0, .map (some w.heap.size), .string ⟨#[]⟩] 111)) (w.heap.size + 1) w.heap.size ⟨#[]⟩ 0 [] ⟨#[]⟩ := by
  have e : (w.alloc (.map #[] 0)).heap.size = w.heap.size + 1 := by simp
  refine ⟨?_, (files_new w).ext ((Ext.refl _).alloc _), by omega, by simp, by simp [ByteArray.size]⟩
  have := BoxAt.made (w.alloc (.map #[] 0)) #[.string ⟨#[]⟩, .int .i64 0, .map (some w.heap.size), .string ⟨#[]⟩] 111
  rw [e] at this
  exact this

section
variable {p m : Nat} {log : ByteArray} {good : Nat} {F : Fl} {man : ByteArray}

set_option maxHeartbeats 400000 in
theorem sh_log (w : World) (h : ShelfAt w p m log good F man) : Calls Try.prog 55 #[.pointer (some ⟨p, 0, none⟩)] w fun e w' => e = .returned (.string log) ∧ w = w' := by
  have c0 := h.c0
  go_enter Try.func55, Try.ntmps55
  go_wp2
  go_ret
  exact ⟨rfl, rfl⟩

set_option maxHeartbeats 400000 in
theorem sh_man (w : World) (h : ShelfAt w p m log good F man) : Calls Try.prog 70 #[.pointer (some ⟨p, 0, none⟩)] w fun e w' => e = .returned (.string man) ∧ w = w' := by
  have c0 := h.c3
  go_enter Try.func70, Try.ntmps70
  go_wp2
  go_ret
  exact ⟨rfl, rfl⟩

set_option maxHeartbeats 400000 in
theorem sh_append (b : ByteArray) (hb : b.size ≤ maxLen) (w : World) (h : ShelfAt w p m log good F man) :
    Calls Try.prog 52 #[.pointer (some ⟨p, 0, none⟩), .string b] w fun e w' =>
      (e = .returned (.int .i64 (if log.size + b.size ≤ 262144 then 0 else 2)) ∧ Touch w w' [p]) ∧ ShelfAt w' p m (if log.size + b.size ≤ 262144 then log ++ b else log) good F man := by
  have c0 := h.c0
  have f0 := h.box.free 0
  have hl := h.log_le
  unfold maxLen at hb
  by_cases hs : log.size + b.size ≤ 262144
  · rw [if_pos hs, if_pos hs]
    have hlt : ¬ (262144 - (log.size : Int) < (b.size : Int)) := by omega
    go_enter Try.func52, Try.ntmps52
    go_wp2
    go_ret
    refine ⟨⟨rfl, Touch.set (by simp)⟩, h.turn (Touch.set (by simp)) (h.box.set 0 _) ?_ ?_⟩
    · rw [ByteArray.size_append]; have := h.good_le; omega
    · rw [ByteArray.size_append]; omega
  · rw [if_neg hs, if_neg hs]
    have hlt : 262144 - (log.size : Int) < (b.size : Int) := by omega
    go_enter Try.func52, Try.ntmps52
    go_wp2
    go_ret
    exact ⟨⟨rfl, Touch.refl _ _⟩, h⟩

set_option maxHeartbeats 400000 in
theorem sh_sync0 (v : Value) (w : World) (c0 : w.cell? ⟨p, 0, none⟩ = some (.string log)) (c1 : w.cell? ⟨p, 1, none⟩ = some v) (f1 : w.frozen? ⟨p, 1, none⟩ = false) (hl : log.size ≤ 262144) :
    Calls Try.prog 53 #[.pointer (some ⟨p, 0, none⟩)] w fun e w' => e = .returned (.tuple #[]) ∧ w' = w.setCell ⟨p, 1, none⟩ (.int .i64 (log.size : Int)) := by
  go_enter Try.func53, Try.ntmps53
  go_wp2
  go_end0
  exact ⟨rfl, rfl⟩

theorem sh_sync (w : World) (h : ShelfAt w p m log good F man) : Calls Try.prog 53 #[.pointer (some ⟨p, 0, none⟩)] w fun e w' => (e = .returned (.tuple #[]) ∧ Touch w w' [p]) ∧ ShelfAt w' p m log log.size F man :=
  (sh_sync0 _ w h.c0 h.c1 (h.box.free 1) h.log_le).mono fun e w' ⟨he, hw⟩ => by
    subst hw
    exact ⟨⟨he, Touch.set (by simp)⟩, h.turn (Touch.set (by simp)) (h.box.set 1 _) (Nat.le_refl _) h.log_le⟩

set_option maxHeartbeats 400000 in
theorem sh_turn (b : ByteArray) (hb : b.size ≤ maxLen) (w : World) (h : ShelfAt w p m log good F man) :
    Calls Try.prog 64 #[.pointer (some ⟨p, 0, none⟩), .string b] w fun e w' =>
      (e = .returned (.int .i64 (if b.size ≤ 262144 then 0 else 2)) ∧ Touch w w' [p]) ∧ (if b.size ≤ 262144 then ShelfAt w' p m ⟨#[]⟩ 0 F b else w' = w) := by
  have c0 := h.c0
  have c1 := h.c1
  have c3 := h.c3
  have f0 := h.box.free 0
  have f1 := h.box.free 1
  have f3 := h.box.free 3
  unfold maxLen at hb
  by_cases hs : b.size ≤ 262144
  · simp only [if_pos hs]
    have hlt : ¬ (262144 < (b.size : Int)) := by omega
    go_enter Try.func64, Try.ntmps64
    go_wp2
    go_ret
    have ht : Touch w (((w.setCell ⟨p, 3, none⟩ (.string b)).setCell ⟨p, 0, none⟩ (.string ⟨#[]⟩)).setCell ⟨p, 1, none⟩ (.int .i64 0)) [p] :=
      (((Touch.set (L := [p]) (by simp)).trans (Touch.set (L := [p]) (by simp))).trans (Touch.set (L := [p]) (by simp))).mono (by simp)
    exact ⟨⟨rfl, ht⟩, h.turn ht (((h.box.set 3 _).set 0 _).set 1 _) (by simp) (by simp [ByteArray.size])⟩
  · simp only [if_neg hs]
    have hlt : 262144 < (b.size : Int) := by omega
    go_enter Try.func64, Try.ntmps64
    go_wp2
    go_ret
    exact ⟨⟨rfl, Touch.refl _ _⟩, rfl⟩

set_option maxHeartbeats 400000 in
theorem sh_unsynced (w : World) (h : ShelfAt w p m log good F man) :
    Calls Try.prog 56 #[.pointer (some ⟨p, 0, none⟩)] w fun e w' => e = .returned (.int .i64 ((log.size : Int) - good)) ∧ ∃ n, w' = w.drewN n := by
  have c0 := h.c0
  have c1 := h.c1
  have hl := h.log_le
  have hg := h.good_le
  go_enter Try.func56, Try.ntmps56
  go_wp2
  go_quiet (fail)
  go_wp2
  go_ret
  exact ⟨rfl, _, rfl⟩

/-- How many bytes are left by 'Cut(n)'. -/
def cutN (n : Int) (k : Nat) : Nat := (max 0 (min n (k : Int))).toNat
theorem cutN_le (n : Int) (k : Nat) : cutN n k ≤ k := by unfold cutN; omega
theorem cut_size (s : ByteArray) (n : Nat) (h : n ≤ s.size) : (s.extract 0 n).size = n := by simp [ByteArray.size_extract]; omega

set_option maxHeartbeats 400000 in
theorem sh_get (n : Int) (h0 : -9223372036854775808 ≤ n) (h1 : n ≤ 9223372036854775807) (w : World) (h : ShelfAt w p m log good F man) :
    Calls Try.prog 23 #[.pointer (some ⟨p, 0, none⟩), .int .i64 n] w fun e w' => e = .returned (.tuple #[.string (str (fget n F)), .int .i64 (if fhas n F then 0 else 9)]) ∧ w = w' := by
  have c2 := h.c2
  obtain ⟨hk, _⟩ := files_look h.files h0 h1
  cases hh : fhas n F with
  | true =>
    rw [hh] at hk
    rw [if_pos rfl]
    clear hh
    go_enter Try.func23, Try.ntmps23
    go_wp2
    go_ret2
    exact ⟨rfl, rfl⟩
  | false =>
    rw [hh] at hk
    have e : fget n F = [] := by
      unfold fget fhas at *
      rw [List.find?_eq_none.2 (by simpa using hh)]; rfl
    rw [if_neg (by decide), e]
    rw [e] at hk
    clear hh e
    go_enter Try.func23, Try.ntmps23
    go_wp2
    go_ret2
    exact ⟨rfl, rfl⟩

set_option maxHeartbeats 400000 in
theorem sh_drop (n : Int) (h0 : -9223372036854775808 ≤ n) (h1 : n ≤ 9223372036854775807) (w : World) (h : ShelfAt w p m log good F man) :
    Calls Try.prog 62 #[.pointer (some ⟨p, 0, none⟩), .int .i64 n] w fun e w' => (e = .returned (.bool (fhas n F)) ∧ Touch w w' [m]) ∧ ShelfAt w' p m log good (fdel n F) man := by
  have c2 := h.c2
  obtain ⟨hk, _⟩ := files_look h.files h0 h1
  obtain ⟨w1, hr, hf, ht⟩ := files_del h.files h0 h1 0
  go_enter Try.func62, Try.ntmps62
  go_wp2
  go_ret
  exact ⟨⟨rfl, ht⟩, ht.box h.box (by simpa using h.ne), hf, h.ne, h.good_le, h.log_le⟩

/-- What 'Put' says. -/
def putE (n : Int) (b : ByteArray) (F : Fl) : Int := if n < 1 ∨ 1099511627776 < n ∨ fhas n F = true then 1 else if 262144 < b.size ∨ 40 ≤ F.length then 2 else 0

set_option maxHeartbeats 400000 in
theorem sh_put (n : Int) (h0 : -9223372036854775808 ≤ n) (h1 : n ≤ 9223372036854775807) (b : ByteArray) (hb : b.size ≤ maxLen) (hF : F.length ≤ 40) (w : World) (h : ShelfAt w p m log good F man) :
    Calls Try.prog 60 #[.pointer (some ⟨p, 0, none⟩), .int .i64 n, .string b] w fun e w' => (e = .returned (.int .i64 (putE n b F)) ∧ Touch w w' [m]) ∧ ShelfAt w' p m log good (if putE n b F = 0 then fput n b.data.toList F else F) man := by
  have c2 := h.c2
  obtain ⟨hk, _⟩ := files_look h.files h0 h1
  have hlen := files_len h.files 3
  have hb' := hb
  unfold maxLen at hb'
  by_cases e1 : n < 1 ∨ 1099511627776 < n ∨ fhas n F = true
  · have e : putE n b F = 1 := by unfold putE; rw [if_pos e1]
    rw [e, if_neg (by decide)]
    clear e
    by_cases a1 : n < 1
    · go_enter Try.func60, Try.ntmps60
      go_wp2
      go_ret
      exact ⟨⟨rfl, Touch.refl _ _⟩, h⟩
    · by_cases a2 : 1099511627776 < n
      · go_enter Try.func60, Try.ntmps60
        go_wp2
        go_ret
        exact ⟨⟨rfl, Touch.refl _ _⟩, h⟩
      · have a3 : fhas n F = true := by rcases e1 with x | x | x; exact absurd x a1; exact absurd x a2; exact x
        rw [a3] at hk
        clear e1
        go_enter Try.func60, Try.ntmps60
        go_wp2
        go_ret
        exact ⟨⟨rfl, Touch.refl _ _⟩, h⟩
  · have a1 : ¬ n < 1 := fun x => e1 (.inl x)
    have a2 : ¬ 1099511627776 < n := fun x => e1 (.inr (.inl x))
    have a3 : fhas n F = false := by cases hh : fhas n F; rfl; exact absurd (.inr (.inr hh)) e1
    rw [a3] at hk
    by_cases e2 : 262144 < b.size ∨ 40 ≤ F.length
    · have e : putE n b F = 2 := by unfold putE; rw [if_neg e1, if_pos e2]
      rw [e, if_neg (by decide)]
      clear e e1
      by_cases a4 : 262144 < b.size
      · have a4' : 262144 < (b.size : Int) := by omega
        clear e2 a4
        go_enter Try.func60, Try.ntmps60
        go_wp2
        go_ret
        exact ⟨⟨rfl, Touch.refl _ _⟩, h⟩
      · have a4' : ¬ 262144 < (b.size : Int) := by omega
        have a5 : 40 ≤ (F.length : Int) := by rcases e2 with x | x; exact absurd x a4; omega
        clear e2 a4
        go_enter Try.func60, Try.ntmps60
        go_wp2
        go_ret
        exact ⟨⟨rfl, Touch.refl _ _⟩, h⟩
    · have e : putE n b F = 0 := by unfold putE; rw [if_neg e1, if_neg e2]
      rw [e, if_pos rfl]
      have a4' : ¬ 262144 < (b.size : Int) := by omega
      have a5 : ¬ 40 ≤ (F.length : Int) := by omega
      obtain ⟨w1, hr, hf, ht⟩ := files_put h.files h0 h1 hb (by unfold maxLen; omega)
      clear e e1 e2
      go_enter Try.func60, Try.ntmps60
      go_wp2
      go_ret
      exact ⟨⟨rfl, ht⟩, ht.box h.box (by simpa using h.ne), hf, h.ne, h.good_le, h.log_le⟩

set_option maxHeartbeats 1000000 in
theorem sh_cut (n : Int) (w : World) (h : ShelfAt w p m log good F man) :
    Calls Try.prog 58 #[.pointer (some ⟨p, 0, none⟩), .int .i64 n] w fun e w' => (e = .returned (.tuple #[]) ∧ Touch w w' [p]) ∧ ShelfAt w' p m (log.extract 0 (cutN n log.size)) (cutN n log.size) F man := by
  have c0 := h.c0
  have f0 := h.box.free 0
  have hl := h.log_le
  have hc := cutN_le n log.size
  have hcs := Lib.hid (cut_size log _ hc)
  go_enter Try.func58, Try.ntmps58
  go_wp2
  go_region
  change Exit.then _ _ _ _ ((w.setCell ⟨p, 0, none⟩ (.string (log.extract 0 (cutN n log.size)))).drew)
  have hb : BoxAt ((w.setCell ⟨p, 0, none⟩ (.string (log.extract 0 (cutN n log.size)))).drew) p #[.string (log.extract 0 (cutN n log.size)), .int .i64 (good : Int), .map (some m), .string man] 111 := h.box.set 0 _
  have ht : Touch w (((w.setCell ⟨p, 0, none⟩ (.string (log.extract 0 (cutN n log.size)))).setCell ⟨p, 1, none⟩ (.int .i64 (cutN n log.size : Int))).drew) [p] :=
    (((Touch.set (L := [p]) (by simp)).trans (Touch.set (L := [p]) (by simp))).mono (by simp)).drew
  have hs : ShelfAt (((w.setCell ⟨p, 0, none⟩ (.string (log.extract 0 (cutN n log.size)))).setCell ⟨p, 1, none⟩ (.int .i64 (cutN n log.size : Int))).drew) p m (log.extract 0 (cutN n log.size)) (cutN n log.size) F man :=
    h.turn ht ((h.box.set 0 _).set 1 _) (by rw [hcs.out]; exact Nat.le_refl _) (by rw [hcs.out]; omega)
  go_wp2_with (go_at_call 53; go_must (refine (sh_sync0 _ _ (hb.cell 0) (hb.cell 1) (hb.free 1) (by rw [hcs.out]; omega)).mono ?_); rintro e w1 ⟨rfl, rfl⟩)
  all_goals
    go_end0
    exact ⟨⟨rfl, ht⟩, hs⟩

/-- How many bytes a crash leaves. -/
def crashN (n : Int) (good k : Nat) : Nat := good + (max 0 (min n ((k : Int) - good))).toNat
theorem crashN_le (n : Int) {good k : Nat} (h : good ≤ k) : crashN n good k ≤ k := by unfold crashN; omega
theorem crashN_cut (n u : Int) {good k : Nat} (h : good ≤ k) (hu : u = (k : Int) - good) : cutN (good + max 0 (min n u)) k = crashN n good k := by
  subst hu
  unfold crashN cutN
  omega

set_option maxHeartbeats 1000000 in
theorem sh_crash (n : Int) (h0 : -9223372036854775808 ≤ n) (h1 : n ≤ 9223372036854775807) (w : World) (h : ShelfAt w p m log good F man) :
    Calls Try.prog 54 #[.pointer (some ⟨p, 0, none⟩), .int .i64 n] w fun e w' => (e = .returned (.tuple #[]) ∧ Touch w w' [p]) ∧ ShelfAt w' p m (log.extract 0 (crashN n good log.size)) (crashN n good log.size) F man := by
  have c1 := h.c1
  have hl := h.log_le
  have hg := h.good_le
  obtain ⟨u, hu⟩ : ∃ u : Int, u = (log.size : Int) - good := ⟨_, rfl⟩
  have u0 : 0 ≤ u := by omega
  have u1 : u ≤ 262144 := by omega
  have K2 := Lib.hid (crashN_cut n u hg hu)
  have HU := Lib.hid hu
  clear hu
  go_enter Try.func54, Try.ntmps54
  go_wp2
  refine wp_region_tab 11 [(2, fun v _ => v = .pointer (some ⟨p, 0, none⟩)), (7, fun v _ => v = .int .i64 u)] (by kernel_rfl) (by kernel_rfl) (by kernel_rfl) ⟨stays_eq _, stays_eq _, trivial⟩ ?_
  replace c1 := held c1
  refine rg_quiet rfl rfl rfl rfl ?_; intro K hK; go_big_quiet_op; go_big_quiet_on
  refine rg_quiet rfl rfl rfl rfl ?_; intro K hK; go_big_quiet_op; go_big_quiet_on
  refine rg_val [] rfl rfl rfl (by kernel_rfl) (fun w1 hE hf => ?_) ?_
  · go_simp
    exact rg_done hE (Ext.refl w1) rfl
  simp only [Act.put, List.setIfInBounds_toArray, List.set_cons_zero, List.set_cons_succ]
  refine rg_quiet rfl rfl rfl rfl ?_; intro K hK; go_big_quiet_op; go_big_quiet_on
  refine rg_quiet rfl rfl rfl rfl ?_; intro K hK; go_big_quiet_op; go_big_quiet_on
  refine rg_quiet rfl rfl rfl rfl ?_; intro K hK; go_big_quiet_op; go_big_quiet_on
  refine rg_quiet rfl rfl rfl rfl ?_; intro K hK; go_big_quiet_op; go_big_quiet_on
  refine rg_val [] rfl rfl rfl (by kernel_rfl) (fun w1 hE hf => ?_) ?_
  · go_simp
    exact (sh_unsynced w1 (h.ext hE)).mono fun e w' ⟨he, k, hw⟩ => ⟨_, he, rg_done hE (by rw [hw]; exact (Ext.refl w1).drewN k) (by rw [HU.out])⟩
  simp only [Act.put, List.setIfInBounds_toArray, List.set_cons_zero, List.set_cons_succ]
  refine rg_quiet rfl rfl rfl rfl ?_; intro K hK; go_big_quiet_op; go_big_quiet_on
  refine rg_quiet rfl rfl rfl rfl ?_; intro K hK; go_big_quiet_op; go_big_quiet_on
  refine rg_quiet rfl rfl rfl rfl ?_; intro K hK; go_big_quiet_op; go_big_quiet_on
  refine rel_tail rfl rfl fun w1 hE hG => ?_
  clear c1 hG
  go_wp2_with (go_at_call 58; go_must (refine (sh_cut _ _ (h.ext hE)).mono ?_); rintro e w2 ⟨⟨rfl, ht⟩, hs⟩; rw [K2.out] at hs)
  all_goals
    go_end0
    exact ⟨⟨rfl, ((Touch.of_ext hE [p]).trans ht).mono (by simp)⟩, hs⟩

set_option maxHeartbeats 1000000 in
theorem sh_wipe (w : World) (h : ShelfAt w p m log good F man) :
    Calls Try.prog 67 #[.pointer (some ⟨p, 0, none⟩)] w fun e w' => (e = .returned (.tuple #[]) ∧ Touch w w' [p]) ∧ ShelfAt w' p w.heap.size ⟨#[]⟩ 0 [] ⟨#[]⟩ := by
  have hlt := h.box.lt
  have hm := sh_made w
  have hb := h.box.ext (((Ext.refl w).alloc (.map #[] 0)).alloc (.cells #[.string ⟨#[]⟩, .int .i64 0, .map (some w.heap.size), .string ⟨#[]⟩] 111))
  have c0 := hm.c0
  have c1 := hm.c1
  have c2 := hm.c2
  have c3 := hm.c3
  go_enter Try.func67, Try.ntmps67
  go_wp2_with (first | (go_at_call 21; go_must (refine (sh_new _).mono ?_); rintro e w1 ⟨rfl, rfl⟩) | ((guard_target =~ wpList _ _ _ (Oper.mk none (Op.store _ (Operand.tmp 6) (Operand.tmp 5)) _ _ _ _ :: _) _ _); go_must (refine storeBox rfl 111 (.tmp 6) (.tmp 5) rfl (p) _ _ _ (by rfl) (by rfl) (hb) (by kernel_rfl) (by rfl) (by simp [Value.oneCell']) ?_); intro w6 c6 g6))
  go_end0
  have t6 : Touch _ w6 [p] := Touch.of_grown g6 (by simp)
  refine ⟨⟨rfl, ((Touch.of_ext (((Ext.refl w).alloc _).alloc _) [p]).trans t6).mono (by simp)⟩, c6, t6.files hm.files (by simp; omega), by omega, by simp, by simp [ByteArray.size]⟩
end
end Go.Proofs.Ytmjhdfifbjdgpaa

/- Package shelf: Nums, Copy: a range over the map. -/
namespace Go.Proofs.Ytmjhdfifbjdgpaa
open Go Go.RowKit
attribute [local go_sem] yields yUpon

theorem strict_eq : ∀ (l m : List Int), l.Pairwise (· < ·) → m.Pairwise (· < ·) → (∀ x, x ∈ l ↔ x ∈ m) → l = m
  | [], [], _, _, _ => rfl
  | [], y :: m, _, _, h => by have := (h y).2 (by simp); cases this
  | x :: l, [], _, _, h => by have := (h x).1 (by simp); cases this
  | x :: l, y :: m, hl, hm, h => by
    obtain ⟨l1, l2⟩ := List.pairwise_cons.1 hl
    obtain ⟨m1, m2⟩ := List.pairwise_cons.1 hm
    have hxy : x = y := by
      rcases List.mem_cons.1 ((h x).1 (by simp)) with e | e
      · exact e
      · rcases List.mem_cons.1 ((h y).2 (by simp)) with e2 | e2
        · exact e2.symm
        · have := m1 x e; have := l1 y e2; omega
    subst hxy
    rw [strict_eq l m l2 m2 fun z => ?_]
    constructor
    · intro hz
      rcases List.mem_cons.1 ((h z).1 (by simp [hz])) with e | e
      · subst e; have := l1 z hz; omega
      · exact e
    · intro hz
      rcases List.mem_cons.1 ((h z).2 (by simp [hz])) with e | e
      · subst e; have := m1 z hz; omega
      · exact e
def keysF (F : Fl) : List Int := F.map (·.1)
theorem keysF_mem (F : Fl) (x : Int) : x ∈ keysF F ↔ fhas x F = true := by
  simp [keysF, fhas]
theorem keysF_rises {F : Fl} (h : Rises F) : (keysF F).Pairwise (· < ·) := by
  unfold keysF
  rw [List.pairwise_map]
  exact h
theorem sorted_keys {xs : List Int} {F : Fl} (hF : Rises F) (hn : xs.Nodup) (hm : ∀ x, x ∈ xs ↔ fhas x F = true) : xs.mergeSort (fun x y => decide (x ≤ y)) = keysF F := by
  have hp := List.mergeSort_perm xs (fun x y => decide (x ≤ y))
  refine strict_eq _ _ ?_ (keysF_rises hF) fun x => by rw [keysF_mem, ← hm, hp.mem_iff]
  have h1 := List.pairwise_mergeSort (le := fun x y : Int => decide (x ≤ y)) (fun a b c h1 h2 => by simp at *; omega) (fun a b => by simp; omega) xs
  have h2 : (xs.mergeSort (fun x y => decide (x ≤ y))).Nodup := hp.nodup_iff.2 hn
  refine (h1.and h2).imp fun h => ?_
  obtain ⟨a, b⟩ := h
  simp at a
  omega

theorem info_int : (Try.prog.info? 3).map (fun i => (i.zero, i.size, i.bytes)) = some (some (.int .i64 0), 1, 8) := by kernel_rfl
theorem und_ints : Try.prog.underlying 22 = some (.slice 3) := by kernel_rfl

theorem grownBy_refl0 (w : World) (r : Option Nat) : w.grownBy w r := ⟨rfl, rfl, rfl, Nat.le_refl _, fun _ _ _ => rfl⟩
/-- How far a range over the files is: what has come. -/
def Came (F : Fl) (left : Lit → Bool) (xs : List Int) : Prop := (∀ x : Int, left (.int .i64 x) = (fhas x F && !xs.contains x)) ∧ xs.Nodup ∧ ∀ x ∈ xs, fhas x F = true
theorem came_start (F : Fl) : Came F (Maps.has (fD F : DataW Nat)) [] := ⟨fun x => by rw [fD_has]; simp, List.nodup_nil, by simp⟩
theorem came_more {F : Fl} {left : Lit → Bool} {xs : List Int} (h : Came F left xs) {x : Int} (hx : left (.int .i64 x) = true) : Came F (fun z => left z && !z.sameKey (.int .i64 x)) (xs ++ [x]) := by
  obtain ⟨h1, h2, h3⟩ := h
  rw [h1] at hx
  simp only [Bool.and_eq_true, Bool.not_eq_true', List.contains_eq_mem, decide_eq_false_iff_not] at hx
  refine ⟨fun y => ?_, ?_, fun y hy => ?_⟩
  · simp only [h1, sameKey_int]
    simp only [List.contains_eq_mem, List.mem_append, List.mem_singleton]
    cases fhas y F
    · rfl
    · by_cases hy : y ∈ xs <;> by_cases hyx : y = x <;> simp [hy, hyx]
  · rw [List.nodup_append]
    exact ⟨h2, by simp, fun a ha b hb => by simp at hb; subst hb; intro e; subst e; exact hx.2 ha⟩
  · rcases List.mem_append.1 hy with hy | hy
    · exact h3 y hy
    · simp at hy; subst hy; exact hx.1
theorem came_end {F : Fl} {left : Lit → Bool} {xs : List Int} (h : Came F left xs) (hl : ∀ kl, left kl = false) : ∀ x, x ∈ xs ↔ fhas x F = true := by
  obtain ⟨h1, h2, h3⟩ := h
  refine fun x => ⟨h3 x, fun hx => ?_⟩
  have := h1 x
  rw [hl, hx] at this
  simpa using this
theorem came_len {F : Fl} {left : Lit → Bool} {xs : List Int} (h : Came F left xs) : xs.length ≤ F.length := by
  obtain ⟨_, h2, h3⟩ := h
  have e : (keysF F).length = F.length := by simp [keysF]
  rw [← e]
  have : ∀ (l m : List Int), l.Nodup → (∀ x ∈ l, x ∈ m) → l.length ≤ m.length := by
    intro l
    induction l with
    | nil => intro m _ _; simp
    | cons a l ih =>
      intro m hl hm
      obtain ⟨a1, a2⟩ := List.nodup_cons.1 hl
      have := ih (m.erase a) a2 (fun x hx => (List.mem_erase_of_ne (fun e => a1 (by rw [← e]; exact hx))).2 (hm x (by simp [hx])))
      rw [List.length_erase_of_mem (hm a (by simp))] at this
      have h0 : 0 < m.length := List.length_pos_of_mem (hm a (by simp))
      simp; omega
  exact this xs (keysF F) h2 fun x hx => (keysF_mem F x).2 (h3 x hx)

theorem sort_own {w : World} {B n : Nat} {v : Value} {xs : List Int} (h : w.ownsRow B 3 1 v n (kcells .i64 xs)) (hn : n = xs.length) (hl : xs.length < 4611686018427387904) :
    Calls Try.prog 89 #[v] w fun e w' => e = .returned (.tuple #[]) ∧ w'.ownsRow B 3 1 v n (kcells .i64 (xs.mergeSort fun x y => decide (x ≤ y))) ∧ w.grownBy w' v.ownBlock := by
  subst hn
  have hle : (xs.mergeSort fun x y => decide (x ≤ y)).length = xs.length := (List.mergeSort_perm xs _).length_eq
  obtain ⟨hlen, h⟩ := h
  rcases h with ⟨rfl, hx⟩ | ⟨g, cap, cur, rfl, hb, hg, hnc, hm, hs, ht⟩
  · obtain rfl : xs = [] := by cases xs <;> simp_all [kcells]
    refine (Try.slices_Sort_int_none none 0 w).mono ?_
    rintro e w' ⟨rfl, rfl⟩
    exact ⟨rfl, by simpa [kcells] using World.ownsRow_nil w' B 3 1, grownBy_refl0 _ _⟩
  · rw [Nat.mul_one] at ht
    refine (Try.slices_Sort_int g 0 cap xs w (holds_of_blockI hg ht) (Array.getElem?_eq_some_iff.1 hg).1 hl).mono ?_
    rintro e w' ⟨rfl, n, os, rfl⟩
    exact ⟨rfl, ownsRow_sortedI hle hb hg hnc hm hs, grownBy_sortedI _⟩

section
variable {p m : Nat} {log : ByteArray} {good : Nat} {F : Fl} {man : ByteArray}
set_option maxHeartbeats 1000000 in
theorem sh_nums (hF : F.length ≤ 4611686018427) (w : World) (h : ShelfAt w p m log good F man) :
    Calls Try.prog 69 #[.pointer (some ⟨p, 0, none⟩)] w fun e w' => ∃ v, (e = .returned v ∧ IntsIn w' v .i64 (keysF F)) ∧ Ext w w' := by
  have c2 := h.c2
  have hm := h.files.lt
  go_enter Try.func69, Try.ntmps69
  go_wp2_with (at_range; go_must (refine wpList_range_own _ rfl _ 99 rfl 3 9 keyed0 und_mapis _ m F.length _ rfl h.files.1 ?_); intro w0 hrg0 hg0 hs0)
  go_frame
  go_loopw [3, 4] (fun v _ wr => ∃ (xs : List Int) (left : Lit → Bool) (cnt : Nat), wr.ranges Try.prog 3 (plainElem (H := Nat) Try.prog 9) m w.heap.size F.length (fD F) left cnt ∧ wr.ownsRow (w.heap.size + 1) 3 1 v xs.length (kcells .i64 xs) ∧ Hid (Came F left xs) ∧ w.heap.size + 1 ≤ wr.heap.size ∧ Ext w wr)
    (fun _ _ wr => wr.rangeLeft m w.heap.size)
  case atStart => exact ⟨[], _, _, hrg0, World.ownsRow_nil _ _ _ _, Lib.hid (came_start F), by omega, (Ext.refl w).grown hg0 (by simp)⟩
  case round =>
    obtain ⟨xs, left, cnt, hrg, hown, HC, hsz, hE⟩ := hrel
    go_wp2_with (at_next; go_must (refine wpList_next_ranges_is _ rfl _ rfl 3 9 .i64 keyed0 und_int0 und_str0 m w.heap.size F.length _ _ _ rfl hrg ?_ ?_))
    · intro _ hl0
      have HS := Lib.hid (sorted_keys h.files.2 HC.out.2.1 (came_end HC.out hl0))
      have HL := Lib.hid (came_len HC.out)
      clear hl0
      go_wp2_with (go_at_call 89; go_must (refine (sort_own hown rfl (by have := HL.out; omega)).mono ?_); rintro e w1 ⟨rfl, hown1, hg1⟩)
      go_ret
      rw [HS.out] at hown1
      refine ⟨_, ⟨rfl, ?_⟩, hE.grown hg1 fun k hk => by have := (hown.lt k hk).1; omega⟩
      have e : xs.length = (keysF F).length := by rw [← HS.out]; exact (List.mergeSort_perm xs _).length_eq.symm
      rw [e] at hown1
      exact SliceIn.of_owns hown1
    · intro x c w1 cnt1 hwx hcs hlx hat hrg1 hlt hg1 hs1 hen
      have HC1 := Lib.hid (came_more HC.out hlx)
      have HL := came_len HC1.out
      simp at HL
      have hr : ∀ k, some k = u3.ownBlock → w.heap.size + 1 ≤ k := fun k hk => (hown.lt k hk.symm).1
      have hown1 := hown.kept hg1 (.inr fun e => by have := hr _ e.symm; omega)
      have hE1 := hE.grown hg1 (fun k hk => by cases hk; omega)
      have HS := Lib.hid hs1
      have HR := Lib.hid hr
      clear hlx hat hs1 hr hg1
      go_wp2_with (at_builtin; go_must (refine appR info_int und_ints rfl (by decide) w1 rfl (.tmp 14) (.tmp 16) rfl (w.heap.size + 1) (by rw [HS.out]; omega) _ xs.length (kcells .i64 xs) hown1 (by rfl) 1 _ (by rfl) (by rfl) (by simp [Value.oneCell']) (by unfold maxLen; omega) (by omega) ?_); intro v2 w2 hown2 hg2)
      have hrg2 := (hrg1.alloc (.cells #[.int .i64 x] 3)).kept hg2 (fun e => by have := HR.out _ e; omega) (fun e => by have := HR.out _ e; omega)
      have hE2 := (hE1.alloc (.cells #[.int .i64 x] 3)).grown hg2 (fun k hk => by have := HR.out k hk.symm; omega)
      have hz2 := hg2.size
      go_roundw
      case rel => exact ⟨xs ++ [x], _, cnt1, hrg2, by simpa [kcells] using hown2, HC1, by have := HS.out; simp at hz2; omega, hE2⟩
      case measure => rw [hrg2.left_eq, hrg.left_eq]; exact hlt
end
end Go.Proofs.Ytmjhdfifbjdgpaa

/- slices.Sorted(maps.Keys(m)) at a map of bodies by numbers: the numbers in order. -/
namespace Go.Proofs.Ytmjhdfifbjdgpaa
open Go Go.RowKit Go.Maps Go.Sort Go.Shelf

theorem nk_sortsIn (m : Nat) : AnyZI.SortsIn Try.prog Try.sortedA_ren Fence.wide m :=
  ⟨fun blk off cap ss W hH hblk hsz => callsIn_wide.2 (AnyM.slices_Sort_int Try.sortA blk off cap ss W hH hblk hsz),
   fun p cap W => callsIn_wide.2 (AnyM.slices_Sort_int_none Try.sortA p cap W)⟩

theorem nk_keys (mb : Option Nat) (W : World) : Calls Try.prog 47 #[.map mb] W fun e w' => e = .returned (.func (.func 90) #[] #[.pointer (some ⟨W.heap.size, 0, none⟩)]) ∧ w' = W.alloc (.cells #[.map mb] 99) :=
  (callsIn_wide (n := 5)).1 (AnyZI.keys_in Try.keysA Fence.wide 5 trivial rfl mb W)

theorem intKeys_fD (F : Fl) : intKeys (fD F : DataW Nat) = keysF F := by
  simp only [intKeys, fD, keysF, List.map_map]
  rfl

set_option maxHeartbeats 1000000 in
theorem nk_sorted {F : Fl} {m : Nat} (hF : F.length ≤ 1000000) (w : World) (h : FilesAt w m F) :
    Calls Try.prog 46 #[.func (.func 90) #[] #[.pointer (some ⟨w.heap.size, 0, none⟩)]] (w.alloc (.cells #[.map (some m)] 99)) fun e w' =>
      ∃ v, (e = .returned v ∧ Ext (w.alloc (.cells #[.map (some m)] 99)) w') ∧ w'.ownsRow (w.alloc (.cells #[.map (some m)] 99)).heap.size 3 1 v F.length (kcells .i64 (keysF F)) := by
  obtain ⟨hown, hr⟩ := h
  have hbl := hown.lt
  have hsz : Maps.size (fD F : DataW Nat) = F.length := fD_size F
  have hseq : SeqGives Fence.wide 2 Try.prog 90 #[.pointer (some ⟨w.heap.size, 0, none⟩)] encZ (fun ss => ss.Perm (intKeys (fD F : DataW Nat))) (Maps.size (fD F : DataW Nat)) (w.alloc (.cells #[.map (some m)] 99)) :=
    AnyZI.keys_gives (ρ := Try.keysA_ren) { Try.keysA with } Fence.wide _ trivial rfl (by omega) w.heap.size m F.length (fD F) _ (by simp) (by simp) (by
      obtain ⟨es, clock, hb, Ft, hs, hD⟩ := hown
      exact ⟨es, clock, (Below.heap_alloc _ _ m hbl).trans hb, Ft, hs, hD⟩)
  have cS := AnyZI.sorted_in Try.sortedA Fence.wide 5 trivial trivial trivial trivial rfl (by omega) (nk_sortsIn _) (enters_of Try.func89 (by kernel_rfl) rfl) 90 #[.pointer (some ⟨w.heap.size, 0, none⟩)] trivial (enters_of Try.func90 (by kernel_rfl) rfl) _ _ (by rw [hsz]; unfold maxLen; omega) (by rw [hsz]; omega) _ hseq
  have cS' := (callsIn_wide (n := _)).1 cS
  rw [intKeys_fD] at cS'
  refine Calls.mono cS' ?_
  rintro e w' ⟨v, ss, rfl, hp, hrow, _, hb⟩
  refine ⟨v, ⟨rfl, hb⟩, ?_⟩
  have hk := keysF_rises hr
  have hs : ss.mergeSort (fun x y => decide (x ≤ y)) = keysF F := sorted_keys hr (hp.nodup_iff.2 (hk.imp fun h => by omega)) fun x => by rw [hp.mem_iff, keysF_mem]
  have hl : ss.length = F.length := by rw [hp.length_eq]; simp [keysF]
  rw [hs, hl] at hrow
  exact hrow
end Go.Proofs.Ytmjhdfifbjdgpaa
