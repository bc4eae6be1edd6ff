/- Package shelf: calls that go well, as the laws want them; law05.awake. -/
import Derived.Test.YthhhbmeceilkhaaK3
set_option linter.unusedSimpArgs false
set_option linter.unusedVariables false
namespace Go.Proofs.Ythhhbmeceilkhaa
open Go Go.RowKit
attribute [local go_sem] yields yUpon

section
variable {W w : World} {p m : Nat} {log : ByteArray} {good : Nat} {F : Fl} {man : ByteArray}
/-- A shelf of the call's own: made behind the world W. -/
structure Own5 (W w : World) (p m : Nat) (log : ByteArray) (good : Nat) (F : Fl) (man : ByteArray) : Prop where
  at_ : ShelfAt w p m log good F man
  ext : Ext W w
  hp : W.heap.size ≤ p
  hm : W.heap.size ≤ m
theorem Own5.step {w' : World} {p' m' : Nat} {log' : ByteArray} {good' : Nat} {F' : Fl} {man' : ByteArray} (h : Own5 W w p m log good F man) {L : List Nat} (ht : Touch w w' L) (hL : ∀ k ∈ L, W.heap.size ≤ k)
    (hs : ShelfAt w' p' m' log' good' F' man') (hp : W.heap.size ≤ p') (hm : W.heap.size ≤ m') : Own5 W w' p' m' log' good' F' man' := ⟨hs, ht.ext h.ext hL, hp, hm⟩
theorem Own5.more {w' : World} (h : Own5 W w p m log good F man) (hE : Ext w w') : Own5 W w' p m log good F man := ⟨h.at_.ext hE, h.ext.trans hE, h.hp, h.hm⟩
theorem ow_new (w : World) : Calls Try.prog 10 #[] w fun e w' => e = .returned (.pointer (some ⟨w.heap.size + 1, 0, none⟩)) ∧ Own5 w w' (w.heap.size + 1) w.heap.size ⟨#[]⟩ 0 [] ⟨#[]⟩ :=
  (sh_new w).mono fun e w' ⟨he, hw⟩ => by
    subst hw
    exact ⟨he, sh_made w, ((Ext.refl w).alloc _).alloc _, by omega, Nat.le_refl _⟩
theorem ow_append (b log' : ByteArray) (hb : log.size + b.size ≤ 262144) (hl : log ++ b = log') (h : Own5 W w p m log good F man) :
    Calls Try.prog 12 #[.pointer (some ⟨p, 0, none⟩), .string b] w fun e w' => e = .returned (.int .i64 0) ∧ Own5 W w' p m log' good F man :=
  (sh_append b (by unfold maxLen; omega) w h.at_).mono fun e w' ⟨⟨he, ht⟩, hs⟩ => by
    rw [if_pos hb] at he hs
    subst hl
    exact ⟨he, h.step ht (by simpa using h.hp) hs h.hp h.hm⟩
theorem ow_append_no (b : ByteArray) (hb : 262144 < log.size + b.size) (hm : b.size ≤ maxLen) (h : Own5 W w p m log good F man) :
    Calls Try.prog 12 #[.pointer (some ⟨p, 0, none⟩), .string b] w fun e w' => e = .returned (.int .i64 2) ∧ Own5 W w' p m log good F man :=
  (sh_append b hm w h.at_).mono fun e w' ⟨⟨he, ht⟩, hs⟩ => by
    rw [if_neg (by omega)] at he hs
    exact ⟨he, h.step ht (by simpa using h.hp) hs h.hp h.hm⟩
theorem ow_sync (h : Own5 W w p m log good F man) : Calls Try.prog 16 #[.pointer (some ⟨p, 0, none⟩)] w fun e w' => e = .returned (.tuple #[]) ∧ Own5 W w' p m log log.size F man :=
  (sh_sync w h.at_).mono fun e w' ⟨⟨he, ht⟩, hs⟩ => ⟨he, h.step ht (by simpa using h.hp) hs h.hp h.hm⟩
theorem ow_log (h : Own5 W w p m log good F man) : Calls Try.prog 19 #[.pointer (some ⟨p, 0, none⟩)] w fun e w' => e = .returned (.string log) ∧ w = w' := sh_log w h.at_
theorem ow_man (h : Own5 W w p m log good F man) : Calls Try.prog 22 #[.pointer (some ⟨p, 0, none⟩)] w fun e w' => e = .returned (.string man) ∧ w = w' := sh_man w h.at_
theorem ow_unsynced (n : Int) (hn : n = (log.size : Int) - good) (h : Own5 W w p m log good F man) : Calls Try.prog 17 #[.pointer (some ⟨p, 0, none⟩)] w fun e w' => e = .returned (.int .i64 n) ∧ Ext w w' ∧ Own5 W w' p m log good F man :=
  (sh_unsynced w h.at_).mono fun e w' ⟨he, k, hw⟩ => by
    subst hn; subst hw
    have : Ext w (w.drewN k) := (Ext.refl w).drewN k
    exact ⟨he, this, h.more this⟩
theorem ow_crash (n : Int) (h0 : -9223372036854775808 ≤ n) (h1 : n ≤ 9223372036854775807) (log' : ByteArray) (good' : Nat) (hg : crashN n good log.size = good') (hl : log.extract 0 good' = log') (h : Own5 W w p m log good F man) :
    Calls Try.prog 18 #[.pointer (some ⟨p, 0, none⟩), .int .i64 n] w fun e w' => e = .returned (.tuple #[]) ∧ Own5 W w' p m log' good' F man :=
  (sh_crash n h0 h1 w h.at_).mono fun e w' ⟨⟨he, ht⟩, hs⟩ => by
    subst hg; subst hl
    exact ⟨he, h.step ht (by simpa using h.hp) hs h.hp h.hm⟩
theorem ow_turn (b : ByteArray) (hb : b.size ≤ 262144) (h : Own5 W w p m log good F man) :
    Calls Try.prog 21 #[.pointer (some ⟨p, 0, none⟩), .string b] w fun e w' => e = .returned (.int .i64 0) ∧ Own5 W w' p m ⟨#[]⟩ 0 F b ∧ Touch w w' [p] :=
  (sh_turn b (by unfold maxLen; omega) w h.at_).mono fun e w' ⟨⟨he, ht⟩, hs⟩ => by
    rw [if_pos hb] at he hs
    exact ⟨he, h.step ht (by simpa using h.hp) hs h.hp h.hm, ht⟩
theorem ow_turn_no (b : ByteArray) (hb : 262144 < b.size) (hm : b.size ≤ maxLen) (h : Own5 W w p m log good F man) :
    Calls Try.prog 21 #[.pointer (some ⟨p, 0, none⟩), .string b] w fun e w' => e = .returned (.int .i64 2) ∧ Own5 W w' p m log good F man :=
  (sh_turn b hm w h.at_).mono fun e w' ⟨⟨he, ht⟩, hs⟩ => by
    rw [if_neg (by omega)] at he hs
    subst hs
    exact ⟨he, h⟩
theorem ow_put (n : Int) (h0 : -9223372036854775808 ≤ n) (h1 : n ≤ 9223372036854775807) (b : ByteArray) (hb : b.size ≤ maxLen) (hF : F.length ≤ 40) (k : Int) (F' : Fl) (hk : putE n b F = k) (hF' : (if k = 0 then fput n b.data.toList F else F) = F') (h : Own5 W w p m log good F man) :
    Calls Try.prog 13 #[.pointer (some ⟨p, 0, none⟩), .int .i64 n, .string b] w fun e w' => e = .returned (.int .i64 k) ∧ Own5 W w' p m log good F' man :=
  (sh_put n h0 h1 b hb hF w h.at_).mono fun e w' ⟨⟨he, ht⟩, hs⟩ => by
    subst hk; subst hF'
    exact ⟨he, h.step ht (by simpa using h.hm) hs h.hp h.hm⟩
theorem ow_get (n : Int) (h0 : -9223372036854775808 ≤ n) (h1 : n ≤ 9223372036854775807) (b : ByteArray) (k : Int) (hb : str (fget n F) = b) (hk : (if fhas n F then 0 else 9) = k) (h : Own5 W w p m log good F man) :
    Calls Try.prog 20 #[.pointer (some ⟨p, 0, none⟩), .int .i64 n] w fun e w' => e = .returned (.tuple #[.string b, .int .i64 k]) ∧ w = w' := by
  subst hb; subst hk
  exact sh_get n h0 h1 w h.at_
theorem ow_drop (n : Int) (h0 : -9223372036854775808 ≤ n) (h1 : n ≤ 9223372036854775807) (t : Bool) (F' : Fl) (ht : fhas n F = t) (hF' : fdel n F = F') (h : Own5 W w p m log good F man) :
    Calls Try.prog 28 #[.pointer (some ⟨p, 0, none⟩), .int .i64 n] w fun e w' => e = .returned (.bool t) ∧ Own5 W w' p m log good F' man ∧ Touch w w' [m] :=
  (sh_drop n h0 h1 w h.at_).mono fun e w' ⟨⟨he, hT⟩, hs⟩ => by
    subst ht; subst hF'
    exact ⟨he, h.step hT (by simpa using h.hm) hs h.hp h.hm, hT⟩
theorem ow_nums (l : List Int) (hl : keysF F = l) (hF : F.length ≤ 40) (h : Own5 W w p m log good F man) :
    Calls Try.prog 14 #[.pointer (some ⟨p, 0, none⟩)] w fun e w' => ∃ a c, e = .returned (.slice a l.length c) ∧ IntsIn w' (.slice a l.length c) .i64 l ∧ Ext w w' ∧ Own5 W w' p m log good F man :=
  (sh_nums (by omega) w h.at_).mono fun e w' ⟨v, ⟨he, hv⟩, hE⟩ => by
    subst hl
    obtain ⟨a, c, rfl, h1, h2, h3, h4⟩ := hv
    exact ⟨a, c, he, ⟨a, c, rfl, h1, h2, h3, h4⟩, hE, h.more hE⟩
theorem ow_cut (n : Int) (log' : ByteArray) (good' : Nat) (hg : cutN n log.size = good') (hl : log.extract 0 good' = log') (h : Own5 W w p m log good F man) :
    Calls Try.prog 43 #[.pointer (some ⟨p, 0, none⟩), .int .i64 n] w fun e w' => e = .returned (.tuple #[]) ∧ Own5 W w' p m log' good' F man :=
  (sh_cut n w h.at_).mono fun e w' ⟨⟨he, ht⟩, hs⟩ => by
    subst hg; subst hl
    exact ⟨he, h.step ht (by simpa using h.hp) hs h.hp h.hm⟩
theorem ow_wipe (h : Own5 W w p m log good F man) :
    Calls Try.prog 29 #[.pointer (some ⟨p, 0, none⟩)] w fun e w' => e = .returned (.tuple #[]) ∧ Own5 W w' p w.heap.size ⟨#[]⟩ 0 [] ⟨#[]⟩ ∧ Touch w w' [p] :=
  (sh_wipe w h.at_).mono fun e w' ⟨⟨he, ht⟩, hs⟩ => ⟨he, h.step ht (by simpa using h.hp) hs h.hp h.ext.le, ht⟩
theorem ow_copy (hF : F.length ≤ 40) (h : Own5 W w p m log good F man) :
    Calls Try.prog 26 #[.pointer (some ⟨p, 0, none⟩)] w fun e w' => e = .returned (.pointer (some ⟨w.heap.size + 1, 0, none⟩)) ∧ Own5 W w' p m log good F man ∧ Own5 W w' (w.heap.size + 1) w.heap.size log good F man :=
  (sh_copy hF w h.at_).mono fun e w' ⟨⟨he, hE⟩, hs⟩ => ⟨he, h.more hE, hs, h.ext.trans hE, by have := h.ext.le; omega, h.ext.le⟩
end

set_option maxHeartbeats 1000000 in
theorem awake5_any (w : World) : Calls Try.prog 15 #[] w fun e w' => e = .returned (.bool true) ∧ Ext w w' := by
  go_enter Try.func15, Try.ntmps15
  go_wp2_with fail
  refine (ow_new w).mono ?_
  rintro e w1 ⟨rfl, h⟩
  go_wp2_with fail
  refine (ow_append _ ⟨#[97, 98, 99]⟩ (by decide) (by rfl) h).mono ?_
  rintro e w2 ⟨rfl, h2⟩
  clear h
  go_wp2_with fail
  refine (ow_sync h2).mono ?_
  rintro e w3 ⟨rfl, h3⟩
  clear h2
  go_wp2_with fail
  refine (ow_append _ ⟨#[97, 98, 99, 100, 101]⟩ (by decide) (by rfl) h3).mono ?_
  rintro e w4 ⟨rfl, h4⟩
  clear h3
  go_wp2_with fail
  refine (ow_crash 1 (by omega) (by omega) ⟨#[97, 98, 99, 100]⟩ 4 (by decide) (by rfl) h4).mono ?_
  rintro e w5 ⟨rfl, h5⟩
  clear h4
  go_wp2_with fail
  refine (ow_log h5).mono ?_
  rintro e w6 ⟨rfl, rfl⟩
  go_wp2_with fail
  refine (ow_unsynced 0 (by decide) h5).mono ?_
  rintro e w6 ⟨rfl, hE, h6⟩
  go_wp2
  go_ret
  exact ⟨rfl, h6.ext⟩
end Go.Proofs.Ythhhbmeceilkhaa
