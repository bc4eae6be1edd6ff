/- Place: any number as one below another. -/
import Derived.Test.YtmjhdfifbjdgpaaS1
import Derived.Test.YtmjhdfifbjdgpaaS7
import Derived.Test.YtmjhdfifbjdgpaaProg
set_option linter.unusedSimpArgs false
set_option linter.unusedVariables false
namespace Go.Proofs.Ytmjhdfifbjdgpaa
open Go Go.RowKit

set_option maxHeartbeats 400000 in
theorem place_any (v n : Int) (h : 1 ≤ n) (hn : n ≤ 9223372036854775807) (w : World) :
    Calls Try.prog 9 #[.int .i64 v, .int .i64 n] w fun e w' => e = .returned (.int .i64 (v % n)) ∧ w = w' := by
  have hlo := (tmod_lo (v := v) h).1
  have hhi := (tmod_lo (v := v) h).2
  by_cases h0 : v.tmod n < 0
  · have HE := Lib.hid (tmod_neg h h0)
    go_enter Try.func9, Try.ntmps9
    go_wp2
    go_ret
    exact ⟨ret_int HE.out, rfl⟩
  · have h0' : 0 ≤ v.tmod n := by omega
    have HE := Lib.hid (tmod_pos h h0')
    go_enter Try.func9, Try.ntmps9
    go_wp2
    go_ret
    exact ⟨ret_int HE.out, rfl⟩

end Go.Proofs.Ytmjhdfifbjdgpaa

/- Package shelf: calls that go well, as the laws want them; law05.awake. -/
namespace Go.Proofs.Ytmjhdfifbjdgpaa
open Go Go.RowKit
attribute [local go_sem] yields yUpon

section
variable {W w : World} {p m : Nat} {log : ByteArray} {good : Nat} {F : Fl} {man : ByteArray}
/-- A shelf of the call's own: made behind the world W. -/
structure Own5 (W w : World) (p m : Nat) (log : ByteArray) (good : Nat) (F : Fl) (man : ByteArray) : Prop where
  at_ : ShelfAt w p m log good F man
  ext : Ext W w
  hp : W.heap.size ≤ p
  hm : W.heap.size ≤ m
theorem Own5.step {w' : World} {p' m' : Nat} {log' : ByteArray} {good' : Nat} {F' : Fl} {man' : ByteArray} (h : Own5 W w p m log good F man) {L : List Nat} (ht : Touch w w' L) (hL : ∀ k ∈ L, W.heap.size ≤ k)
    (hs : ShelfAt w' p' m' log' good' F' man') (hp : W.heap.size ≤ p') (hm : W.heap.size ≤ m') : Own5 W w' p' m' log' good' F' man' := ⟨hs, ht.ext h.ext hL, hp, hm⟩
theorem Own5.more {w' : World} (h : Own5 W w p m log good F man) (hE : Ext w w') : Own5 W w' p m log good F man := ⟨h.at_.ext hE, h.ext.trans hE, h.hp, h.hm⟩
theorem ow_new (w : World) : Calls Try.prog 21 #[] w fun e w' => e = .returned (.pointer (some ⟨w.heap.size + 1, 0, none⟩)) ∧ Own5 w w' (w.heap.size + 1) w.heap.size ⟨#[]⟩ 0 [] ⟨#[]⟩ :=
  (sh_new w).mono fun e w' ⟨he, hw⟩ => by
    subst hw
    exact ⟨he, sh_made w, ((Ext.refl w).alloc _).alloc _, by omega, Nat.le_refl _⟩
theorem ow_append (b log' : ByteArray) (hb : log.size + b.size ≤ 262144) (hl : log ++ b = log') (h : Own5 W w p m log good F man) :
    Calls Try.prog 52 #[.pointer (some ⟨p, 0, none⟩), .string b] w fun e w' => e = .returned (.int .i64 0) ∧ Own5 W w' p m log' good F man :=
  (sh_append b (by unfold maxLen; omega) w h.at_).mono fun e w' ⟨⟨he, ht⟩, hs⟩ => by
    rw [if_pos hb] at he hs
    subst hl
    exact ⟨he, h.step ht (by simpa using h.hp) hs h.hp h.hm⟩
theorem ow_append_no (b : ByteArray) (hb : 262144 < log.size + b.size) (hm : b.size ≤ maxLen) (h : Own5 W w p m log good F man) :
    Calls Try.prog 52 #[.pointer (some ⟨p, 0, none⟩), .string b] w fun e w' => e = .returned (.int .i64 2) ∧ Own5 W w' p m log good F man :=
  (sh_append b hm w h.at_).mono fun e w' ⟨⟨he, ht⟩, hs⟩ => by
    rw [if_neg (by omega)] at he hs
    exact ⟨he, h.step ht (by simpa using h.hp) hs h.hp h.hm⟩
theorem ow_sync (h : Own5 W w p m log good F man) : Calls Try.prog 53 #[.pointer (some ⟨p, 0, none⟩)] w fun e w' => e = .returned (.tuple #[]) ∧ Own5 W w' p m log log.size F man :=
  (sh_sync w h.at_).mono fun e w' ⟨⟨he, ht⟩, hs⟩ => ⟨he, h.step ht (by simpa using h.hp) hs h.hp h.hm⟩
theorem ow_log (h : Own5 W w p m log good F man) : Calls Try.prog 55 #[.pointer (some ⟨p, 0, none⟩)] w fun e w' => e = .returned (.string log) ∧ w = w' := sh_log w h.at_
theorem ow_man (h : Own5 W w p m log good F man) : Calls Try.prog 70 #[.pointer (some ⟨p, 0, none⟩)] w fun e w' => e = .returned (.string man) ∧ w = w' := sh_man w h.at_
theorem ow_unsynced (n : Int) (hn : n = (log.size : Int) - good) (h : Own5 W w p m log good F man) : Calls Try.prog 56 #[.pointer (some ⟨p, 0, none⟩)] w fun e w' => e = .returned (.int .i64 n) ∧ Ext w w' ∧ Own5 W w' p m log good F man :=
  (sh_unsynced w h.at_).mono fun e w' ⟨he, k, hw⟩ => by
    subst hn; subst hw
    have : Ext w (w.drewN k) := (Ext.refl w).drewN k
    exact ⟨he, this, h.more this⟩
theorem ow_crash (n : Int) (h0 : -9223372036854775808 ≤ n) (h1 : n ≤ 9223372036854775807) (log' : ByteArray) (good' : Nat) (hg : crashN n good log.size = good') (hl : log.extract 0 good' = log') (h : Own5 W w p m log good F man) :
    Calls Try.prog 54 #[.pointer (some ⟨p, 0, none⟩), .int .i64 n] w fun e w' => e = .returned (.tuple #[]) ∧ Own5 W w' p m log' good' F man :=
  (sh_crash n h0 h1 w h.at_).mono fun e w' ⟨⟨he, ht⟩, hs⟩ => by
    subst hg; subst hl
    exact ⟨he, h.step ht (by simpa using h.hp) hs h.hp h.hm⟩
theorem ow_turn (b : ByteArray) (hb : b.size ≤ 262144) (h : Own5 W w p m log good F man) :
    Calls Try.prog 64 #[.pointer (some ⟨p, 0, none⟩), .string b] w fun e w' => e = .returned (.int .i64 0) ∧ Own5 W w' p m ⟨#[]⟩ 0 F b ∧ Touch w w' [p] :=
  (sh_turn b (by unfold maxLen; omega) w h.at_).mono fun e w' ⟨⟨he, ht⟩, hs⟩ => by
    rw [if_pos hb] at he hs
    exact ⟨he, h.step ht (by simpa using h.hp) hs h.hp h.hm, ht⟩
theorem ow_turn_no (b : ByteArray) (hb : 262144 < b.size) (hm : b.size ≤ maxLen) (h : Own5 W w p m log good F man) :
    Calls Try.prog 64 #[.pointer (some ⟨p, 0, none⟩), .string b] w fun e w' => e = .returned (.int .i64 2) ∧ Own5 W w' p m log good F man :=
  (sh_turn b hm w h.at_).mono fun e w' ⟨⟨he, ht⟩, hs⟩ => by
    rw [if_neg (by omega)] at he hs
    subst hs
    exact ⟨he, h⟩
theorem ow_put (n : Int) (h0 : -9223372036854775808 ≤ n) (h1 : n ≤ 9223372036854775807) (b : ByteArray) (hb : b.size ≤ maxLen) (hF : F.length ≤ 40) (k : Int) (F' : Fl) (hk : putE n b F = k) (hF' : (if k = 0 then fput n b.data.toList F else F) = F') (h : Own5 W w p m log good F man) :
    Calls Try.prog 60 #[.pointer (some ⟨p, 0, none⟩), .int .i64 n, .string b] w fun e w' => e = .returned (.int .i64 k) ∧ Own5 W w' p m log good F' man :=
  (sh_put n h0 h1 b hb hF w h.at_).mono fun e w' ⟨⟨he, ht⟩, hs⟩ => by
    subst hk; subst hF'
    exact ⟨he, h.step ht (by simpa using h.hm) hs h.hp h.hm⟩
theorem ow_get (n : Int) (h0 : -9223372036854775808 ≤ n) (h1 : n ≤ 9223372036854775807) (b : ByteArray) (k : Int) (hb : str (fget n F) = b) (hk : (if fhas n F then 0 else 9) = k) (h : Own5 W w p m log good F man) :
    Calls Try.prog 23 #[.pointer (some ⟨p, 0, none⟩), .int .i64 n] w fun e w' => e = .returned (.tuple #[.string b, .int .i64 k]) ∧ w = w' := by
  subst hb; subst hk
  exact sh_get n h0 h1 w h.at_
theorem ow_drop (n : Int) (h0 : -9223372036854775808 ≤ n) (h1 : n ≤ 9223372036854775807) (t : Bool) (F' : Fl) (ht : fhas n F = t) (hF' : fdel n F = F') (h : Own5 W w p m log good F man) :
    Calls Try.prog 62 #[.pointer (some ⟨p, 0, none⟩), .int .i64 n] w fun e w' => e = .returned (.bool t) ∧ Own5 W w' p m log good F' man ∧ Touch w w' [m] :=
  (sh_drop n h0 h1 w h.at_).mono fun e w' ⟨⟨he, hT⟩, hs⟩ => by
    subst ht; subst hF'
    exact ⟨he, h.step hT (by simpa using h.hm) hs h.hp h.hm, hT⟩
theorem ow_nums (l : List Int) (hl : keysF F = l) (hF : F.length ≤ 40) (h : Own5 W w p m log good F man) :
    Calls Try.prog 69 #[.pointer (some ⟨p, 0, none⟩)] w fun e w' => ∃ a c, e = .returned (.slice a l.length c) ∧ IntsIn w' (.slice a l.length c) .i64 l ∧ Ext w w' ∧ Own5 W w' p m log good F man :=
  (sh_nums (by omega) w h.at_).mono fun e w' ⟨v, ⟨he, hv⟩, hE⟩ => by
    subst hl
    obtain ⟨a, c, rfl, h1, h2, h3, h4⟩ := hv
    exact ⟨a, c, he, ⟨a, c, rfl, h1, h2, h3, h4⟩, hE, h.more hE⟩
theorem ow_cut (n : Int) (log' : ByteArray) (good' : Nat) (hg : cutN n log.size = good') (hl : log.extract 0 good' = log') (h : Own5 W w p m log good F man) :
    Calls Try.prog 58 #[.pointer (some ⟨p, 0, none⟩), .int .i64 n] w fun e w' => e = .returned (.tuple #[]) ∧ Own5 W w' p m log' good' F man :=
  (sh_cut n w h.at_).mono fun e w' ⟨⟨he, ht⟩, hs⟩ => by
    subst hg; subst hl
    exact ⟨he, h.step ht (by simpa using h.hp) hs h.hp h.hm⟩
theorem ow_wipe (h : Own5 W w p m log good F man) :
    Calls Try.prog 67 #[.pointer (some ⟨p, 0, none⟩)] w fun e w' => e = .returned (.tuple #[]) ∧ Own5 W w' p w.heap.size ⟨#[]⟩ 0 [] ⟨#[]⟩ ∧ Touch w w' [p] :=
  (sh_wipe w h.at_).mono fun e w' ⟨⟨he, ht⟩, hs⟩ => ⟨he, h.step ht (by simpa using h.hp) hs h.hp h.ext.le, ht⟩
theorem ow_copy (hF : F.length ≤ 40) (h : Own5 W w p m log good F man) :
    Calls Try.prog 27 #[.pointer (some ⟨p, 0, none⟩)] w fun e w' => e = .returned (.pointer (some ⟨w.heap.size + 1, 0, none⟩)) ∧ Own5 W w' p m log good F man ∧ Own5 W w' (w.heap.size + 1) w.heap.size log good F man :=
  (sh_copy hF w h.at_).mono fun e w' ⟨⟨he, hE⟩, hs⟩ => ⟨he, h.more hE, hs, h.ext.trans hE, by have := h.ext.le; omega, h.ext.le⟩
end

set_option maxHeartbeats 1000000 in
theorem awake5_any (w : World) : Calls Try.prog 22 #[] w fun e w' => e = .returned (.bool true) ∧ Ext w w' := by
  go_enter Try.func22, Try.ntmps22
  go_wp2_with fail
  refine (ow_new w).mono ?_
  rintro e w1 ⟨rfl, h⟩
  go_wp2_with fail
  refine (ow_append _ ⟨#[97, 98, 99]⟩ (by decide) (by rfl) h).mono ?_
  rintro e w2 ⟨rfl, h2⟩
  clear h
  go_wp2_with fail
  refine (ow_sync h2).mono ?_
  rintro e w3 ⟨rfl, h3⟩
  clear h2
  go_wp2_with fail
  refine (ow_append _ ⟨#[97, 98, 99, 100, 101]⟩ (by decide) (by rfl) h3).mono ?_
  rintro e w4 ⟨rfl, h4⟩
  clear h3
  go_wp2_with fail
  refine (ow_crash 1 (by omega) (by omega) ⟨#[97, 98, 99, 100]⟩ 4 (by decide) (by rfl) h4).mono ?_
  rintro e w5 ⟨rfl, h5⟩
  clear h4
  go_wp2_with fail
  refine (ow_log h5).mono ?_
  rintro e w6 ⟨rfl, rfl⟩
  go_wp2_with fail
  refine (ow_unsynced 0 (by decide) h5).mono ?_
  rintro e w6 ⟨rfl, hE, h6⟩
  go_wp2
  go_ret
  exact ⟨rfl, h6.ext⟩
end Go.Proofs.Ytmjhdfifbjdgpaa

/- A shelf and the reference's, alike: what a call leaves. -/
namespace Go.Proofs.Ytmjhdfifbjdgpaa
open Go Go.RowKit
attribute [local go_sem] yields yUpon

/-- Files as a shelf may have them. -/
structure Small5 (F : Fl) : Prop where
  len : F.length ≤ 40
  keys : ∀ r ∈ F, 1 ≤ r.1 ∧ r.1 ≤ 1099511627776
theorem Small5.nil : Small5 [] := ⟨by simp, by simp⟩
theorem Small5.del {F : Fl} (h : Small5 F) (n : Int) : Small5 (fdel n F) :=
  ⟨Nat.le_trans (List.length_filter_le ..) h.len, fun q hq => h.keys q (List.mem_filter.1 hq).1⟩
theorem Small5.put {F : Fl} (h : Small5 F) (hr : Rises F) (n : Int) (s : ByteArray) : Small5 (if putE n s F = 0 then fput n s.data.toList F else F) := by
  split
  · rename_i hp
    unfold putE at hp
    split at hp
    · cases hp
    · rename_i hp1
      split at hp
      · cases hp
      · rename_i hp2
        have hl := h.len
        refine ⟨?_, fun q hq => ?_⟩
        · rw [fput_length hr]
          split <;> omega
        · rcases fput_mem hq with rfl | hq
          · simp; omega
          · exact h.keys q hq
  · exact h
/-- The two, alike. -/
structure Duo (w wr : World) (p m q : Nat) (log : ByteArray) (good : Nat) (F : Fl) (man : ByteArray) : Prop where
  shelf : ShelfAt wr p m log good F man
  ref : S5At wr q log good F man
  ext : Ext w wr
  hp : w.heap.size ≤ p
  hm : w.heap.size ≤ m
  hq : w.heap.size ≤ q
  len : Small5 F
section
variable {w wr : World} {p m q : Nat} {log : ByteArray} {good : Nat} {F : Fl} {man : ByteArray}
theorem Duo.grow {w' : World} (h : Duo w wr p m q log good F man) (hE : Ext wr w') : Duo w w' p m q log good F man := ⟨h.shelf.ext hE, h.ref.ext hE, h.ext.trans hE, h.hp, h.hm, h.hq, h.len⟩
theorem ShelfAt.otherP (h : ShelfAt wr p m log good F man) : Other5 wr p := other5_box h.box (by decide)
theorem ShelfAt.otherM (h : ShelfAt wr p m log good F man) : Other5 wr m := other5_files h.files
theorem S5At.other (h : S5At wr q log good F man) : Other5 wr q := by obtain ⟨v, hb, _⟩ := h.box; exact other5_box hb (by decide)
theorem S5At.ne_box {k : Nat} {cs : Array Value} {T : TypeId} (h : S5At wr q log good F man) (hb : BoxAt wr k cs T) (hT : T ≠ 54) : q ≠ k := by obtain ⟨v, hq, _⟩ := h.box; exact fun e => box_ne hb hq hT e.symm
theorem S5At.ne_files {k : Nat} {G : Fl} (h : S5At wr q log good F man) (hf : FilesAt wr k G) : q ≠ k := by
  obtain ⟨v, hq, _⟩ := h.box
  obtain ⟨⟨es, clock, hb, _⟩, _⟩ := hf
  rintro rfl
  unfold BoxAt at hq
  rw [hb] at hq
  cases hq
theorem Duo.qp (h : Duo w wr p m q log good F man) : q ≠ p := h.ref.ne_box h.shelf.box (by decide)
theorem Duo.qm (h : Duo w wr p m q log good F man) : q ≠ m := h.ref.ne_files h.shelf.files
theorem Duo.refP {w' : World} (h : Duo w wr p m q log good F man) (ht : Touch wr w' [p]) : S5At w' q log good F man := h.ref.touch ht (by simpa using h.qp) (by intro k hk; rw [List.mem_singleton.1 hk]; exact h.shelf.otherP)
theorem Duo.refM {w' : World} (h : Duo w wr p m q log good F man) (ht : Touch wr w' [m]) : S5At w' q log good F man := h.ref.touch ht (by simpa using h.qm) (by intro k hk; rw [List.mem_singleton.1 hk]; exact h.shelf.otherM)
/-- What a call leaves. -/
structure DoAny (w wr : World) (p m q : Nat) (w' : World) : Prop where
  duo : ∃ (m' : Nat) (log : ByteArray) (good : Nat) (F : Fl) (man : ByteArray), Duo w w' p m' q log good F man ∧ (m' = m ∨ wr.heap.size ≤ m')
  touch : Touch wr w' [p, m, q]
/-- As a call goes: first the shelf's (T1), then the reference's. -/
theorem DoAny.of {w1 w2 w3 : World} {log' : ByteArray} {good' : Nat} {F' : Fl} {man' : ByteArray} {m' : Nat} (h : Duo w wr p m q log good F man) (hE : Ext wr w1) {L : List Nat} (ht : Touch w1 w2 L) (hL : ∀ k ∈ L, k = p ∨ k = m) (hs : ShelfAt w2 p m' log' good' F' man') (hm' : m' = m ∨ wr.heap.size ≤ m') (ht2 : Touch w2 w3 [q]) (hr : S5At w3 q log' good' F' man') (hlen : Small5 F') : DoAny w wr p m q w3 := by
  have hqp : q ≠ p := (hr.ext (Ext.refl w3)).ne_box (k := p) (by
    have hb := hs.box
    exact ht2.box hb (by
      intro hx
      obtain rfl := List.mem_singleton.1 hx
      obtain ⟨v, hq0, _⟩ := h.ref.box
      exact h.qp rfl)) (by decide)
  have T : Touch wr w3 [p, m, q] := ((Touch.of_ext hE [p]).trans (ht.trans ht2)).mono (by
    intro k hk _
    simp only [List.mem_append, List.mem_singleton] at hk
    rcases hk with rfl | hk | rfl
    · simp
    · rcases hL k hk with rfl | rfl <;> simp
    · simp)
  have hqm : q ≠ m' := by
    rcases hm' with rfl | hm'
    · exact h.qm
    · obtain ⟨v, hq0, _⟩ := h.ref.box
      have := hq0.lt
      omega
  refine ⟨⟨m', log', good', F', man', ⟨hs.touch ht2 (by simpa using hqp.symm) (by simpa using hqm.symm), hr, T.ext h.ext (by
    intro k hk
    simp only [List.mem_cons, List.not_mem_nil, or_false] at hk
    rcases hk with rfl | rfl | rfl
    · exact h.hp
    · exact h.hm
    · exact h.hq), h.hp, ?_, h.hq, hlen⟩, hm'⟩, T⟩
  rcases hm' with rfl | hm'
  · exact h.hm
  · have := h.ext.le; omega
end
end Go.Proofs.Ytmjhdfifbjdgpaa

/- A copy of the two that goes its own way. -/
namespace Go.Proofs.Ytmjhdfifbjdgpaa
open Go Go.RowKit

/-- None, or a copy, apart from the two. -/
def Twin (w wr : World) (p m q : Nat) (t x : Value) : Prop :=
  (t = .pointer none ∧ x = .pointer none) ∨ ∃ (p' m' q' : Nat) (log : ByteArray) (good : Nat) (F : Fl) (man : ByteArray), t = .pointer (some ⟨p', 0, none⟩) ∧ x = .pointer (some ⟨q', 0, none⟩) ∧ Duo w wr p' m' q' log good F man ∧ p' ≠ p ∧ m' ≠ m ∧ q' ≠ q
theorem files_ne_box {w : World} {k j : Nat} {F : Fl} {cs : Array Value} {T : TypeId} (h : FilesAt w k F) (hb : BoxAt w j cs T) : k ≠ j := by
  obtain ⟨⟨es, clock, hf, _⟩, _⟩ := h
  rintro rfl
  unfold BoxAt at hb
  rw [hf] at hb
  cases hb
theorem Twin.grow {w wr w' : World} {p m q : Nat} {t x : Value} (h : Twin w wr p m q t x) (hE : Ext wr w') : Twin w w' p m q t x := by
  rcases h with h | ⟨p', m', q', log, good, F, man, h1, h2, h3, h4⟩
  · exact .inl h
  · exact .inr ⟨p', m', q', log, good, F, man, h1, h2, h3.grow hE, h4⟩
theorem Twin.done {w wr w' : World} {p m q m2 : Nat} {t x : Value} {log : ByteArray} {good : Nat} {F : Fl} {man : ByteArray} (hd : Duo w wr p m q log good F man) (h : Twin w wr p m q t x) (ht : Touch wr w' [p, m, q]) (hm : m2 = m ∨ wr.heap.size ≤ m2) (hext : Ext w w') : Twin w w' p m2 q t x := by
  rcases h with h | ⟨p', m', q', log', good', F', man', h1, h2, h3, n1, n2, n3⟩
  · exact .inl h
  · refine .inr ⟨p', m', q', log', good', F', man', h1, h2, ⟨h3.shelf.touch ht ?_ ?_, h3.ref.touch ht ?_ ?_, hext, h3.hp, h3.hm, h3.hq, h3.len⟩, n1, ?_, n3⟩
    · simp only [List.mem_cons, List.not_mem_nil, or_false, not_or]
      exact ⟨n1, fun e => files_ne_box hd.shelf.files h3.shelf.box e.symm, fun e => hd.ref.ne_box h3.shelf.box (by decide) e.symm⟩
    · simp only [List.mem_cons, List.not_mem_nil, or_false, not_or]
      exact ⟨files_ne_box h3.shelf.files hd.shelf.box, n2, fun e => hd.ref.ne_files h3.shelf.files e.symm⟩
    · simp only [List.mem_cons, List.not_mem_nil, or_false, not_or]
      exact ⟨h3.ref.ne_box hd.shelf.box (by decide), h3.ref.ne_files hd.shelf.files, n3⟩
    · intro k hk
      simp only [List.mem_cons, List.not_mem_nil, or_false] at hk
      rcases hk with rfl | rfl | rfl
      · exact hd.shelf.otherP
      · exact hd.shelf.otherM
      · exact hd.ref.other
    · rcases hm with rfl | hm
      · exact n2
      · have := h3.shelf.files.lt; omega
end Go.Proofs.Ytmjhdfifbjdgpaa
