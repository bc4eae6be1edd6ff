/- Package shelf: calls that go well, as the laws want them; law05.awake. -/
import Derived.Test.YthhhbmeceilkhaaQ3
import Derived.Test.YthhhbmeceilkhaaQ1
import Derived.Test.YthhhbmeceilkhaaProg
set_option linter.unusedSimpArgs false
set_option linter.unusedVariables false
namespace Go.Proofs.Ythhhbmeceilkhaa
open Go Go.RowKit
attribute [local go_sem] yields yUpon

section
variable {W w : World} {p m : Nat} {log : ByteArray} {good : Nat} {F : Fl} {man : ByteArray}
/-- A shelf of the call's own: made behind the world W. -/
structure Own5 (W w : World) (p m : Nat) (log : ByteArray) (good : Nat) (F : Fl) (man : ByteArray) : Prop where
  at_ : ShelfAt w p m log good F man
  ext : Ext W w
  hp : W.heap.size ≤ p
  hm : W.heap.size ≤ m
theorem Own5.step {w' : World} {p' m' : Nat} {log' : ByteArray} {good' : Nat} {F' : Fl} {man' : ByteArray} (h : Own5 W w p m log good F man) {L : List Nat} (ht : Touch w w' L) (hL : ∀ k ∈ L, W.heap.size ≤ k)
    (hs : ShelfAt w' p' m' log' good' F' man') (hp : W.heap.size ≤ p') (hm : W.heap.size ≤ m') : Own5 W w' p' m' log' good' F' man' := ⟨hs, ht.ext h.ext hL, hp, hm⟩
theorem Own5.more {w' : World} (h : Own5 W w p m log good F man) (hE : Ext w w') : Own5 W w' p m log good F man := ⟨h.at_.ext hE, h.ext.trans hE, h.hp, h.hm⟩
theorem ow_new (w : World) : Calls Try.prog 10 #[] w fun e w' => e = .returned (.pointer (some ⟨w.heap.size + 1, 0, none⟩)) ∧ Own5 w w' (w.heap.size + 1) w.heap.size ⟨#[]⟩ 0 [] ⟨#[]⟩ :=
  (sh_new w).mono fun e w' ⟨he, hw⟩ => by
    subst hw
    exact ⟨he, sh_made w, ((Ext.refl w).alloc _).alloc _, by omega, Nat.le_refl _⟩
theorem ow_append (b log' : ByteArray) (hb : log.size + b.size ≤ 262144) (hl : log ++ b = log') (h : Own5 W w p m log good F man) :
    Calls Try.prog 12 #[.pointer (some ⟨p, 0, none⟩), .string b] w fun e w' => e = .returned (.int .i64 0) ∧ Own5 W w' p m log' good F man :=
  (sh_append b (by unfold maxLen; omega) w h.at_).mono fun e w' ⟨⟨he, ht⟩, hs⟩ => by
    rw [if_pos hb] at he hs
    subst hl
    exact ⟨he, h.step ht (by simpa using h.hp) hs h.hp h.hm⟩
theorem ow_append_no (b : ByteArray) (hb : 262144 < log.size + b.size) (hm : b.size ≤ maxLen) (h : Own5 W w p m log good F man) :
    Calls Try.prog 12 #[.pointer (some ⟨p, 0, none⟩), .string b] w fun e w' => e = .returned (.int .i64 2) ∧ Own5 W w' p m log good F man :=
  (sh_append b hm w h.at_).mono fun e w' ⟨⟨he, ht⟩, hs⟩ => by
    rw [if_neg (by omega)] at he hs
    exact ⟨he, h.step ht (by simpa using h.hp) hs h.hp h.hm⟩
theorem ow_sync (h : Own5 W w p m log good F man) : Calls Try.prog 16 #[.pointer (some ⟨p, 0, none⟩)] w fun e w' => e = .returned (.tuple #[]) ∧ Own5 W w' p m log log.size F man :=
  (sh_sync w h.at_).mono fun e w' ⟨⟨he, ht⟩, hs⟩ => ⟨he, h.step ht (by simpa using h.hp) hs h.hp h.hm⟩
theorem ow_log (h : Own5 W w p m log good F man) : Calls Try.prog 19 #[.pointer (some ⟨p, 0, none⟩)] w fun e w' => e = .returned (.string log) ∧ w = w' := sh_log w h.at_
theorem ow_man (h : Own5 W w p m log good F man) : Calls Try.prog 22 #[.pointer (some ⟨p, 0, none⟩)] w fun e w' => e = .returned (.string man) ∧ w = w' := sh_man w h.at_
theorem ow_unsynced (n : Int) (hn : n = (log.size : Int) - good) (h : Own5 W w p m log good F man) : Calls Try.prog 17 #[.pointer (some ⟨p, 0, none⟩)] w fun e w' => e = .returned (.int .i64 n) ∧ Ext w w' ∧ Own5 W w' p m log good F man :=
  (sh_unsynced w h.at_).mono fun e w' ⟨he, k, hw⟩ => by
    subst hn; subst hw
    have : Ext w (w.drewN k) := (Ext.refl w).drewN k
    exact ⟨he, this, h.more this⟩
theorem ow_crash (n : Int) (h0 : -9223372036854775808 ≤ n) (h1 : n ≤ 9223372036854775807) (log' : ByteArray) (good' : Nat) (hg : crashN n good log.size = good') (hl : log.extract 0 good' = log') (h : Own5 W w p m log good F man) :
    Calls Try.prog 18 #[.pointer (some ⟨p, 0, none⟩), .int .i64 n] w fun e w' => e = .returned (.tuple #[]) ∧ Own5 W w' p m log' good' F man :=
  (sh_crash n h0 h1 w h.at_).mono fun e w' ⟨⟨he, ht⟩, hs⟩ => by
    subst hg; subst hl
    exact ⟨he, h.step ht (by simpa using h.hp) hs h.hp h.hm⟩
theorem ow_turn (b : ByteArray) (hb : b.size ≤ 262144) (h : Own5 W w p m log good F man) :
    Calls Try.prog 21 #[.pointer (some ⟨p, 0, none⟩), .string b] w fun e w' => e = .returned (.int .i64 0) ∧ Own5 W w' p m ⟨#[]⟩ 0 F b ∧ Touch w w' [p] :=
  (sh_turn b (by unfold maxLen; omega) w h.at_).mono fun e w' ⟨⟨he, ht⟩, hs⟩ => by
    rw [if_pos hb] at he hs
    exact ⟨he, h.step ht (by simpa using h.hp) hs h.hp h.hm, ht⟩
theorem ow_turn_no (b : ByteArray) (hb : 262144 < b.size) (hm : b.size ≤ maxLen) (h : Own5 W w p m log good F man) :
    Calls Try.prog 21 #[.pointer (some ⟨p, 0, none⟩), .string b] w fun e w' => e = .returned (.int .i64 2) ∧ Own5 W w' p m log good F man :=
  (sh_turn b hm w h.at_).mono fun e w' ⟨⟨he, ht⟩, hs⟩ => by
    rw [if_neg (by omega)] at he hs
    subst hs
    exact ⟨he, h⟩
theorem ow_put (n : Int) (h0 : -9223372036854775808 ≤ n) (h1 : n ≤ 9223372036854775807) (b : ByteArray) (hb : b.size ≤ maxLen) (hF : F.length ≤ 40) (k : Int) (F' : Fl) (hk : putE n b F = k) (hF' : (if k = 0 then fput n b.data.toList F else F) = F') (h : Own5 W w p m log good F man) :
    Calls Try.prog 13 #[.pointer (some ⟨p, 0, none⟩), .int .i64 n, .string b] w fun e w' => e = .returned (.int .i64 k) ∧ Own5 W w' p m log good F' man :=
  (sh_put n h0 h1 b hb hF w h.at_).mono fun e w' ⟨⟨he, ht⟩, hs⟩ => by
    subst hk; subst hF'
    exact ⟨he, h.step ht (by simpa using h.hm) hs h.hp h.hm⟩
theorem ow_get (n : Int) (h0 : -9223372036854775808 ≤ n) (h1 : n ≤ 9223372036854775807) (b : ByteArray) (k : Int) (hb : str (fget n F) = b) (hk : (if fhas n F then 0 else 9) = k) (h : Own5 W w p m log good F man) :
    Calls Try.prog 20 #[.pointer (some ⟨p, 0, none⟩), .int .i64 n] w fun e w' => e = .returned (.tuple #[.string b, .int .i64 k]) ∧ w = w' := by
  subst hb; subst hk
  exact sh_get n h0 h1 w h.at_
theorem ow_drop (n : Int) (h0 : -9223372036854775808 ≤ n) (h1 : n ≤ 9223372036854775807) (t : Bool) (F' : Fl) (ht : fhas n F = t) (hF' : fdel n F = F') (h : Own5 W w p m log good F man) :
    Calls Try.prog 28 #[.pointer (some ⟨p, 0, none⟩), .int .i64 n] w fun e w' => e = .returned (.bool t) ∧ Own5 W w' p m log good F' man ∧ Touch w w' [m] :=
  (sh_drop n h0 h1 w h.at_).mono fun e w' ⟨⟨he, hT⟩, hs⟩ => by
    subst ht; subst hF'
    exact ⟨he, h.step hT (by simpa using h.hm) hs h.hp h.hm, hT⟩
theorem ow_nums (l : List Int) (hl : keysF F = l) (hF : F.length ≤ 40) (h : Own5 W w p m log good F man) :
    Calls Try.prog 14 #[.pointer (some ⟨p, 0, none⟩)] w fun e w' => ∃ a c, e = .returned (.slice a l.length c) ∧ IntsIn w' (.slice a l.length c) .i64 l ∧ Ext w w' ∧ Own5 W w' p m log good F man :=
  (sh_nums (by omega) w h.at_).mono fun e w' ⟨v, ⟨he, hv⟩, hE⟩ => by
    subst hl
    obtain ⟨a, c, rfl, h1, h2, h3, h4⟩ := hv
    exact ⟨a, c, he, ⟨a, c, rfl, h1, h2, h3, h4⟩, hE, h.more hE⟩
theorem ow_cut (n : Int) (log' : ByteArray) (good' : Nat) (hg : cutN n log.size = good') (hl : log.extract 0 good' = log') (h : Own5 W w p m log good F man) :
    Calls Try.prog 43 #[.pointer (some ⟨p, 0, none⟩), .int .i64 n] w fun e w' => e = .returned (.tuple #[]) ∧ Own5 W w' p m log' good' F man :=
  (sh_cut n w h.at_).mono fun e w' ⟨⟨he, ht⟩, hs⟩ => by
    subst hg; subst hl
    exact ⟨he, h.step ht (by simpa using h.hp) hs h.hp h.hm⟩
theorem ow_wipe (h : Own5 W w p m log good F man) :
    Calls Try.prog 29 #[.pointer (some ⟨p, 0, none⟩)] w fun e w' => e = .returned (.tuple #[]) ∧ Own5 W w' p w.heap.size ⟨#[]⟩ 0 [] ⟨#[]⟩ ∧ Touch w w' [p] :=
  (sh_wipe w h.at_).mono fun e w' ⟨⟨he, ht⟩, hs⟩ => ⟨he, h.step ht (by simpa using h.hp) hs h.hp h.ext.le, ht⟩
theorem ow_copy (hF : F.length ≤ 40) (h : Own5 W w p m log good F man) :
    Calls Try.prog 26 #[.pointer (some ⟨p, 0, none⟩)] w fun e w' => e = .returned (.pointer (some ⟨w.heap.size + 1, 0, none⟩)) ∧ Own5 W w' p m log good F man ∧ Own5 W w' (w.heap.size + 1) w.heap.size log good F man :=
  (sh_copy hF w h.at_).mono fun e w' ⟨⟨he, hE⟩, hs⟩ => ⟨he, h.more hE, hs, h.ext.trans hE, by have := h.ext.le; omega, h.ext.le⟩
end

set_option maxHeartbeats 1000000 in
theorem awake5_any (w : World) : Calls Try.prog 15 #[] w fun e w' => e = .returned (.bool true) ∧ Ext w w' := by
  go_enter Try.func15, Try.ntmps15
  go_wp2_with fail
  refine (ow_new w).mono ?_
  rintro e w1 ⟨rfl, h⟩
  go_wp2_with fail
  refine (ow_append _ ⟨#[97, 98, 99]⟩ (by decide) (by rfl) h).mono ?_
  rintro e w2 ⟨rfl, h2⟩
  clear h
  go_wp2_with fail
  refine (ow_sync h2).mono ?_
  rintro e w3 ⟨rfl, h3⟩
  clear h2
  go_wp2_with fail
  refine (ow_append _ ⟨#[97, 98, 99, 100, 101]⟩ (by decide) (by rfl) h3).mono ?_
  rintro e w4 ⟨rfl, h4⟩
  clear h3
  go_wp2_with fail
  refine (ow_crash 1 (by omega) (by omega) ⟨#[97, 98, 99, 100]⟩ 4 (by decide) (by rfl) h4).mono ?_
  rintro e w5 ⟨rfl, h5⟩
  clear h4
  go_wp2_with fail
  refine (ow_log h5).mono ?_
  rintro e w6 ⟨rfl, rfl⟩
  go_wp2_with fail
  refine (ow_unsynced 0 (by decide) h5).mono ?_
  rintro e w6 ⟨rfl, hE, h6⟩
  go_wp2
  go_ret
  exact ⟨rfl, h6.ext⟩
end Go.Proofs.Ythhhbmeceilkhaa

/- Appending bytes: the laws at this program's numbers. -/
namespace Go.Proofs.Ythhhbmeceilkhaa
open Go Go.RowKit

theorem info_u8 : (Try.prog.info? 5).map (fun i => (i.zero, i.size, i.bytes)) = some (some (.int .u8 0), 1, 1) := by kernel_rfl
theorem und_bytes : Try.prog.underlying 25 = some (.slice 5) := by kernel_rfl
theorem und_u8 : Try.prog.underlying 5 = some (.int .u8) := by kernel_rfl
theorem und_string : Try.prog.underlying 9 = some .string := by kernel_rfl

/-- A row of bytes that begins new from block B on. -/
def OwnB (w : World) (B : Nat) (v : Value) (l : List UInt8) : Prop := w.ownsRow B 5 1 v l.length (bcells l)
theorem OwnB.bytes {w : World} {B : Nat} {v : Value} {l : List UInt8} (h : OwnB w B v l) : BytesIn w v l := SliceIn.of_owns h
theorem OwnB.ext {w w' : World} {B : Nat} {v : Value} {l : List UInt8} (h : OwnB w B v l) (hE : Ext w w') : OwnB w' B v l := ownsRow_ext h hE
theorem OwnB.base {w : World} {B B' : Nat} {v : Value} {l : List UInt8} (h : OwnB w B v l) (hb : B' ≤ B) : OwnB w B' v l := ownsRow_base h hb

theorem byte_of {X : Int} (h0 : 0 ≤ X) (h1 : X < 256) : ((UInt8.ofNat X.toNat).toNat : Int) = X := by
  have : X.toNat < 256 := by omega
  rw [UInt8.toNat_ofNat_of_lt' this]
  omega

/-- A slice of bytes that may be appended to: a row of the call's own, or one without spare room. -/
def Tip (w : World) (B : Nat) (v : Value) (l : List UInt8) : Prop := OwnB w B v l ∨ ∃ ao, v = .slice ao l.length l.length ∧ BytesIn w v l
theorem Tip.own {w : World} {B : Nat} {v : Value} {l : List UInt8} (h : OwnB w B v l) : Tip w B v l := .inl h
theorem Tip.full {w : World} {B : Nat} {ao : Option Addr} {l : List UInt8} (h : BytesIn w (.slice ao l.length l.length) l) : Tip w B (.slice ao l.length l.length) l := .inr ⟨_, rfl, h⟩
theorem Tip.nil (w : World) (B : Nat) : Tip w B (.slice none 0 0) [] := .inl (World.ownsRow_nil w B _ _)
theorem Tip.ext {w w' : World} {B : Nat} {v : Value} {l : List UInt8} (h : Tip w B v l) (hE : Ext w w') : Tip w' B v l :=
  h.imp (fun h => h.ext hE) fun ⟨ao, e, h⟩ => ⟨ao, e, h.ext hE⟩
theorem Tip.bytes {w : World} {B : Nat} {v : Value} {l : List UInt8} (h : Tip w B v l) : BytesIn w v l := h.elim OwnB.bytes fun ⟨_, _, h⟩ => h

theorem cs1 {X : Int} (h0 : 0 ≤ X) (h1 : X < 256) : (#[Value.int .u8 X] : Array Value).toList = bcells [UInt8.ofNat X.toNat] := by
  simp only [bcells, List.map_cons, List.map_nil, byte_of h0 h1]
theorem csb (b : UInt8) : (#[Value.int .u8 (b.toNat : Int)] : Array Value).toList = bcells [b] := rfl

/-- 'append(b, x, ..)' of bytes: the world at hand is w with the new bytes laid. -/
theorem appB {ops : Array Oper} {rest : List Oper} {o : Oper} {a : Act} {Q : Exit → Act → World → Prop} (w : World) (hg : o.guard = none) (s x : Operand)
    (hop : o.op = Op.call { callee := Callee.builtin Builtin.append, args := #[s, x], argTypes := #[25, 25] })
    (w0 : World) (hE : Ext w0 w) (v : Value) (l : List UInt8) (cs : Array Value) (news : List UInt8) (hcs : cs.toList = bcells news) (hm : 0 < news.length) (hs : a.eval s = v) (hT : Tip w w0.heap.size v l)
    (m : Nat) (hx : a.eval x = .slice (some ⟨w.heap.size, 0, none⟩) m m) (hmn : m = news.length) (hb : l.length + news.length ≤ 140737488355328)
    (hK : ∀ v' w', OwnB w' w0.heap.size v' (l ++ news) → Ext w0 w' → wpList Try.prog ops Q rest (a.put o.dst v') w') : wpList Try.prog ops Q (o :: rest) a (w.alloc (.cells cs 5)) := by
  subst hmn
  obtain ⟨i0, hi, hz0, hz1, hz2⟩ := info_parts info_u8
  have hT := hT.ext ((Ext.refl w).alloc (.cells cs 5))
  have hn : (bcells news).length = news.length * 1 := by simp
  have hc : ∀ j u, (bcells news)[j]? = some u → (w.alloc (.cells cs 5)).cell? ((⟨w.heap.size, 0, none⟩ : Addr).add j) = some u := by
    intro j u hj
    rw [Addr.add_lit, Nat.zero_add, cell_of_row _ w.heap.size j cs 5 (0, 0) (heap_alloc_new w _)]
    rw [← hcs] at hj
    simpa using hj
  have h1c : ∀ u ∈ bcells news, u.oneCell' = true := by
    intro u hu
    simp only [bcells, List.mem_map] at hu
    obtain ⟨b, _, rfl⟩ := hu
    rfl
  rcases hT with hown | ⟨ao, rfl, hin⟩
  · refine wpList_append_own _ hg s x 25 hop w0.heap.size 5 i0 (.int .u8 0) 1 1 und_bytes hi hz0 hz1 hz2 rfl (by decide) v l.length (bcells l) hs hown ⟨w.heap.size, 0, none⟩ news.length news.length (bcells news) hx hn hc h1c (by unfold maxLen; omega) (by omega) (by have := hE.le; simp; omega) ?_
    intro v' w' h2 h3 _
    refine hK v' w' ?_ (Ext.grownOwn (hE.alloc _) hown (Nat.le_refl _) h3)
    unfold OwnB
    rw [List.length_append, bcells_append]
    exact h2
  · refine wpList_append_fresh _ hg s x 25 hop 5 i0 (.int .u8 0) 1 1 und_bytes hi hz0 hz1 hz2 rfl (by decide) ao l.length (bcells l) hs hin (by simp) ⟨w.heap.size, 0, none⟩ news.length news.length (bcells news) hx hn hc h1c hm (by unfold maxLen; omega) (by omega) ?_
    intro v' w' h2 h3
    refine hK v' w' ?_ ((hE.alloc _).grown h3 (by intro k hk; cases hk))
    unfold OwnB
    rw [List.length_append, bcells_append]
    exact ownsRow_base h2 (by have := hE.le; simp; omega)
end Go.Proofs.Ythhhbmeceilkhaa

/- A text of so many noughts: make, convert. -/
namespace Go.Proofs.Ythhhbmeceilkhaa
open Go Go.RowKit

theorem info_b8z : Try.prog.info? 5 = some (Try.prog.info? 5).get! ∧ (Try.prog.info? 5).get!.zero = some (.int .u8 0) ∧ (Try.prog.info? 5).get!.size = 1 ∧ (Try.prog.info? 5).get!.bytes = 1 := ⟨by kernel_rfl, by kernel_rfl, by kernel_rfl, by kernel_rfl⟩
theorem made_zeros (N : Nat) : (madeCells (Value.int .u8 0).cells (N * 1)).toList = bcells (List.replicate N 0) := by
  apply List.ext_getElem?
  intro j
  simp only [madeCells, Nat.mul_one, bcells]
  by_cases hj : j < N
  · simp [hj, Value.cells, Nat.mod_one]
  · rw [List.getElem?_eq_none (by simp; omega), List.getElem?_eq_none (by simp; omega)]
/-- 'make([]byte, N)'. -/
theorem run_zeros (w : World) (N : Nat) (hN : N ≤ 16777216) : ∃ w', (Instr.makeSlice 25 (.int .i64 (N : Int)) (.int .i64 (N : Int))).run Try.prog w = .ok (.slice (some ⟨w.heap.size, 0, none⟩) N N) w' ∧
    w'.ownsRow w.heap.size 5 1 (.slice (some ⟨w.heap.size, 0, none⟩) N N) N (bcells (List.replicate N 0)) ∧ w.grownBy w' none := by
  obtain ⟨w4, he, hown, hg⟩ := run_makeSlice_full w w.heap.size 25 5 _ _ 1 und_bytes info_b8z.1 info_b8z.2.1 info_b8z.2.2.1 .i64 .i64 N (by omega) (by rw [info_b8z.2.2.2]; omega) (by unfold maxLen; omega) (Nat.le_refl _)
  rw [made_zeros] at hown
  exact ⟨w4, he, hown, hg⟩
/-- The same, and the text that it is: facts for the walk. -/
theorem run_zero_text (w : World) (N : Nat) (hN : N ≤ 16777216) : ∃ w', (Instr.makeSlice 25 (.int .i64 (N : Int)) (.int .i64 (N : Int))).run Try.prog w = .ok (.slice (some ⟨w.heap.size, 0, none⟩) N N) w' ∧
    (convert 25 9 (.slice (some ⟨w.heap.size, 0, none⟩) N N)).run Try.prog w' = .ok (.string (str (List.replicate N 0))) w' ∧ Ext w w' := by
  obtain ⟨w4, he, hown, hg⟩ := run_zeros w N hN
  refine ⟨w4, he, ?_, (Ext.refl w).grown hg nofun⟩
  refine run_convert_bytesIn _ 25 9 5 und_bytes und_u8 und_string ?_
  have := SliceIn.of_owns hown
  unfold BytesIn
  rw [List.length_replicate]
  exact this
end Go.Proofs.Ythhhbmeceilkhaa
