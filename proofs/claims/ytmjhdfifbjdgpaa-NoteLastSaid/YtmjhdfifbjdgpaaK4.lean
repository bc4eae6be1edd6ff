/- Notes in a slice in memory. -/
import Derived.Test.YtmjhdfifbjdgpaaK1
import Derived.Test.YtmjhdfifbjdgpaaK2
import Derived.Test.YtmjhdfifbjdgpaaK3
set_option linter.unusedSimpArgs false
set_option linter.unusedVariables false
namespace Go.Proofs.Ytmjhdfifbjdgpaa
open Go Go.RowKit

theorem info_note : (Try.prog.info? 30).map (fun i => (i.zero, i.size, i.bytes)) = some (some (.agg #[.int .i64 0, .string ⟨#[]⟩]), 2, 24) := by kernel_rfl
theorem und_notes : Try.prog.underlying 31 = some (.slice 30) := by kernel_rfl
def ncells (F : Fl) : List Value := F.flatMap fun q => [.int .i64 q.1, .string (str q.2)]
theorem ncells_snoc (F : Fl) (q : Int × List UInt8) : ncells (F ++ [q]) = ncells F ++ [.int .i64 q.1, .string (str q.2)] := by simp [ncells]
def NotesIn (w : World) (v : Value) (F : Fl) : Prop := SliceIn w v F.length (ncells F)
theorem ncells_get : ∀ {F : Fl} {k : Nat} (hk : k < F.length), (ncells F)[k * 2]? = some (.int .i64 (F[k]).1) ∧ (ncells F)[k * 2 + 1]? = some (.string (str (F[k]).2))
  | [], k, hk => by simp at hk
  | q :: F, 0, _ => by simp [ncells]
  | q :: F, k + 1, hk => by
    have h := ncells_get (F := F) (k := k) (by simpa using hk)
    have e : ncells (q :: F) = .int .i64 q.1 :: .string (str q.2) :: ncells F := by simp [ncells]
    rw [e, show (k + 1) * 2 = k * 2 + 1 + 1 by omega]
    simpa using h
theorem ncells_length (F : Fl) : (ncells F).length = F.length * 2 := by
  induction F with
  | nil => rfl
  | cons q F ih => simp [ncells] at ih ⊢; omega
theorem ncells_append (F G : Fl) : ncells (F ++ G) = ncells F ++ ncells G := by simp [ncells]
theorem ncells_one (F : Fl) : ∀ u ∈ ncells F, u.oneCell' = true := by
  intro u hu
  simp only [ncells, List.mem_flatMap, List.mem_cons, List.not_mem_nil, or_false] at hu
  obtain ⟨q, _, rfl | rfl⟩ := hu <;> rfl
theorem NotesIn.ext {w w' : World} (hE : Ext w w') {v : Value} {F : Fl} (h : NotesIn w v F) : NotesIn w' v F := SliceIn.ext hE h
theorem NotesIn.get {w : World} {v : Value} {F : Fl} (h : NotesIn w v F) : ∃ a c, v = .slice a F.length c ∧ F.length ≤ c ∧ c ≤ 9223372036854775807 ∧ ∀ k (hk : k < F.length), ∃ b o, a = some ⟨b, o, none⟩ ∧ w.cell? ⟨b, o + k * 2, none⟩ = some (.int .i64 (F[k]).1) ∧ w.cell? ⟨b, o + k * 2 + 1, none⟩ = some (.string (str (F[k]).2)) := by
  obtain ⟨a, c, rfl, hc, hcm, ha, hcell⟩ := h
  unfold maxLen at hcm
  refine ⟨a, c, rfl, hc, by omega, fun k hk => ?_⟩
  obtain ⟨h1, h2⟩ := ncells_get hk
  obtain ⟨b, o, rfl, hx⟩ := hcell _ _ h1
  obtain ⟨b', o', e, hy⟩ := hcell _ _ h2
  cases e
  exact ⟨b, o, rfl, hx, by rw [Nat.add_assoc]; exact hy⟩
end Go.Proofs.Ytmjhdfifbjdgpaa

/- Package note: All. -/
namespace Go.Proofs.Ytmjhdfifbjdgpaa
open Go Go.RowKit
attribute [local go_sem] yields yUpon

theorem fget_nth : ∀ {F : Fl} (_ : Rises F) {k : Nat} (hk : k < F.length), fget (F[k]).1 F = (F[k]).2
  | [], _, k, hk => by simp at hk
  | q :: F, h, 0, _ => by simp [fget]
  | q :: F, h, k + 1, hk => by
    have h1 := h.head (F[k]'(by simpa using hk)) (List.getElem_mem _)
    have h2 := fget_nth h.tail (k := k) (by simpa using hk)
    have h3 : (q.1 == (F[k]'(by simpa using hk)).1) = false := by simp; omega
    simp only [List.getElem_cons_succ]
    unfold fget at h2 ⊢
    rw [List.find?_cons, h3]
    exact h2

theorem files_look0 {w : World} {m : Nat} {F : Fl} (h : FilesAt w m F) {n : Int} (h0 : -9223372036854775808 ≤ n) (h1 : n ≤ 9223372036854775807) :
    (Instr.lookup 99 (.map (some m)) (.int .i64 n) false).run Try.prog w = .ok (.string (str (fget n F))) w ∧ (fget n F).length ≤ maxLen := by
  obtain ⟨v, ps, hr, hv⟩ := h.1.lookup keyed0 und_mapis (zero_str w) (elem_str (s := ⟨#[]⟩) (by simp [ByteArray.size])) (Maps.keyOf_int_mk und_int0 (wf_in h0 h1))
  have e : DataW.atKey (fD F : DataW Nat) (.int .i64 n) (.lit (.string (#[] : Array UInt8).toList)) = .lit (.string (fget n F)) := fD_at F n
  rw [e] at hv
  obtain ⟨s, rfl, hz, hs⟩ := plainElem_string_inv und_str0 hv
  have e2 : s.data.toList = fget n F := by
    simp only [Prod.mk.injEq, DataW.lit.injEq, Lit.string.injEq] at hz
    exact hz.1.symm
  obtain rfl := str_eq e2
  exact ⟨hr, by simpa using hs⟩

section
variable {p m : Nat} {F : Fl}
set_option maxHeartbeats 4000000 in
theorem nt_all (w : World) (h : NoteAt w p m F) (hF : F.length ≤ 1000000) (hK : ∀ q ∈ F, -9223372036854775808 ≤ q.1 ∧ q.1 ≤ 9223372036854775807) :
    Calls Try.prog 12 #[.pointer (some ⟨p, 0, none⟩)] w fun e w' => ∃ v, (e = .returned v ∧ Ext w w') ∧ NotesIn w' v F := by
  have c0 := h.c0
  have hr := h.files.2
  have hfl := h.files
  go_enter Try.func12, Try.ntmps12
  go_wp2_with (first
    | (go_at_call 47; go_must (refine (nk_keys (some m) w).mono ?_); rintro e w1 ⟨rfl, rfl⟩)
    | (go_at_call 46; go_must (refine (nk_sorted hF w hfl).mono ?_); rintro e w2 ⟨v2, ⟨rfl, hE2⟩, ho2⟩; obtain ⟨a2, c2, rfl, hc2, hcm2, _, hcell2⟩ := SliceIn.of_owns ho2; unfold maxLen at hcm2))
  have HC := Lib.hid hcell2
  have hkl : (keysF F).length = F.length := by simp [keysF]
  have hE02 := ((Ext.refl w).alloc (.cells #[.map (some m)] 99)).trans hE2
  have hn2 := h.ext hE02
  have HK := Lib.hid hK
  have HR := Lib.hid hr
  clear hcell2 ho2 hK hr hfl c0 hkl
  obtain ⟨n, hn⟩ : ∃ n, n = F.length := ⟨_, rfl⟩
  have HN := Lib.hid hn
  rw [← hn] at hc2 hF ⊢
  clear hn
  go_loopw [3, 13] (fun vl i wr => ∃ k : Nat, k ≤ n ∧ i = .int .i64 (k : Int) ∧ wr.ownsRow w2.heap.size 30 2 vl k (ncells (F.take k)) ∧ Ext w2 wr) (fun _ i _ => n - (intOf i).toNat)
  case atStart => exact ⟨0, Nat.zero_le _, rfl, World.ownsRow_nil _ _ _ _, Ext.refl w2⟩
  case round =>
    obtain ⟨k, hk, rfl, hown, hE⟩ := hrel
    by_cases hlt : k < n
    · have hkF : k < F.length := by rw [← HN.out]; exact hlt
      obtain ⟨b, o, rfl, hck⟩ := HC.out k (.int .i64 (F[k]).1) (by rw [kcells_get]; simp [keysF, hkF])
      replace hck := hE.cell hck
      have hb := HK.out _ (List.getElem_mem hkF)
      have hn3 := hn2.ext hE
      have hlk := (files_look0 hn3.files hb.1 hb.2).1
      rw [fget_nth HR.out hkF] at hlk
      have c0 := hn3.c0
      have HT : Hid (ncells (F.take (k + 1)) = ncells (F.take k) ++ [.int .i64 (F[k]).1, .string (str (F[k]).2)]) := Lib.hid (by rw [List.take_succ_eq_append_getElem hkF, ncells_snoc])
      obtain ⟨key, hkey⟩ : ∃ key, key = (F[k]).1 := ⟨_, rfl⟩
      obtain ⟨bd, hbd⟩ : ∃ bd, bd = str (F[k]).2 := ⟨_, rfl⟩
      rw [← hkey] at hck hlk HT
      rw [← hbd] at hlk HT
      clear hkey hbd hb
      go_wp2_with (at_builtin; go_must (refine appR info_note und_notes rfl (by decide) wr rfl (.tmp 17) (.tmp 26) rfl w2.heap.size hE.le _ k (ncells (F.take k)) hown (by rfl) 1 _ (by rfl) (by rfl) (by simp [Value.oneCell']) (by unfold maxLen; omega) (by omega) ?_); intro v8 w8 ho8 hg8)
      have hE8 := (hE.alloc (.cells #[.int .i64 key, .string bd] 30)).grown hg8 (fun q hq => (hown.lt q hq).1)
      go_roundw
      case rel => exact ⟨k + 1, by omega, by go_num, by rw [HT.out]; exact ho8, hE8⟩
      case measure => simp [intOf]; omega
    · obtain rfl : k = n := by omega
      go_wp2
      go_ret
      refine ⟨_, ⟨rfl, hE02.trans hE⟩, ?_⟩
      have h1 := SliceIn.of_owns hown
      rw [HN.out, List.take_length] at h1
      exact h1
end
end Go.Proofs.Ytmjhdfifbjdgpaa

/- Package note: clerestorylaw11.awake. -/
namespace Go.Proofs.Ytmjhdfifbjdgpaa
open Go Go.RowKit
attribute [local go_sem] yields yUpon

set_option maxHeartbeats 4000000 in
theorem awake11_any (w : World) : Calls Try.prog 14 #[] w fun e w' => e = .returned (.bool true) ∧ Ext w w' := by
  go_enter Try.func14, Try.ntmps14
  go_wp2_with (first
    | (go_at_call 8; go_must (refine (nt_new w).mono ?_); rintro e w1 ⟨rfl, hw1⟩; have hn := nt_made w; rw [← hw1] at hn; have hE1 : Ext w w1 := (by rw [hw1]; exact ((Ext.refl w).alloc _).alloc _); clear hw1)
    | (go_at_call 11; go_must (refine (nt_add 1 (by decide) (by decide) ⟨#[120]⟩ (by decide) (by decide) w1 hn).mono ?_); rintro e w2 ⟨⟨rfl, ht2⟩, hn2⟩; rw [show addB 1 (⟨#[120]⟩ : ByteArray).size [] = true from by decide] at hn2 ⊢; simp only [if_true] at hn2)
    | (go_at_call 13; go_must (refine (nt_get 1 (by decide) (by decide) w2 hn2).mono ?_); rintro e w3 ⟨rfl, rfl⟩; rw [show fget 1 (fput 1 (⟨#[120]⟩ : ByteArray).data.toList []) = [120] from by decide, show fhas 1 (fput 1 (⟨#[120]⟩ : ByteArray).data.toList []) = true from by decide]))
  refine (nt_drop 1 (by decide) (by decide) w2 hn2).mono ?_
  rintro e w4 ⟨⟨rfl, ht4⟩, hn4⟩
  rw [show fhas 1 (fput 1 (⟨#[120]⟩ : ByteArray).data.toList []) = true from by decide]
  go_wp2_with fail
  refine (nt_drop 1 (by decide) (by decide) w4 hn4).mono ?_
  rintro e w5 ⟨⟨rfl, ht5⟩, hn5⟩
  rw [show fhas 1 (fdel 1 (fput 1 (⟨#[120]⟩ : ByteArray).data.toList [])) = false from by decide]
  go_wp2
  go_ret
  exact ⟨rfl, (((ht2.trans ht4).trans ht5).mono (M := [w.heap.size]) (by simp)).ext hE1 (by simp)⟩
end Go.Proofs.Ytmjhdfifbjdgpaa

/- Plain law for NoteLast: a table of texts by numbers below 20 and notes that agree. -/
namespace Go.Proofs.Ytmjhdfifbjdgpaa
open Go Go.RowKit

structure Agr (tb : Nat → List UInt8) (F : Fl) : Prop where
  rises : Rises F
  has : ∀ k : Nat, 1 ≤ k → k < 20 → fhas (k : Int) F = !(tb k).isEmpty
  get : ∀ k : Nat, 1 ≤ k → k < 20 → fget (k : Int) F = tb k
  keys : ∀ q ∈ F, 1 ≤ q.1 ∧ q.1 < 20
theorem rises_len : ∀ {F : Fl} {a b : Int}, Rises F → (∀ q ∈ F, a ≤ q.1 ∧ q.1 < b) → (F.length : Int) ≤ max 0 (b - a)
  | [], a, b, _, _ => by simp; omega
  | q :: F, a, b, h, hk => by
    have h1 := hk q (List.mem_cons_self ..)
    have h2 := rises_len (F := F) (a := a + 1) (b := b) h.tail fun r hr => by
      have g1 := h.head r hr
      have g2 := hk r (List.mem_cons_of_mem _ hr)
      omega
    simp only [List.length_cons]
    omega
theorem Agr.len {tb : Nat → List UInt8} {F : Fl} (h : Agr tb F) : F.length ≤ 19 := by
  have := rises_len h.rises h.keys
  omega
theorem Agr.new : Agr (fun _ => []) [] := ⟨List.Pairwise.nil, fun k _ _ => rfl, fun k _ _ => rfl, by simp⟩
def upd (tb : Nat → List UInt8) (id : Nat) (b : List UInt8) : Nat → List UInt8 := fun k => if k = id then b else tb k
theorem Agr.put {tb : Nat → List UInt8} {F : Fl} (h : Agr tb F) {id : Nat} (h1 : 1 ≤ id) (h2 : id < 20) {b : List UInt8} (hb : b ≠ []) : Agr (upd tb id b) (fput (id : Int) b F) := by
  refine ⟨fput_rises h.rises, fun k k1 k2 => ?_, fun k k1 k2 => ?_, fun q hq => ?_⟩
  · rw [fhas_put, h.has k k1 k2]
    unfold upd
    by_cases e : k = id
    · subst e; cases b <;> simp_all
    · rw [if_neg e]
      have : ((id : Int) == (k : Int)) = false := by rw [beq_eq_false_iff_ne]; omega
      rw [this, Bool.false_or]
  · rw [fget_put h.rises, h.get k k1 k2]
    unfold upd
    by_cases e : k = id
    · subst e; simp
    · rw [if_neg e, if_neg (by omega)]
  · rcases fput_mem hq with rfl | hq
    · exact ⟨by simp; omega, by simp; omega⟩
    · exact h.keys q hq
theorem Agr.del {tb : Nat → List UInt8} {F : Fl} (h : Agr tb F) {id : Nat} : Agr (upd tb id []) (fdel (id : Int) F) := by
  refine ⟨fdel_rises h.rises, fun k k1 k2 => ?_, fun k k1 k2 => ?_, fun q hq => ?_⟩
  · rw [fhas_del, h.has k k1 k2]
    unfold upd
    by_cases e : k = id
    · subst e; simp
    · rw [if_neg e]
      have : ((id : Int) == (k : Int)) = false := by rw [beq_eq_false_iff_ne]; omega
      rw [this, Bool.not_false, Bool.and_true]
  · rw [fget_del, h.get k k1 k2]
    unfold upd
    by_cases e : k = id
    · subst e; simp
    · rw [if_neg e, if_neg (by omega)]
  · exact h.keys q ((List.mem_filter.1 hq).1)
/-- How many numbers of notes stand below n. -/
theorem fat_cons_lt {n : Int} {q : Int × List UInt8} {F : Fl} (h : q.1 < n) : fat n (q :: F) = fat n F + 1 := by simp [fat, h]
theorem fat_cons_ge {n : Int} {q : Int × List UInt8} {F : Fl} (h : ¬ q.1 < n) : fat n (q :: F) = 0 := by simp [fat, h]
theorem fat_low {n : Int} : ∀ {F : Fl}, (∀ q ∈ F, ¬ q.1 < n) → fat n F = 0
  | [], _ => rfl
  | q :: F, h => fat_cons_ge (h q (List.mem_cons_self ..))
theorem fat_high {n : Int} : ∀ {F : Fl}, (∀ q ∈ F, q.1 < n) → fat n F = F.length
  | [], _ => rfl
  | q :: F, h => by rw [fat_cons_lt (h q (List.mem_cons_self ..)), fat_high fun r hr => h r (List.mem_cons_of_mem _ hr)]; rfl
theorem fat_next {n : Int} : ∀ {F : Fl}, Rises F → fat (n + 1) F = fat n F + (if fhas n F then 1 else 0)
  | [], _ => by simp [fat, fhas]
  | q :: F, h => by
    have ih := fat_next (n := n) h.tail
    by_cases h1 : q.1 < n
    · rw [fat_cons_lt h1, fat_cons_lt (by omega), ih]
      have e : (q.1 == n) = false := by rw [beq_eq_false_iff_ne]; omega
      have : fhas n (q :: F) = fhas n F := by simp [fhas, e]
      rw [this]; omega
    · rw [fat_cons_ge h1]
      by_cases h2 : q.1 = n
      · have hz : fat (n + 1) F = 0 := fat_low fun r hr => by have := h.head r hr; omega
        rw [fat_cons_lt (by omega), hz]
        have : fhas n (q :: F) = true := by simp [fhas, h2]
        rw [this]; rfl
      · rw [fat_cons_ge (by omega)]
        have : fhas n (q :: F) = false := by
          unfold fhas
          rw [List.any_eq_false]
          intro r hr
          rcases List.mem_cons.1 hr with rfl | hr
          · simpa using h2
          · have := h.head r hr
            simp; omega
        rw [this]; rfl
theorem Agr.first {tb : Nat → List UInt8} {F : Fl} (h : Agr tb F) : fat 1 F = 0 := fat_low fun q hq => by have := h.keys q hq; omega
theorem Agr.last {tb : Nat → List UInt8} {F : Fl} (h : Agr tb F) : fat 20 F = F.length := fat_high fun q hq => (h.keys q hq).2
end Go.Proofs.Ytmjhdfifbjdgpaa
