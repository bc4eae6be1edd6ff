/- Contracts of the library, laid at this program: each is one application of a theorem of the shelf (the text is the tool's, its numbers by name). -/
import Derived.Shelf.SlIterI.Nil
import Derived.Shelf.SortM.Plain
import Derived.Shelf.SortM.SortNone
import Derived.Ground.GgzProg
import Derived.Ground.SlgmProg
import Derived.Test.YtmjhdfifbjdgpaaProg
import Derived.Test.YtmjhdfifbjdgpaaS2
import Derived.Test.YtmjhdfifbjdgpaaS6
import Derived.Test.YtmjhdfifbjdgpaaS7
import Derived.Test.YtmjhdfifbjdgpaaS8
import Derived.BigQuiet
set_option linter.unusedSimpArgs false
set_option linter.unusedVariables false
namespace Go.Proofs
open Go.Shelf
def Try.keysA_ren : Go.Shelf.Ren := ⟨fun | 7 => 47 | 10 => 90 | n => n, fun | 23 => 99 | 26 => 3 | 3 => 9 | 28 => 104 | 0 => 0 | 27 => 103 | 33 => 27 | 4 => 4 | n => n, fun | n => n⟩
theorem Try.keysA : Go.Proofs.SlLaysZI.n7 Try.prog Try.keysA_ren := {
  mixed := by kernel_rfl
  f7 := ⟨Try.f47.name, by decide, Try.func47.trans (congrArg some (by kernel_rfl))⟩
  f10 := ⟨Try.f90.name, by decide, Try.func90.trans (congrArg some (by kernel_rfl))⟩
  t0 := Try.underlying0
  a0 := Try.isAgg0
  z0 := Try.sizeOf0
  v0 := Try.zeroValue0
  t4 := Try.underlying4
  a4 := Try.isAgg4
  z4 := Try.sizeOf4
  v4 := Try.zeroValue4
  t23 := Try.underlying99
  a23 := Try.isAgg99
  z23 := Try.sizeOf99
  v23 := Try.zeroValue99
  t26 := Try.underlying3
  a26 := Try.isAgg3
  z26 := Try.sizeOf3
  v26 := Try.zeroValue3
  t27 := Try.underlying103
  a27 := Try.isAgg103
  z27 := Try.sizeOf103
  v27 := Try.zeroValue103
  t28 := Try.underlying104
  a28 := Try.isAgg104
  z28 := Try.sizeOf104
  v28 := Try.zeroValue104
  t33 := Try.underlying27
  a33 := Try.isAgg27
  z33 := Try.sizeOf27
  v33 := Try.zeroValue27 }
def Try.sortedA_ren : Go.Shelf.Ren := ⟨fun | 6 => 46 | 8 => 88 | 9 => 89 | 11 => 104 | 13 => 106 | 12 => 105 | 23 => 124 | 24 => 125 | 14 => 115 | 15 => 116 | 16 => 117 | 17 => 118 | 18 => 119 | 19 => 120 | 20 => 121 | 21 => 122 | 22 => 123 | 25 => 130 | 26 => 131 | 27 => 132 | 28 => 133 | 29 => 134 | 30 => 135 | 31 => 138 | n => n, fun | 26 => 3 | 28 => 104 | 24 => 22 | 0 => 0 | 3 => 3 | 37 => 155 | 48 => 176 | 50 => 178 | 4 => 4 | 40 => 169 | 39 => 168 | 45 => 106 | 5 => 5 | 9 => 9 | 51 => 184 | 55 => 188 | 57 => 192 | 58 => 193 | 33 => 27 | n => n, fun | n => n⟩
theorem Try.sortedA : Go.Proofs.SlLaysZI.n6 Try.prog Try.sortedA_ren := {
  mixed := by kernel_rfl
  f6 := ⟨Try.f46.name, by decide, Try.func46.trans (congrArg some (by kernel_rfl))⟩
  f8 := ⟨Try.f88.name, by decide, Try.func88.trans (congrArg some (by kernel_rfl))⟩
  f11 := ⟨Try.f104.name, by decide, Try.func104.trans (congrArg some (by kernel_rfl))⟩
  t0 := Try.underlying0
  a0 := Try.isAgg0
  z0 := Try.sizeOf0
  v0 := Try.zeroValue0
  t24 := Try.underlying22
  a24 := Try.isAgg22
  z24 := Try.sizeOf22
  v24 := Try.zeroValue22
  t26 := Try.underlying3
  a26 := Try.isAgg3
  z26 := Try.sizeOf3
  v26 := Try.zeroValue3
  t28 := Try.underlying104
  a28 := Try.isAgg104
  z28 := Try.sizeOf104
  v28 := Try.zeroValue104
  i26 := by kernel_rfl }
def Try.sortA_ren : Go.Shelf.Ren := ⟨fun | 5 => 89 | 8 => 106 | 7 => 105 | 19 => 124 | 20 => 125 | 10 => 115 | 11 => 116 | 12 => 117 | 13 => 118 | 14 => 119 | 15 => 120 | 16 => 121 | 17 => 122 | 18 => 123 | 30 => 130 | 31 => 131 | 32 => 132 | 33 => 133 | 34 => 134 | 35 => 135 | 40 => 138 | n => n, fun | 23 => 22 | 25 => 3 | 3 => 3 | 32 => 155 | 22 => 22 | 0 => 0 | 44 => 176 | 46 => 178 | 4 => 4 | 36 => 169 | 35 => 168 | 41 => 106 | 5 => 5 | 9 => 9 | 53 => 184 | 57 => 188 | 63 => 192 | 64 => 193 | n => n, fun | n => n⟩
theorem Try.sortA : Go.Proofs.SlLaysM.n5 Try.prog Try.sortA_ren := {
  mixed := by kernel_rfl
  f5 := ⟨Try.f89.name, by decide, Try.func89.trans (congrArg some (by kernel_rfl))⟩
  f7 := ⟨Try.f105.name, by decide, Try.func105.trans (congrArg some (by kernel_rfl))⟩
  f8 := Try.func106.trans (congrArg some (by kernel_rfl))
  f10 := ⟨Try.f115.name, by decide, Try.func115.trans (congrArg some (by kernel_rfl))⟩
  f11 := ⟨Try.f116.name, by decide, Try.func116.trans (congrArg some (by kernel_rfl))⟩
  f12 := ⟨Try.f117.name, by decide, Try.func117.trans (congrArg some (by kernel_rfl))⟩
  f13 := ⟨Try.f118.name, by decide, Try.func118.trans (congrArg some (by kernel_rfl))⟩
  f14 := ⟨Try.f119.name, by decide, Try.func119.trans (congrArg some (by kernel_rfl))⟩
  f15 := ⟨Try.f120.name, by decide, Try.func120.trans (congrArg some (by kernel_rfl))⟩
  f16 := ⟨Try.f121.name, by decide, Try.func121.trans (congrArg some (by kernel_rfl))⟩
  f17 := ⟨Try.f122.name, by decide, Try.func122.trans (congrArg some (by kernel_rfl))⟩
  f18 := ⟨Try.f123.name, by decide, Try.func123.trans (congrArg some (by kernel_rfl))⟩
  f19 := Try.func124.trans (congrArg some (by kernel_rfl))
  f20 := Try.func125.trans (congrArg some (by kernel_rfl))
  f30 := ⟨Try.f130.name, by decide, Try.func130.trans (congrArg some (by kernel_rfl))⟩
  f31 := Try.func131.trans (congrArg some (by kernel_rfl))
  f32 := Try.func132.trans (congrArg some (by kernel_rfl))
  f33 := ⟨Try.f133.name, by decide, Try.func133.trans (congrArg some (by kernel_rfl))⟩
  f34 := ⟨Try.f134.name, by decide, Try.func134.trans (congrArg some (by kernel_rfl))⟩
  f35 := ⟨Try.f135.name, by decide, Try.func135.trans (congrArg some (by kernel_rfl))⟩
  f40 := ⟨Try.f138.name, by decide, Try.func138.trans (congrArg some (by kernel_rfl))⟩
  t0 := Try.underlying0
  a0 := Try.isAgg0
  z0 := Try.sizeOf0
  v0 := Try.zeroValue0
  t3 := Try.underlying3
  a3 := Try.isAgg3
  z3 := Try.sizeOf3
  v3 := Try.zeroValue3
  t4 := Try.underlying4
  a4 := Try.isAgg4
  z4 := Try.sizeOf4
  v4 := Try.zeroValue4
  t5 := Try.underlying5
  a5 := Try.isAgg5
  z5 := Try.sizeOf5
  v5 := Try.zeroValue5
  t9 := Try.underlying9
  a9 := Try.isAgg9
  z9 := Try.sizeOf9
  v9 := Try.zeroValue9
  t22 := Try.underlying22
  a22 := Try.isAgg22
  z22 := Try.sizeOf22
  v22 := Try.zeroValue22
  t23 := Try.underlying22
  a23 := Try.isAgg22
  z23 := Try.sizeOf22
  v23 := Try.zeroValue22
  t25 := Try.underlying3
  a25 := Try.isAgg3
  z25 := Try.sizeOf3
  v25 := Try.zeroValue3
  t32 := Try.underlying155
  a32 := Try.isAgg155
  z32 := Try.sizeOf155
  v32 := Try.zeroValue155
  t35 := Try.underlying168
  a35 := Try.isAgg168
  z35 := Try.sizeOf168
  v35 := Try.zeroValue168
  t36 := Try.underlying169
  a36 := Try.isAgg169
  z36 := Try.sizeOf169
  v36 := Try.zeroValue169
  t41 := Try.underlying106
  a41 := Try.isAgg106
  z41 := Try.sizeOf106
  v41 := Try.zeroValue106
  t44 := Try.underlying176
  a44 := Try.isAgg176
  z44 := Try.sizeOf176
  v44 := Try.zeroValue176
  t46 := Try.underlying178
  a46 := Try.isAgg178
  z46 := Try.sizeOf178
  v46 := Try.zeroValue178
  t53 := Try.underlying184
  a53 := Try.isAgg184
  z53 := Try.sizeOf184
  v53 := Try.zeroValue184
  t57 := Try.underlying188
  a57 := Try.isAgg188
  z57 := Try.sizeOf188
  v57 := Try.zeroValue188
  t63 := Try.underlying192
  a63 := Try.isAgg192
  z63 := Try.sizeOf192
  v63 := Try.zeroValue192
  t64 := Try.underlying193
  a64 := Try.isAgg193
  z64 := Try.sizeOf193
  v64 := Try.zeroValue193 }
end Go.Proofs

/- slices.Sorted(maps.Keys(m)) at a map of bodies by numbers: the numbers in order. -/
namespace Go.Proofs.Ytmjhdfifbjdgpaa
open Go Go.RowKit Go.Maps Go.Sort Go.Shelf

theorem nk_sortsIn (m : Nat) : AnyZI.SortsIn Try.prog Try.sortedA_ren Fence.wide m :=
  ⟨fun blk off cap ss W hH hblk hsz => callsIn_wide.2 (AnyM.slices_Sort_int Try.sortA blk off cap ss W hH hblk hsz),
   fun p cap W => callsIn_wide.2 (AnyM.slices_Sort_int_none Try.sortA p cap W)⟩

theorem nk_keys (mb : Option Nat) (W : World) : Calls Try.prog 47 #[.map mb] W fun e w' => e = .returned (.func (.func 90) #[] #[.pointer (some ⟨W.heap.size, 0, none⟩)]) ∧ w' = W.alloc (.cells #[.map mb] 99) :=
  (callsIn_wide (n := 5)).1 (AnyZI.keys_in Try.keysA Fence.wide 5 trivial rfl mb W)

theorem intKeys_fD (F : Fl) : intKeys (fD F : DataW Nat) = keysF F := by
  simp only [intKeys, fD, keysF, List.map_map]
  rfl

set_option maxHeartbeats 1000000 in
theorem nk_sorted {F : Fl} {m : Nat} (hF : F.length ≤ 1000000) (w : World) (h : FilesAt w m F) :
    Calls Try.prog 46 #[.func (.func 90) #[] #[.pointer (some ⟨w.heap.size, 0, none⟩)]] (w.alloc (.cells #[.map (some m)] 99)) fun e w' =>
      ∃ v, (e = .returned v ∧ Ext (w.alloc (.cells #[.map (some m)] 99)) w') ∧ w'.ownsRow (w.alloc (.cells #[.map (some m)] 99)).heap.size 3 1 v F.length (kcells .i64 (keysF F)) := by
  obtain ⟨hown, hr⟩ := h
  have hbl := hown.lt
  have hsz : Maps.size (fD F : DataW Nat) = F.length := fD_size F
  have hseq : SeqGives Fence.wide 2 Try.prog 90 #[.pointer (some ⟨w.heap.size, 0, none⟩)] encZ (fun ss => ss.Perm (intKeys (fD F : DataW Nat))) (Maps.size (fD F : DataW Nat)) (w.alloc (.cells #[.map (some m)] 99)) :=
    AnyZI.keys_gives (ρ := Try.keysA_ren) { Try.keysA with } Fence.wide _ trivial rfl (by omega) w.heap.size m F.length (fD F) _ (by simp) (by simp) (by
      obtain ⟨es, clock, hb, Ft, hs, hD⟩ := hown
      exact ⟨es, clock, (Below.heap_alloc _ _ m hbl).trans hb, Ft, hs, hD⟩)
  have cS := AnyZI.sorted_in Try.sortedA Fence.wide 5 trivial trivial trivial trivial rfl (by omega) (nk_sortsIn _) (enters_of Try.func89 (by kernel_rfl) rfl) 90 #[.pointer (some ⟨w.heap.size, 0, none⟩)] trivial (enters_of Try.func90 (by kernel_rfl) rfl) _ _ (by rw [hsz]; unfold maxLen; omega) (by rw [hsz]; omega) _ hseq
  have cS' := (callsIn_wide (n := _)).1 cS
  rw [intKeys_fD] at cS'
  refine Calls.mono cS' ?_
  rintro e w' ⟨v, ss, rfl, hp, hrow, _, hb⟩
  refine ⟨v, ⟨rfl, hb⟩, ?_⟩
  have hk := keysF_rises hr
  have hs : ss.mergeSort (fun x y => decide (x ≤ y)) = keysF F := sorted_keys hr (hp.nodup_iff.2 (hk.imp fun h => by omega)) fun x => by rw [hp.mem_iff, keysF_mem]
  have hl : ss.length = F.length := by rw [hp.length_eq]; simp [keysF]
  rw [hs, hl] at hrow
  exact hrow
end Go.Proofs.Ytmjhdfifbjdgpaa

/- Package note: All. -/
namespace Go.Proofs.Ytmjhdfifbjdgpaa
open Go Go.RowKit
attribute [local go_sem] yields yUpon

theorem fget_nth : ∀ {F : Fl} (_ : Rises F) {k : Nat} (hk : k < F.length), fget (F[k]).1 F = (F[k]).2
  | [], _, k, hk => by simp at hk
  | q :: F, h, 0, _ => by simp [fget]
  | q :: F, h, k + 1, hk => by
    have h1 := h.head (F[k]'(by simpa using hk)) (List.getElem_mem _)
    have h2 := fget_nth h.tail (k := k) (by simpa using hk)
    have h3 : (q.1 == (F[k]'(by simpa using hk)).1) = false := by simp; omega
    simp only [List.getElem_cons_succ]
    unfold fget at h2 ⊢
    rw [List.find?_cons, h3]
    exact h2

theorem files_look0 {w : World} {m : Nat} {F : Fl} (h : FilesAt w m F) {n : Int} (h0 : -9223372036854775808 ≤ n) (h1 : n ≤ 9223372036854775807) :
    (Instr.lookup 99 (.map (some m)) (.int .i64 n) false).run Try.prog w = .ok (.string (str (fget n F))) w ∧ (fget n F).length ≤ maxLen := by
  obtain ⟨v, ps, hr, hv⟩ := h.1.lookup keyed0 und_mapis (zero_str w) (elem_str (s := ⟨#[]⟩) (by simp [ByteArray.size])) (Maps.keyOf_int_mk und_int0 (wf_in h0 h1))
  have e : DataW.atKey (fD F : DataW Nat) (.int .i64 n) (.lit (.string (#[] : Array UInt8).toList)) = .lit (.string (fget n F)) := fD_at F n
  rw [e] at hv
  obtain ⟨s, rfl, hz, hs⟩ := plainElem_string_inv und_str0 hv
  have e2 : s.data.toList = fget n F := by
    simp only [Prod.mk.injEq, DataW.lit.injEq, Lit.string.injEq] at hz
    exact hz.1.symm
  obtain rfl := str_eq e2
  exact ⟨hr, by simpa using hs⟩

section
variable {p m : Nat} {F : Fl}
set_option maxHeartbeats 4000000 in
theorem nt_all (w : World) (h : NoteAt w p m F) (hF : F.length ≤ 1000000) (hK : ∀ q ∈ F, -9223372036854775808 ≤ q.1 ∧ q.1 ≤ 9223372036854775807) :
    Calls Try.prog 12 #[.pointer (some ⟨p, 0, none⟩)] w fun e w' => ∃ v, (e = .returned v ∧ Ext w w') ∧ NotesIn w' v F := by
  have c0 := h.c0
  have hr := h.files.2
  have hfl := h.files
  go_enter Try.func12, Try.ntmps12
  go_wp2_with (first
    | (go_at_call 47; go_must (refine (nk_keys (some m) w).mono ?_); rintro e w1 ⟨rfl, rfl⟩)
    | (go_at_call 46; go_must (refine (nk_sorted hF w hfl).mono ?_); rintro e w2 ⟨v2, ⟨rfl, hE2⟩, ho2⟩; obtain ⟨a2, c2, rfl, hc2, hcm2, _, hcell2⟩ := SliceIn.of_owns ho2; unfold maxLen at hcm2))
  have HC := Lib.hid hcell2
  have hkl : (keysF F).length = F.length := by simp [keysF]
  have hE02 := ((Ext.refl w).alloc (.cells #[.map (some m)] 99)).trans hE2
  have hn2 := h.ext hE02
  have HK := Lib.hid hK
  have HR := Lib.hid hr
  clear hcell2 ho2 hK hr hfl c0 hkl
  obtain ⟨n, hn⟩ : ∃ n, n = F.length := ⟨_, rfl⟩
  have HN := Lib.hid hn
  rw [← hn] at hc2 hF ⊢
  clear hn
  go_loopw [3, 13] (fun vl i wr => ∃ k : Nat, k ≤ n ∧ i = .int .i64 (k : Int) ∧ wr.ownsRow w2.heap.size 30 2 vl k (ncells (F.take k)) ∧ Ext w2 wr) (fun _ i _ => n - (intOf i).toNat)
  case atStart => exact ⟨0, Nat.zero_le _, rfl, World.ownsRow_nil _ _ _ _, Ext.refl w2⟩
  case round =>
    obtain ⟨k, hk, rfl, hown, hE⟩ := hrel
    by_cases hlt : k < n
    · have hkF : k < F.length := by rw [← HN.out]; exact hlt
      obtain ⟨b, o, rfl, hck⟩ := HC.out k (.int .i64 (F[k]).1) (by rw [kcells_get]; simp [keysF, hkF])
      replace hck := hE.cell hck
      have hb := HK.out _ (List.getElem_mem hkF)
      have hn3 := hn2.ext hE
      have hlk := (files_look0 hn3.files hb.1 hb.2).1
      rw [fget_nth HR.out hkF] at hlk
      have c0 := hn3.c0
      have HT : Hid (ncells (F.take (k + 1)) = ncells (F.take k) ++ [.int .i64 (F[k]).1, .string (str (F[k]).2)]) := Lib.hid (by rw [List.take_succ_eq_append_getElem hkF, ncells_snoc])
      obtain ⟨key, hkey⟩ : ∃ key, key = (F[k]).1 := ⟨_, rfl⟩
      obtain ⟨bd, hbd⟩ : ∃ bd, bd = str (F[k]).2 := ⟨_, rfl⟩
      rw [← hkey] at hck hlk HT
      rw [← hbd] at hlk HT
      clear hkey hbd hb
      go_wp2_with (at_builtin; go_must (refine appR info_note und_notes rfl (by decide) wr rfl (.tmp 17) (.tmp 26) rfl w2.heap.size hE.le _ k (ncells (F.take k)) hown (by rfl) 1 _ (by rfl) (by rfl) (by simp [Value.oneCell']) (by unfold maxLen; omega) (by omega) ?_); intro v8 w8 ho8 hg8)
      have hE8 := (hE.alloc (.cells #[.int .i64 key, .string bd] 30)).grown hg8 (fun q hq => (hown.lt q hq).1)
      go_roundw
      case rel => exact ⟨k + 1, by omega, by go_num, by rw [HT.out]; exact ho8, hE8⟩
      case measure => simp [intOf]; omega
    · obtain rfl : k = n := by omega
      go_wp2
      go_ret
      refine ⟨_, ⟨rfl, hE02.trans hE⟩, ?_⟩
      have h1 := SliceIn.of_owns hown
      rw [HN.out, List.take_length] at h1
      exact h1
end
end Go.Proofs.Ytmjhdfifbjdgpaa

/- clerestorylaw05.same of the two, alike. -/
namespace Go.Proofs.Ytmjhdfifbjdgpaa
open Go Go.RowKit
attribute [local go_sem] yields yUpon

set_option maxRecDepth 100000 in
set_option maxHeartbeats 8000000 in
theorem same5_any {w wr : World} {p m q : Nat} {log : ByteArray} {good : Nat} {F : Fl} {man : ByteArray} (h : Duo w wr p m q log good F man) :
    Calls Try.prog 26 #[.pointer (some ⟨p, 0, none⟩), .pointer (some ⟨q, 0, none⟩)] wr fun e w' => e = .returned (.bool true) ∧ Ext wr w' := by
  have hlen := h.len.len
  have hgl := h.shelf.good_le
  have hll := h.shelf.log_le
  obtain ⟨U, hU⟩ : ∃ U : Int, U = (log.size : Int) - (good : Int) := ⟨_, rfl⟩
  have HU := Lib.hid hU
  obtain ⟨M, hM⟩ : ∃ M, M = F.length := ⟨_, rfl⟩
  have HM := Lib.hid hM
  clear hM
  go_enter Try.func26, Try.ntmps26
  go_wp2_with (go_at_call 69; go_must (refine (sh_nums (by omega) _ h.shelf).mono ?_); rintro e w1 ⟨v1, ⟨rfl, hin1⟩, hE1⟩; obtain ⟨an, cn, rfl, hcn, hcmn, _, hcell⟩ := hin1; unfold maxLen at hcmn; rw [show (keysF F).length = M by rw [HM.out]; simp [keysF]] at hcn ⊢)
  have hD1 := h.grow hE1
  have HC := Lib.hid hcell
  clear hcell
  have c0 := hD1.ref.c0
  have c1 := hD1.ref.c1
  have c3 := hD1.ref.c3
  obtain ⟨v2, c2, hinF⟩ := hD1.ref.notes
  obtain ⟨af, cf, rfl, hcf, hcmf, hget⟩ := hinF.get
  have HG := Lib.hid hget
  have hU' := hU.symm
  rw [← HM.out] at c2 hcf hlen
  clear hget hinF hU
  refine wp_region_tab 41 [(1, fun v _ => v = .string log), (3, fun v _ => v = .pointer (some ⟨q, 0, none⟩)), (9, fun v _ => v = .int .i64 U), (11, fun v _ => v = .pointer (some ⟨q, 0, none⟩)), (16, fun v _ => v = .pointer (some ⟨q, 0, none⟩)), (24, fun v _ => v = .string man), (26, fun v _ => v = .pointer (some ⟨q, 0, none⟩)), (35, fun v _ => v = .pointer (some ⟨q, 0, none⟩))] (by kernel_rfl) (by kernel_rfl) (by kernel_rfl) ⟨stays_eq _, stays_eq _, stays_eq _, stays_eq _, stays_eq _, stays_eq _, stays_eq _, stays_eq _, trivial⟩ ?_
  have k2 := c2
  replace c0 := held c0
  replace c1 := held c1
  replace c2 := held c2
  replace c3 := held c3
  refine rg_quiet rfl rfl rfl rfl ?_; intro K hK; go_big_quiet_op; go_big_quiet_on
  refine rg_val [] rfl rfl rfl (by kernel_rfl) (fun y hE hf => ?_) ?_
  · go_simp
    exact ((sh_log y (hD1.shelf.ext hE)).mono fun e w' ⟨he, hw⟩ => ⟨_, he, rg_done hE (hw ▸ Ext.refl y) rfl⟩) 
  simp only [Act.put, List.setIfInBounds_toArray, List.set_cons_zero, List.set_cons_succ]
  refine rg_quiet rfl rfl rfl rfl ?_; intro K hK; go_big_quiet_op; go_big_quiet_on
  refine rg_val [] rfl rfl rfl (by kernel_rfl) (fun y hE hf => ?_) ?_
  · go_simp
    exact rg_done hE (Ext.refl y) rfl
  simp only [Act.put, List.setIfInBounds_toArray, List.set_cons_zero, List.set_cons_succ]
  refine rg_quiet rfl rfl rfl rfl ?_; intro K hK; go_big_quiet_op; go_big_quiet_on
  refine rg_quiet rfl rfl rfl rfl ?_; intro K hK; go_big_quiet_op; go_big_quiet_on
  refine rg_quiet rfl rfl rfl rfl ?_; intro K hK; go_big_quiet_op; go_big_quiet_on
  refine rg_quiet rfl rfl rfl rfl ?_; intro K hK; go_big_quiet_op; go_big_quiet_on
  refine rg_quiet rfl rfl rfl rfl ?_; intro K hK; go_big_quiet_op; go_big_quiet_on
  refine rg_val [] rfl rfl rfl (by kernel_rfl) (fun y hE hf => ?_) ?_
  · go_simp
    exact ((sh_unsynced y (hD1.shelf.ext hE)).mono fun e w' ⟨he, k, hw⟩ => ⟨_, he, rg_done hE (by rw [hw]; exact (Ext.refl y).drewN k) (by rw [HU.out])⟩) 
  simp only [Act.put, List.setIfInBounds_toArray, List.set_cons_zero, List.set_cons_succ]
  refine rg_quiet rfl rfl rfl rfl ?_; intro K hK; go_big_quiet_op; go_big_quiet_on
  refine rg_val [] rfl rfl rfl (by kernel_rfl) (fun y hE hf => ?_) ?_
  · go_simp
    exact rg_done hE (Ext.refl y) rfl
  simp only [Act.put, List.setIfInBounds_toArray, List.set_cons_zero, List.set_cons_succ]
  refine rg_quiet rfl rfl rfl rfl ?_; intro K hK; go_big_quiet_op; go_big_quiet_on
  refine rg_quiet rfl rfl rfl rfl ?_; intro K hK; go_big_quiet_op; go_big_quiet_on
  refine rg_quiet rfl rfl rfl rfl ?_; intro K hK; go_big_quiet_op; go_big_quiet_on
  refine rg_quiet rfl rfl rfl rfl ?_; intro K hK; go_big_quiet_op; go_big_quiet_on
  refine rg_val [] rfl rfl rfl (by kernel_rfl) (fun y hE hf => ?_) ?_
  · go_simp
    exact rg_done hE (Ext.refl y) rfl
  simp only [Act.put, List.setIfInBounds_toArray, List.set_cons_zero, List.set_cons_succ]
  refine rg_quiet rfl rfl rfl rfl ?_; intro K hK; go_big_quiet_op; go_big_quiet_on
  refine rg_quiet rfl rfl rfl rfl ?_; intro K hK; go_big_quiet_op; go_big_quiet_on
  refine rg_quiet rfl rfl rfl rfl ?_; intro K hK; go_big_quiet_op; go_big_quiet_on
  refine rg_quiet rfl rfl rfl rfl ?_; intro K hK; go_big_quiet_op; go_big_quiet_on
  refine rg_quiet rfl rfl rfl rfl ?_; intro K hK; go_big_quiet_op; go_big_quiet_on
  refine rg_quiet rfl rfl rfl rfl ?_; intro K hK; go_big_quiet_op; go_big_quiet_on
  refine rg_quiet rfl rfl rfl rfl ?_; intro K hK; go_big_quiet_op; go_big_quiet_on
  refine rg_val [] rfl rfl rfl (by kernel_rfl) (fun y hE hf => ?_) ?_
  · go_simp
    exact ((sh_man y (hD1.shelf.ext hE)).mono fun e w' ⟨he, hw⟩ => ⟨_, he, rg_done hE (hw ▸ Ext.refl y) rfl⟩) 
  simp only [Act.put, List.setIfInBounds_toArray, List.set_cons_zero, List.set_cons_succ]
  refine rg_quiet rfl rfl rfl rfl ?_; intro K hK; go_big_quiet_op; go_big_quiet_on
  refine rg_val [] rfl rfl rfl (by kernel_rfl) (fun y hE hf => ?_) ?_
  · go_simp
    exact rg_done hE (Ext.refl y) rfl
  simp only [Act.put, List.setIfInBounds_toArray, List.set_cons_zero, List.set_cons_succ]
  refine rg_quiet rfl rfl rfl rfl ?_; intro K hK; go_big_quiet_op; go_big_quiet_on
  refine rg_quiet rfl rfl rfl rfl ?_; intro K hK; go_big_quiet_op; go_big_quiet_on
  refine rg_quiet rfl rfl rfl rfl ?_; intro K hK; go_big_quiet_op; go_big_quiet_on
  refine rg_quiet rfl rfl rfl rfl ?_; intro K hK; go_big_quiet_op; go_big_quiet_on
  refine rg_quiet rfl rfl rfl rfl ?_; intro K hK; go_big_quiet_op; go_big_quiet_on
  refine rg_quiet rfl rfl rfl rfl ?_; intro K hK; go_big_quiet_op; go_big_quiet_on
  refine rg_quiet rfl rfl rfl rfl ?_; intro K hK; go_big_quiet_op; go_big_quiet_on
  refine rg_quiet rfl rfl rfl rfl ?_; intro K hK; go_big_quiet_op; go_big_quiet_on
  refine rg_val [] rfl rfl rfl (by kernel_rfl) (fun y hE hf => ?_) ?_
  · go_simp
    exact rg_done hE (Ext.refl y) rfl
  simp only [Act.put, List.setIfInBounds_toArray, List.set_cons_zero, List.set_cons_succ]
  refine rg_quiet rfl rfl rfl rfl ?_; intro K hK; go_big_quiet_op; go_big_quiet_on
  refine rg_quiet rfl rfl rfl rfl ?_; intro K hK; go_big_quiet_op; go_big_quiet_on
  refine rg_quiet rfl rfl rfl rfl ?_; intro K hK; go_big_quiet_op; go_big_quiet_on
  refine rg_quiet rfl rfl rfl rfl ?_; intro K hK; go_big_quiet_op; go_big_quiet_on
  refine rg_quiet rfl rfl rfl rfl ?_; intro K hK; go_big_quiet_op; go_big_quiet_on
  refine rel_nil fun w2 hE2 _ => ?_
  clear c0 c1 c2 c3
  have hD2 := hD1.grow hE2
  have hE12 : Ext wr w2 := hE1.trans hE2
  have hrs := hD2.shelf.files.2
  have HS := Lib.hid hrs
  have HKY := Lib.hid hD2.len.keys
  have z2 := hE2.cell k2
  clear k2 hrs
  go_wp2_with fail
  go_loopw [6] (fun i wx => ∃ k : Nat, k ≤ M ∧ i = .int .i64 (k : Int) ∧ Ext w2 wx) (fun i _ => M - (intOf i).toNat)
  case atStart => exact ⟨0, Nat.zero_le _, rfl, Ext.refl w2⟩
  case round =>
    obtain ⟨k, hk, rfl, hE⟩ := hrel
    by_cases hlt : k < M
    · have hkF : k < F.length := by rw [← HM.out]; exact hlt
      obtain ⟨b, o, rfl, x0⟩ := HC.out k (.int .i64 (F[k]).1) (by rw [kcells_get]; simp [keysF, hkF])
      obtain ⟨b', o', rfl, y0, y1⟩ := HG.out k hkF
      replace x0 := (hE2.trans hE).cell x0
      replace y0 := (hE2.trans hE).cell y0
      replace y1 := (hE2.trans hE).cell y1
      have z3 := hE.cell z2
      have hky := HKY.out _ (List.getElem_mem hkF)
      have hgt := fget_nth HS.out hkF
      have hhs : fhas (F[k]).1 F = true := by
        unfold fhas
        rw [List.any_eq_true]
        exact ⟨_, List.getElem_mem hkF, by simp⟩
      obtain ⟨x, hx⟩ : ∃ x, x = (F[k]).1 := ⟨_, rfl⟩
      obtain ⟨X, hX⟩ : ∃ X, X = str (F[k]).2 := ⟨_, rfl⟩
      rw [← hgt] at hX
      rw [← hgt] at y1
      rw [← hx] at x0 y0 hky hhs hX y1
      rw [← hX] at y1
      have HX := Lib.hid hX
      have HH := Lib.hid hhs
      clear hx hX hgt hhs
      have hDx := hD2.grow hE
      have t1 : decide ((k : Int) < (M : Int)) = true := by simp; omega
      have t2 : (x != x) = false := by simp
      go_wp2_with (go_at_call 23; go_must (refine (sh_get x (by omega) (by omega) _ hDx.shelf).mono ?_); rintro e w5 ⟨rfl, rfl⟩; rw [← HX.out, if_pos HH.out])
      go_quiet (fail)
      go_wp2
      go_roundw
      case rel => exact ⟨k + 1, by omega, by go_num, hE.drewN _⟩
      case measure => simp [intOf]; omega
    · obtain rfl : k = M := by omega
      go_wp2_with fail
      go_ret
      exact ⟨rfl, hE12.trans hE⟩
end Go.Proofs.Ytmjhdfifbjdgpaa
