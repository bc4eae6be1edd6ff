/- slices.Sorted(maps.Keys(m)) at maps by strings: the keys in order; (*Store).Tables. -/
import Derived.Test.YtimbikbbbfpeeaaGreatDoorP45
import Derived.Test.YtimbikbbbfpeeaaGreatDoorP36
import Derived.Sort.OwnSorted
import Derived.Test.YtimbikbbbfpeeaaGreatDoorP41
import Derived.Shelf.SlIterI.Nil
import Derived.Shelf.SortM.Plain
import Derived.Shelf.SortM.SortNone
import Derived.Ground.GgzProg
import Derived.Ground.SlgmProg
import Derived.Test.YtimbikbbbfpeeaaGreatDoorProg
import Derived.Test.YtimbikbbbfpeeaaGreatDoorP2
import Derived.Test.YtimbikbbbfpeeaaGreatDoorP9
set_option linter.unusedSimpArgs false
set_option linter.unusedVariables false
namespace Go.Proofs.YtimbikbbbfpeeaaGreatDoor
open Go Go.RowKit Go.Maps Go.Sort Go.Shelf

theorem st_sortsIn (m : Nat) : AnyZ.SortsIn Tryz.prog Tryz.sortedS_ren Fence.wide m :=
  ⟨fun blk off cap ss W hH hblk hsz => callsIn_wide.2 (AnyM.slices_Sort_string Tryz.sortS blk off cap ss W hH hblk hsz),
   fun p cap W => callsIn_wide.2 (AnyM.slices_Sort_string_none Tryz.sortS p cap W)⟩
theorem before_lt : ∀ {a b : List UInt8}, bytesBefore a b = true → a < b
  | [], [], h => by cases h
  | [], _ :: _, _ => List.nil_lt_cons _ _
  | _ :: _, [], h => by cases h
  | x :: a, y :: b, h => by
    rw [List.cons_lt_cons_iff]
    simp only [bytesBefore, Bool.or_eq_true, decide_eq_true_eq, Bool.and_eq_true, beq_iff_eq] at h
    exact h.imp id fun ⟨e, h⟩ => ⟨e, before_lt h⟩
def skeys (L : Sm) : List (List UInt8) := L.map fun p => p.1.data.toList
theorem strKeys_sD (L : Sm) : strKeys (sD L) = skeys L := by
  simp only [strKeys, sD, skeys, List.map_map]
  rfl
theorem skeys_sorted {L : Sm} (h : KRises Prod.fst L) {ss : List (List UInt8)} (hp : ss.Perm (skeys L)) : ss.mergeSort (fun x y => decide (x ≤ y)) = skeys L := by
  have h1 := mergeSort_of_perm hp
  unfold leB at h1
  rw [h1]
  refine List.mergeSort_of_pairwise ?_
  unfold skeys
  rw [List.pairwise_map]
  refine List.Pairwise.imp (fun {a b} hab => ?_) h
  simp only [decide_eq_true_eq]
  exact List.le_of_lt (before_lt hab)

theorem kt_keys (mb : Option Nat) (W : World) : Calls Tryz.prog 55 #[.map mb] W fun e w' => e = .returned (.func (.func 96) #[] #[.pointer (some ⟨W.heap.size, 0, none⟩)]) ∧ w' = W.alloc (.cells #[.map mb] 73) :=
  (callsIn_wide (n := 5)).1 (AnyZ.keys_in Tryz.keysT Fence.wide 5 trivial rfl mb W)
set_option maxHeartbeats 1000000 in
theorem kt_sorted {L : Sm} {m : Nat} (hF : L.length ≤ 1000000) (w : World) (h : SMapAt w m L) :
    Calls Tryz.prog 54 #[.func (.func 96) #[] #[.pointer (some ⟨w.heap.size, 0, none⟩)]] (w.alloc (.cells #[.map (some m)] 73)) fun e w' =>
      ∃ v, (e = .returned v ∧ Ext (w.alloc (.cells #[.map (some m)] 73)) w') ∧ w'.ownsRow (w.alloc (.cells #[.map (some m)] 73)).heap.size 9 1 v L.length ((skeys L).map encStr) := by
  obtain ⟨hown, hr⟩ := h
  have hbl := hown.lt
  have hsz : Maps.size (sD L) = L.length := sD_size L
  have hseq : SeqGives Fence.wide 2 Tryz.prog 96 #[.pointer (some ⟨w.heap.size, 0, none⟩)] encStr (fun ss => ss.Perm (strKeys (sD L))) (Maps.size (sD L)) (w.alloc (.cells #[.map (some m)] 73)) :=
    AnyZ.keys_gives (ρ := Tryz.keysT_ren) { Tryz.keysT with } Fence.wide _ trivial rfl (by omega) w.heap.size m L.length (sD L) (R := rawE) _ (by simp) (by simp) (by
      obtain ⟨es, clock, hb, Ft, hs, hD⟩ := hown
      exact ⟨es, clock, (Below.heap_alloc _ _ m hbl).trans hb, Ft, hs, hD⟩)
  have cS := AnyZ.sorted_in Tryz.sortedS Fence.wide 5 trivial trivial trivial trivial rfl (by omega) (st_sortsIn _) (enters_of Tryz.func95 (by kernel_rfl) rfl) 96 #[.pointer (some ⟨w.heap.size, 0, none⟩)] trivial (enters_of Tryz.func96 (by kernel_rfl) rfl) _ _ (by rw [hsz]; unfold maxLen; omega) (by rw [hsz]; omega) _ hseq
  have cS' := (callsIn_wide (n := _)).1 cS
  rw [strKeys_sD] at cS'
  refine Calls.mono cS' ?_
  rintro e w' ⟨v, ss, rfl, hp, hrow, _, hb⟩
  refine ⟨v, ⟨rfl, hb⟩, ?_⟩
  have hl : ss.length = L.length := by rw [hp.length_eq]; simp [skeys]
  rw [skeys_sorted hr hp, hl] at hrow
  exact hrow

theorem enc_strs (L : Sm) : (skeys L).map encStr = scells (skeys L) := by
  unfold scells
  refine List.map_congr_left fun x _ => ?_
  rfl
set_option maxHeartbeats 1000000 in
theorem tables_any (W0 w : World) (C : Nat) (s : Sto) (h : StoAt W0 w C s) :
    Calls Tryz.prog 23 #[.pointer (some ⟨s.ps, 0, none⟩)] w fun e w' => ∃ v, (e = .returned v ∧ Ext w w') ∧ StrsIn w' v (skeys (s.ts.map tbE)) := by
  have c1 : w.cell? ⟨s.ps, 1, none⟩ = some (.map (some s.mt)) := by rw [h.box.cell]; rfl
  have hK := kt_keys (some s.mt) w
  have hS := kt_sorted (by rw [List.length_map]; have := h.len8; omega) w h.tabs.map
  go_enter Tryz.func23, Tryz.ntmps23
  go_wp2_with (first
    | (go_at_call 55; go_must (refine hK.mono ?_); rintro e w1 ⟨rfl, rfl⟩)
    | (go_at_call 54; go_must (refine hS.mono ?_); rintro e w2 ⟨v2, ⟨rfl, hE2⟩, ho2⟩))
  go_ret
  refine ⟨_, ⟨rfl, ((Ext.refl w).alloc _).trans hE2⟩, ?_⟩
  rw [enc_strs] at ho2
  have := SliceIn.of_owns ho2
  unfold StrsIn
  have e : (skeys (s.ts.map tbE)).length = (s.ts.map tbE).length := by simp [skeys]
  rw [e]
  exact this
end Go.Proofs.YtimbikbbbfpeeaaGreatDoor

/- Contracts of the library, laid at this program: each is one application of a theorem of the shelf (the text is the tool's, its numbers by name). -/
namespace Go.Proofs
open Go.Shelf
def Tryz.keysA_ren : Go.Shelf.Ren := ⟨fun | 7 => 82 | 10 => 135 | n => n, fun | 23 => 70 | 26 => 3 | 3 => 9 | 28 => 143 | 0 => 0 | 27 => 142 | 33 => 86 | 4 => 4 | n => n, fun | n => n⟩
theorem Tryz.keysA : Go.Proofs.SlLaysZI.n7 Tryz.prog Tryz.keysA_ren := {
  mixed := by kernel_rfl
  f7 := ⟨Tryz.f82.name, by decide, Tryz.func82.trans (congrArg some (by kernel_rfl))⟩
  f10 := ⟨Tryz.f135.name, by decide, Tryz.func135.trans (congrArg some (by kernel_rfl))⟩
  t0 := Tryz.underlying0
  a0 := Tryz.isAgg0
  z0 := Tryz.sizeOf0
  v0 := Tryz.zeroValue0
  t4 := Tryz.underlying4
  a4 := Tryz.isAgg4
  z4 := Tryz.sizeOf4
  v4 := Tryz.zeroValue4
  t23 := Tryz.underlying70
  a23 := Tryz.isAgg70
  z23 := Tryz.sizeOf70
  v23 := Tryz.zeroValue70
  t26 := Tryz.underlying3
  a26 := Tryz.isAgg3
  z26 := Tryz.sizeOf3
  v26 := Tryz.zeroValue3
  t27 := Tryz.underlying142
  a27 := Tryz.isAgg142
  z27 := Tryz.sizeOf142
  v27 := Tryz.zeroValue142
  t28 := Tryz.underlying143
  a28 := Tryz.isAgg143
  z28 := Tryz.sizeOf143
  v28 := Tryz.zeroValue143
  t33 := Tryz.underlying86
  a33 := Tryz.isAgg86
  z33 := Tryz.sizeOf86
  v33 := Tryz.zeroValue86 }
def Tryz.sortedA_ren : Go.Shelf.Ren := ⟨fun | 6 => 81 | 8 => 134 | 9 => 69 | 11 => 181 | 13 => 121 | 12 => 120 | 23 => 171 | 24 => 172 | 14 => 162 | 15 => 163 | 16 => 164 | 17 => 165 | 18 => 166 | 19 => 167 | 20 => 168 | 21 => 169 | 22 => 170 | 25 => 201 | 26 => 202 | 27 => 203 | 28 => 204 | 29 => 205 | 30 => 206 | 31 => 226 | n => n, fun | 26 => 3 | 28 => 143 | 24 => 35 | 0 => 0 | 3 => 3 | 37 => 152 | 48 => 213 | 50 => 159 | 4 => 4 | 40 => 237 | 39 => 236 | 45 => 181 | 5 => 5 | 9 => 9 | 51 => 272 | 55 => 275 | 57 => 290 | 58 => 291 | 33 => 86 | n => n, fun | n => n⟩
theorem Tryz.sortedA : Go.Proofs.SlLaysZI.n6 Tryz.prog Tryz.sortedA_ren := {
  mixed := by kernel_rfl
  f6 := ⟨Tryz.f81.name, by decide, Tryz.func81.trans (congrArg some (by kernel_rfl))⟩
  f8 := ⟨Tryz.f134.name, by decide, Tryz.func134.trans (congrArg some (by kernel_rfl))⟩
  f11 := ⟨Tryz.f181.name, by decide, Tryz.func181.trans (congrArg some (by kernel_rfl))⟩
  t0 := Tryz.underlying0
  a0 := Tryz.isAgg0
  z0 := Tryz.sizeOf0
  v0 := Tryz.zeroValue0
  t24 := Tryz.underlying35
  a24 := Tryz.isAgg35
  z24 := Tryz.sizeOf35
  v24 := Tryz.zeroValue35
  t26 := Tryz.underlying3
  a26 := Tryz.isAgg3
  z26 := Tryz.sizeOf3
  v26 := Tryz.zeroValue3
  t28 := Tryz.underlying143
  a28 := Tryz.isAgg143
  z28 := Tryz.sizeOf143
  v28 := Tryz.zeroValue143
  i26 := by kernel_rfl }
def Tryz.sortA_ren : Go.Shelf.Ren := ⟨fun | 5 => 69 | 8 => 121 | 7 => 120 | 19 => 171 | 20 => 172 | 10 => 162 | 11 => 163 | 12 => 164 | 13 => 165 | 14 => 166 | 15 => 167 | 16 => 168 | 17 => 169 | 18 => 170 | 30 => 201 | 31 => 202 | 32 => 203 | 33 => 204 | 34 => 205 | 35 => 206 | 40 => 226 | n => n, fun | 23 => 35 | 25 => 3 | 3 => 3 | 32 => 152 | 22 => 35 | 0 => 0 | 44 => 213 | 46 => 159 | 4 => 4 | 36 => 237 | 35 => 236 | 41 => 181 | 5 => 5 | 9 => 9 | 53 => 272 | 57 => 275 | 63 => 290 | 64 => 291 | n => n, fun | n => n⟩
theorem Tryz.sortA : Go.Proofs.SlLaysM.n5 Tryz.prog Tryz.sortA_ren := {
  mixed := by kernel_rfl
  f5 := ⟨Tryz.f69.name, by decide, Tryz.func69.trans (congrArg some (by kernel_rfl))⟩
  f7 := ⟨Tryz.f120.name, by decide, Tryz.func120.trans (congrArg some (by kernel_rfl))⟩
  f8 := Tryz.func121.trans (congrArg some (by kernel_rfl))
  f10 := ⟨Tryz.f162.name, by decide, Tryz.func162.trans (congrArg some (by kernel_rfl))⟩
  f11 := ⟨Tryz.f163.name, by decide, Tryz.func163.trans (congrArg some (by kernel_rfl))⟩
  f12 := ⟨Tryz.f164.name, by decide, Tryz.func164.trans (congrArg some (by kernel_rfl))⟩
  f13 := ⟨Tryz.f165.name, by decide, Tryz.func165.trans (congrArg some (by kernel_rfl))⟩
  f14 := ⟨Tryz.f166.name, by decide, Tryz.func166.trans (congrArg some (by kernel_rfl))⟩
  f15 := ⟨Tryz.f167.name, by decide, Tryz.func167.trans (congrArg some (by kernel_rfl))⟩
  f16 := ⟨Tryz.f168.name, by decide, Tryz.func168.trans (congrArg some (by kernel_rfl))⟩
  f17 := ⟨Tryz.f169.name, by decide, Tryz.func169.trans (congrArg some (by kernel_rfl))⟩
  f18 := ⟨Tryz.f170.name, by decide, Tryz.func170.trans (congrArg some (by kernel_rfl))⟩
  f19 := Tryz.func171.trans (congrArg some (by kernel_rfl))
  f20 := Tryz.func172.trans (congrArg some (by kernel_rfl))
  f30 := ⟨Tryz.f201.name, by decide, Tryz.func201.trans (congrArg some (by kernel_rfl))⟩
  f31 := Tryz.func202.trans (congrArg some (by kernel_rfl))
  f32 := Tryz.func203.trans (congrArg some (by kernel_rfl))
  f33 := ⟨Tryz.f204.name, by decide, Tryz.func204.trans (congrArg some (by kernel_rfl))⟩
  f34 := ⟨Tryz.f205.name, by decide, Tryz.func205.trans (congrArg some (by kernel_rfl))⟩
  f35 := ⟨Tryz.f206.name, by decide, Tryz.func206.trans (congrArg some (by kernel_rfl))⟩
  f40 := ⟨Tryz.f226.name, by decide, Tryz.func226.trans (congrArg some (by kernel_rfl))⟩
  t0 := Tryz.underlying0
  a0 := Tryz.isAgg0
  z0 := Tryz.sizeOf0
  v0 := Tryz.zeroValue0
  t3 := Tryz.underlying3
  a3 := Tryz.isAgg3
  z3 := Tryz.sizeOf3
  v3 := Tryz.zeroValue3
  t4 := Tryz.underlying4
  a4 := Tryz.isAgg4
  z4 := Tryz.sizeOf4
  v4 := Tryz.zeroValue4
  t5 := Tryz.underlying5
  a5 := Tryz.isAgg5
  z5 := Tryz.sizeOf5
  v5 := Tryz.zeroValue5
  t9 := Tryz.underlying9
  a9 := Tryz.isAgg9
  z9 := Tryz.sizeOf9
  v9 := Tryz.zeroValue9
  t22 := Tryz.underlying35
  a22 := Tryz.isAgg35
  z22 := Tryz.sizeOf35
  v22 := Tryz.zeroValue35
  t23 := Tryz.underlying35
  a23 := Tryz.isAgg35
  z23 := Tryz.sizeOf35
  v23 := Tryz.zeroValue35
  t25 := Tryz.underlying3
  a25 := Tryz.isAgg3
  z25 := Tryz.sizeOf3
  v25 := Tryz.zeroValue3
  t32 := Tryz.underlying152
  a32 := Tryz.isAgg152
  z32 := Tryz.sizeOf152
  v32 := Tryz.zeroValue152
  t35 := Tryz.underlying236
  a35 := Tryz.isAgg236
  z35 := Tryz.sizeOf236
  v35 := Tryz.zeroValue236
  t36 := Tryz.underlying237
  a36 := Tryz.isAgg237
  z36 := Tryz.sizeOf237
  v36 := Tryz.zeroValue237
  t41 := Tryz.underlying181
  a41 := Tryz.isAgg181
  z41 := Tryz.sizeOf181
  v41 := Tryz.zeroValue181
  t44 := Tryz.underlying213
  a44 := Tryz.isAgg213
  z44 := Tryz.sizeOf213
  v44 := Tryz.zeroValue213
  t46 := Tryz.underlying159
  a46 := Tryz.isAgg159
  z46 := Tryz.sizeOf159
  v46 := Tryz.zeroValue159
  t53 := Tryz.underlying272
  a53 := Tryz.isAgg272
  z53 := Tryz.sizeOf272
  v53 := Tryz.zeroValue272
  t57 := Tryz.underlying275
  a57 := Tryz.isAgg275
  z57 := Tryz.sizeOf275
  v57 := Tryz.zeroValue275
  t63 := Tryz.underlying290
  a63 := Tryz.isAgg290
  z63 := Tryz.sizeOf290
  v63 := Tryz.zeroValue290
  t64 := Tryz.underlying291
  a64 := Tryz.isAgg291
  z64 := Tryz.sizeOf291
  v64 := Tryz.zeroValue291 }
end Go.Proofs

/- slices.Sorted(maps.Keys(m)) at a map of bodies by numbers: the numbers in order. -/
namespace Go.Proofs.YtimbikbbbfpeeaaGreatDoor
open Go Go.RowKit Go.Maps Go.Sort Go.Shelf

theorem nk_sortsIn (m : Nat) : AnyZI.SortsIn Tryz.prog Tryz.sortedA_ren Fence.wide m :=
  ⟨fun blk off cap ss W hH hblk hsz => callsIn_wide.2 (AnyM.slices_Sort_int Tryz.sortA blk off cap ss W hH hblk hsz),
   fun p cap W => callsIn_wide.2 (AnyM.slices_Sort_int_none Tryz.sortA p cap W)⟩

theorem nk_keys (mb : Option Nat) (W : World) : Calls Tryz.prog 82 #[.map mb] W fun e w' => e = .returned (.func (.func 135) #[] #[.pointer (some ⟨W.heap.size, 0, none⟩)]) ∧ w' = W.alloc (.cells #[.map mb] 70) :=
  (callsIn_wide (n := 5)).1 (AnyZI.keys_in Tryz.keysA Fence.wide 5 trivial rfl mb W)

theorem intKeys_fD (F : Fl) : intKeys (fD F : DataW Nat) = keysF F := by
  simp only [intKeys, fD, keysF, List.map_map]
  rfl

set_option maxHeartbeats 1000000 in
theorem nk_sorted {F : Fl} {m : Nat} (hF : F.length ≤ 1000000) (w : World) (h : FilesAt w m F) :
    Calls Tryz.prog 81 #[.func (.func 135) #[] #[.pointer (some ⟨w.heap.size, 0, none⟩)]] (w.alloc (.cells #[.map (some m)] 70)) fun e w' =>
      ∃ v, (e = .returned v ∧ Ext (w.alloc (.cells #[.map (some m)] 70)) w') ∧ w'.ownsRow (w.alloc (.cells #[.map (some m)] 70)).heap.size 3 1 v F.length (kcells .i64 (keysF F)) := by
  obtain ⟨hown, hr⟩ := h
  have hbl := hown.lt
  have hsz : Maps.size (fD F : DataW Nat) = F.length := fD_size F
  have hseq : SeqGives Fence.wide 2 Tryz.prog 135 #[.pointer (some ⟨w.heap.size, 0, none⟩)] encZ (fun ss => ss.Perm (intKeys (fD F : DataW Nat))) (Maps.size (fD F : DataW Nat)) (w.alloc (.cells #[.map (some m)] 70)) :=
    AnyZI.keys_gives (ρ := Tryz.keysA_ren) { Tryz.keysA with } Fence.wide _ trivial rfl (by omega) w.heap.size m F.length (fD F) _ (by simp) (by simp) (by
      obtain ⟨es, clock, hb, Ft, hs, hD⟩ := hown
      exact ⟨es, clock, (Below.heap_alloc _ _ m hbl).trans hb, Ft, hs, hD⟩)
  have cS := AnyZI.sorted_in Tryz.sortedA Fence.wide 5 trivial trivial trivial trivial rfl (by omega) (nk_sortsIn _) (enters_of Tryz.func69 (by kernel_rfl) rfl) 135 #[.pointer (some ⟨w.heap.size, 0, none⟩)] trivial (enters_of Tryz.func135 (by kernel_rfl) rfl) _ _ (by rw [hsz]; unfold maxLen; omega) (by rw [hsz]; omega) _ hseq
  have cS' := (callsIn_wide (n := _)).1 cS
  rw [intKeys_fD] at cS'
  refine Calls.mono cS' ?_
  rintro e w' ⟨v, ss, rfl, hp, hrow, _, hb⟩
  refine ⟨v, ⟨rfl, hb⟩, ?_⟩
  have hk := keysF_rises hr
  have hs : ss.mergeSort (fun x y => decide (x ≤ y)) = keysF F := sorted_keys hr (hp.nodup_iff.2 (hk.imp fun h => by omega)) fun x => by rw [hp.mem_iff, keysF_mem]
  have hl : ss.length = F.length := by rw [hp.length_eq]; simp [keysF]
  rw [hs, hl] at hrow
  exact hrow
end Go.Proofs.YtimbikbbbfpeeaaGreatDoor
