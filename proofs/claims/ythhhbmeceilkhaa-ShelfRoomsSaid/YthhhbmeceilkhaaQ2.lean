/- A world in which blocks of a list may have turned; maps of bodies by numbers in memory. -/
import Derived.Test.YthhhbmeceilkhaaQ1
import Derived.Test.YthhhbmeceilkhaaProg
import Derived.Shelf.Small.Bits
import Derived.Shelf.Small.Wraps
import Derived.Shelf.Strconv.Itoa0
import Derived.Shelf.Sort.Plain
import Derived.Shelf.Slices.In.SortNone
import Derived.ProofKit
import Derived.ChangeSlices
import Derived.WideShapes
import Derived.Sort.OwnSortedInts
import Derived.Maps.Ext
import Derived.RegionTactic
import Derived.BigRegion
set_option linter.unusedSimpArgs false
set_option linter.unusedVariables false
namespace Go.Proofs.Ythhhbmeceilkhaa
open Go Go.RowKit

structure Touch (w w' : World) (L : List Nat) : Prop where
  os : w'.os = w.os
  tape : w'.tape = w.tape
  output : w'.output = w.output
  size : w.heap.size ≤ w'.heap.size
  block : ∀ k, k < w.heap.size → k ∉ L → w'.heap[k]? = w.heap[k]?
theorem Touch.refl (w : World) (L : List Nat) : Touch w w L := ⟨rfl, rfl, rfl, Nat.le_refl _, fun _ _ _ => rfl⟩
theorem Touch.trans {a b c : World} {L M : List Nat} (h : Touch a b L) (k : Touch b c M) : Touch a c (L ++ M) :=
  ⟨k.os.trans h.os, k.tape.trans h.tape, k.output.trans h.output, Nat.le_trans h.size k.size, fun i hi hn => by
    rw [List.mem_append, not_or] at hn
    rw [k.block i (Nat.lt_of_lt_of_le hi h.size) hn.2, h.block i hi hn.1]⟩
theorem Touch.mono {w w' : World} {L M : List Nat} (h : Touch w w' L) (hs : ∀ k ∈ L, k < w.heap.size → k ∈ M) : Touch w w' M :=
  ⟨h.os, h.tape, h.output, h.size, fun k hk hn => h.block k hk fun hl => hn (hs k hl hk)⟩
theorem Touch.of_ext {w w' : World} (h : Ext w w') (L : List Nat) : Touch w w' L := ⟨h.os, h.tape, h.output, h.size, fun k hk _ => h.block k hk⟩
theorem Touch.of_grown {w w' : World} {r : Nat} {L : List Nat} (h : w.grownBy w' (some r)) (hr : r ∈ L) : Touch w w' L :=
  ⟨h.os, h.tape, h.output, h.size, fun k hk hn => h.block k hk fun e => hn (by cases e; exact hr)⟩
theorem Touch.set {w : World} {p i : Nat} {u : Value} {L : List Nat} (hp : p ∈ L) : Touch w (w.setCell ⟨p, i, none⟩ u) L :=
  ⟨rfl, rfl, rfl, by rw [Deep.nblk_setCell]; exact Nat.le_refl _, fun k _ hn => heap_setCell_other _ _ _ _ fun e => hn (by rw [e]; exact hp)⟩
theorem Touch.drew {a w : World} {L : List Nat} (h : Touch a w L) : Touch a w.drew L := ⟨h.os, h.tape, h.output, h.size, h.block⟩
theorem Touch.drewN {a w : World} {L : List Nat} (h : Touch a w L) (n : Nat) : Touch a (w.drewN n) L := ⟨h.os, h.tape, h.output, h.size, h.block⟩
theorem Touch.ext {a w w' : World} {L : List Nat} (h : Touch w w' L) (hE : Ext a w) (hL : ∀ k ∈ L, a.heap.size ≤ k) : Ext a w' :=
  ⟨h.os.trans hE.os, h.tape.trans hE.tape, h.output.trans hE.output, Nat.le_trans hE.size h.size, fun k hk => by
    rw [h.block k (Nat.lt_of_lt_of_le hk hE.size) fun hl => by have := hL k hl; omega]
    exact hE.block k hk⟩
theorem Touch.box {w w' : World} {L : List Nat} (h : Touch w w' L) {p : Nat} {cs : Array Value} {e : TypeId} (hb : BoxAt w p cs e) (hp : p ∉ L) : BoxAt w' p cs e := by
  unfold BoxAt at *
  rw [h.block p (Array.getElem?_eq_some_iff.1 hb).1 hp]; exact hb
theorem Touch.cell {w w' : World} {L : List Nat} (h : Touch w w' L) {b o : Nat} {v : Value} (hc : w.cell? ⟨b, o, none⟩ = some v) (hp : b ∉ L) : w'.cell? ⟨b, o, none⟩ = some v := by
  rw [World.cell?_of_block (w := w) (h.block b (World.block_lt_of_cell? w _ hc) hp)]; exact hc
theorem Touch.owns {w w' : World} {L : List Nat} (h : Touch w w' L) {b : Nat} {e : TypeId} {size : Nat} {v : Value} {n : Nat} {xs : List Value} (ho : w.ownsRow b e size v n xs) (hv : ∀ k, v.ownBlock = some k → k ∉ L) : w'.ownsRow b e size v n xs := by
  obtain ⟨h1, h2⟩ := ho
  refine ⟨h1, h2.imp id ?_⟩
  rintro ⟨g, cap, cur, h3⟩
  refine ⟨g, cap, cur, h3.1, h3.2.1, ?_, h3.2.2.2⟩
  rw [h.block g (Array.getElem?_eq_some_iff.1 h3.2.2.1).1 (hv g (by rw [h3.1]; rfl))]
  exact h3.2.2.1

/-- Block m is a map of bodies by numbers. -/
def FilesAt (w : World) (m : Nat) (F : Fl) : Prop := w.ownsMap Try.prog 3 (plainElem (H := Nat) Try.prog 9) m F.length (fD F) ∧ Rises F
theorem FilesAt.lt {w : World} {m : Nat} {F : Fl} (h : FilesAt w m F) : m < w.heap.size := h.1.lt
theorem Touch.files {w w' : World} {L : List Nat} (h : Touch w w' L) {m : Nat} {F : Fl} (hf : FilesAt w m F) (hm : m ∉ L) : FilesAt w' m F := by
  obtain ⟨⟨es, clock, hb, F1, hs, hD⟩, hr⟩ := hf
  exact ⟨⟨es, clock, by rw [h.block m (Array.getElem?_eq_some_iff.1 hb).1 hm]; exact hb, F1, hs, hD⟩, hr⟩
theorem FilesAt.ext {w w' : World} {m : Nat} {F : Fl} (hf : FilesAt w m F) (hE : Ext w w') : FilesAt w' m F := (Touch.of_ext hE []).files hf (by simp)
theorem und_mapis : Try.prog.underlying 73 = some (.map 3 9) := by kernel_rfl
theorem und_int0 : Try.prog.underlying 3 = some (.int .i64) := by kernel_rfl
theorem und_str0 : Try.prog.underlying 9 = some .string := by kernel_rfl
theorem keyed0 : Maps.Keyed Try.prog 3 := Maps.int_keyed und_int0
theorem zero_str (w : World) : (zeroValue 9).run Try.prog w = .ok (.string ⟨#[]⟩) w := by kernel_rfl
theorem elem_str {s : ByteArray} (hs : s.size ≤ maxLen) : plainElem (H := Nat) Try.prog 9 (.string s) = some (.lit (.string s.data.toList), []) := plainElem_string und_str0 hs
theorem wf_in {n : Int} (h0 : -9223372036854775808 ≤ n) (h1 : n ≤ 9223372036854775807) : (Lit.int .i64 n).wf = true := WalkArith.wf_i64 (by omega)
theorem owns_tight {w : World} {P : Program} {k : TypeId} {R : Value → Option (DataW Nat × List MemPlace)} {b n : Nat} {D : DataW Nat} (h : w.ownsMap P k R b n D) {n' : Nat} (hn : Maps.size D = n') : w.ownsMap P k R b n' D := by
  obtain ⟨es, clock, hb, F, hs, hD⟩ := h
  refine ⟨es, clock, hb, F, ?_, hD⟩
  rw [← hn, hD]
  simp [Maps.size, length_sorted]
theorem files_new (w : World) : FilesAt (w.alloc (.map #[] 0)) w.heap.size [] := ⟨World.ownsMap_made w Try.prog 3 _, List.Pairwise.nil⟩
theorem str_eq {s : ByteArray} {l : List UInt8} (h : s.data.toList = l) : s = str l := by
  subst h
  obtain ⟨d⟩ := s
  simp [str]
theorem files_look {w : World} {m : Nat} {F : Fl} (h : FilesAt w m F) {n : Int} (h0 : -9223372036854775808 ≤ n) (h1 : n ≤ 9223372036854775807) :
    (Instr.lookup 73 (.map (some m)) (.int .i64 n) true).run Try.prog w = .ok (.tuple #[.string (str (fget n F)), .bool (fhas n F)]) w ∧ (fget n F).length ≤ maxLen := by
  obtain ⟨v, ps, hr, hv⟩ := h.1.look_ok keyed0 und_mapis (zero_str w) (elem_str (s := ⟨#[]⟩) (by simp [ByteArray.size])) (Maps.keyOf_int_mk und_int0 (wf_in h0 h1))
  rw [fD_has] at hr
  have e : DataW.atKey (fD F : DataW Nat) (.int .i64 n) (.lit (.string (#[] : Array UInt8).toList)) = .lit (.string (fget n F)) := fD_at F n
  rw [e] at hv
  obtain ⟨s, rfl, hz, hs⟩ := plainElem_string_inv und_str0 hv
  have e2 : s.data.toList = fget n F := by
    simp only [Prod.mk.injEq, DataW.lit.injEq, Lit.string.injEq] at hz
    exact hz.1.symm
  obtain rfl := str_eq e2
  exact ⟨hr, by simpa using hs⟩
theorem files_len {w : World} {m : Nat} {F : Fl} (h : FilesAt w m F) (ty : TypeId) : (Builtin.len_ #[73] ty #[.map (some m)]).run Try.prog w = .ok (.int .i64 (F.length : Int)) w := by
  rw [h.1.len und_mapis ty, fD_size]
theorem mapTurned_touch {w w' : World} {m : Nat} (h : w.mapTurned w' m) : Touch w w' [m] := Touch.of_grown h.grown (by simp)
theorem files_put {w : World} {m : Nat} {F : Fl} (h : FilesAt w m F) {n : Int} (h0 : -9223372036854775808 ≤ n) (h1 : n ≤ 9223372036854775807) {b : ByteArray} (hb : b.size ≤ maxLen) (hn : F.length < maxLen) :
    ∃ w', (Instr.mapUpdate 73 (.map (some m)) (.int .i64 n) (.string b)).run Try.prog w = .ok () w' ∧ FilesAt w' m (fput n b.data.toList F) ∧ Touch w w' [m] := by
  obtain ⟨w', hr, ho, ht⟩ := h.1.store keyed0 und_mapis hn (Maps.keyOf_int_mk und_int0 (wf_in h0 h1)) (elem_str hb)
  rw [fD_put n _ F h.2] at ho
  exact ⟨w', hr, ⟨owns_tight ho (fD_size _), fput_rises h.2⟩, mapTurned_touch ht⟩
theorem files_del {w : World} {m : Nat} {F : Fl} (h : FilesAt w m F) {n : Int} (h0 : -9223372036854775808 ≤ n) (h1 : n ≤ 9223372036854775807) (ty : TypeId) :
    ∃ w', (Builtin.delete_ #[73, 3] ty #[.map (some m), .int .i64 n]).run Try.prog w = .ok (.tuple #[]) w' ∧ FilesAt w' m (fdel n F) ∧ Touch w w' [m] := by
  obtain ⟨w', hr, ho, ht⟩ := h.1.drop keyed0 und_mapis (Maps.keyOf_int_mk und_int0 (wf_in h0 h1)) ty
  rw [fD_del] at ho
  exact ⟨w', hr, ⟨owns_tight ho (fD_size _), fdel_rises h.2⟩, mapTurned_touch ht⟩
end Go.Proofs.Ythhhbmeceilkhaa

/- Contracts of the library, laid at this program: each is one application of a theorem of the shelf (the text is the tool's, its numbers by name). -/
namespace Go.Proofs
open Go.Shelf
def Try.lays189_ren : Go.Shelf.Ren := ⟨fun | 189 => 42 | 125 => 58 | 257 => 57 | 128 => 72 | 129 => 73 | 294 => 63 | 295 => 64 | 296 => 65 | 297 => 66 | 298 => 67 | 299 => 68 | 216 => 69 | 300 => 70 | 301 => 71 | 328 => 75 | 329 => 76 | 330 => 77 | 331 => 78 | 332 => 79 | 215 => 80 | 343 => 81 | n => n, fun | 28 => 29 | 3 => 3 | 46 => 91 | 0 => 0 | 51 => 103 | 53 => 105 | 4 => 4 | 183 => 96 | 182 => 95 | 131 => 77 | 5 => 5 | 9 => 9 | 218 => 107 | 222 => 111 | 228 => 113 | 229 => 114 | n => n, fun | n => n⟩
theorem Try.lays189 : Go.Proofs.Lays.n189 Try.prog Try.lays189_ren := {
  mixed := by kernel_rfl
  f125 := Try.func58.trans (congrArg some (by kernel_rfl))
  f128 := Try.func72.trans (congrArg some (by kernel_rfl))
  f129 := Try.func73.trans (congrArg some (by kernel_rfl))
  f189 := Try.func42.trans (congrArg some (by kernel_rfl))
  f215 := Try.func80.trans (congrArg some (by kernel_rfl))
  f216 := Try.func69.trans (congrArg some (by kernel_rfl))
  f257 := Try.func57.trans (congrArg some (by kernel_rfl))
  f294 := Try.func63.trans (congrArg some (by kernel_rfl))
  f295 := Try.func64.trans (congrArg some (by kernel_rfl))
  f296 := Try.func65.trans (congrArg some (by kernel_rfl))
  f297 := Try.func66.trans (congrArg some (by kernel_rfl))
  f298 := Try.func67.trans (congrArg some (by kernel_rfl))
  f299 := Try.func68.trans (congrArg some (by kernel_rfl))
  f300 := Try.func70.trans (congrArg some (by kernel_rfl))
  f301 := Try.func71.trans (congrArg some (by kernel_rfl))
  f328 := Try.func75.trans (congrArg some (by kernel_rfl))
  f329 := Try.func76.trans (congrArg some (by kernel_rfl))
  f330 := Try.func77.trans (congrArg some (by kernel_rfl))
  f331 := Try.func78.trans (congrArg some (by kernel_rfl))
  f332 := Try.func79.trans (congrArg some (by kernel_rfl))
  f343 := Try.func81.trans (congrArg some (by kernel_rfl))
  t0 := Try.underlying0
  a0 := Try.isAgg0
  z0 := Try.sizeOf0
  v0 := Try.zeroValue0
  t3 := Try.underlying3
  a3 := Try.isAgg3
  z3 := Try.sizeOf3
  v3 := Try.zeroValue3
  t4 := Try.underlying4
  a4 := Try.isAgg4
  z4 := Try.sizeOf4
  v4 := Try.zeroValue4
  t5 := Try.underlying5
  a5 := Try.isAgg5
  z5 := Try.sizeOf5
  v5 := Try.zeroValue5
  t9 := Try.underlying9
  a9 := Try.isAgg9
  z9 := Try.sizeOf9
  v9 := Try.zeroValue9
  t28 := Try.underlying29
  a28 := Try.isAgg29
  z28 := Try.sizeOf29
  v28 := Try.zeroValue29
  t46 := Try.underlying91
  a46 := Try.isAgg91
  z46 := Try.sizeOf91
  v46 := Try.zeroValue91
  t51 := Try.underlying103
  a51 := Try.isAgg103
  z51 := Try.sizeOf103
  v51 := Try.zeroValue103
  t53 := Try.underlying105
  a53 := Try.isAgg105
  z53 := Try.sizeOf105
  v53 := Try.zeroValue105
  t131 := Try.underlying77
  a131 := Try.isAgg77
  z131 := Try.sizeOf77
  v131 := Try.zeroValue77
  t182 := Try.underlying95
  a182 := Try.isAgg95
  z182 := Try.sizeOf95
  v182 := Try.zeroValue95
  t183 := Try.underlying96
  a183 := Try.isAgg96
  z183 := Try.sizeOf96
  v183 := Try.zeroValue96
  t218 := Try.underlying107
  a218 := Try.isAgg107
  z218 := Try.sizeOf107
  v218 := Try.zeroValue107
  t222 := Try.underlying111
  a222 := Try.isAgg111
  z222 := Try.sizeOf111
  v222 := Try.zeroValue111
  t228 := Try.underlying113
  a228 := Try.isAgg113
  z228 := Try.sizeOf113
  v228 := Try.zeroValue113
  t229 := Try.underlying114
  a229 := Try.isAgg114
  z229 := Try.sizeOf114
  v229 := Try.zeroValue114 }
open Go.Sort Go.RowKit in
theorem Try.slices_Sort_int (blk off cap : Nat) (zs : List Int) (w : World) (hH : Holds (Value.int .i64) w blk off zs.toArray) (hblk : blk < w.heap.size) (hsz : zs.length < 4611686018427387904) :
    Calls Try.prog 42 #[.slice (some ⟨blk, off, none⟩) zs.length cap] w fun e w' =>
      e = .returned (.tuple #[]) ∧ ∃ n os, w' = grow (putRow (Value.int .i64) (Sort.ahead w n) blk off (zs.mergeSort fun x y => decide (x ≤ y)).toArray) os := Any.slices_Sort_int Try.lays189 blk off cap zs w hH hblk hsz
theorem Try.slices_Sort_int_none (p : Option Addr) (cap : Nat) (w : World) :
    Calls Try.prog 42 #[.slice p 0 cap] w fun e w' => e = .returned (.tuple #[]) ∧ w' = w := Any.slices_Sort_int_none Try.lays189 p cap w
end Go.Proofs

/- A slice of integers that comes in, read. -/
namespace Go.Proofs.Ythhhbmeceilkhaa
open Go Go.RowKit Go.ChangeShapes Go.WideShapes Go.ChangeAt

/-- The cells of a list of integers. -/
def kcells (k : IntKind) (l : List Int) : List Value := l.map (Value.int k)
@[simp] theorem kcells_length (k : IntKind) (l : List Int) : (kcells k l).length = l.length := by simp [kcells]
theorem kcells_get (k : IntKind) (l : List Int) (i : Nat) : (kcells k l)[i]? = l[i]?.map (Value.int k) := by simp [kcells]
/-- v is a slice of integers that reads as l. -/
def IntsIn (w : World) (v : Value) (k : IntKind) (l : List Int) : Prop := SliceIn w v l.length (kcells k l)
theorem IntsIn.ext {w w' : World} (hE : Ext w w') {v : Value} {k : IntKind} {l : List Int} (h : IntsIn w v k l) : IntsIn w' v k l := SliceIn.ext hE h

theorem read_ints {P : Program} {H : Type} {enc : TypeId × Value → H} {W : World} {base : Nat} {t e : TypeId} {k : IntKind} {v : Value} {d : DataW H} {p : List MemPlace} (ht : P.underlying t = some (.slice e)) (he : P.underlying e = some (.int k)) (hc : P.cellsOf e = 1)
    (hv : Value.okWide P W .any base t v) (h : DataW.Trod enc P W 0 (fun _ => true) true t v d p) : ∃ l : List Int, IntsIn W v k l ∧ ∀ n ∈ l, (Lit.int k n).wf = true := by
  obtain ⟨a, len, cap, rfl⟩ := okWide_slice ht hv
  obtain ⟨fuel, hf⟩ := h
  rcases open_ints ht he hc hf with ⟨hcs, _⟩ | ⟨x, l, c, zs, hcs, _, hl, hm, hz, _, hcell, hwz⟩
  · simp [Value.cells] at hcs
    obtain ⟨rfl, rfl, rfl⟩ := hcs
    exact ⟨[], SliceIn.nil W, by simp⟩
  · simp [Value.cells] at hcs
    obtain ⟨rfl, rfl, rfl⟩ := hcs
    have hz' : zs.length = cap := by simpa using hz
    refine ⟨zs.take len, ?_, fun n hn => hwz n (List.mem_of_mem_take hn)⟩
    have hlen : (zs.take len).length = len := by simp; omega
    unfold IntsIn
    rw [hlen]
    refine ⟨some x, cap, rfl, hl, hm, nofun, fun j u hj => ?_⟩
    rw [kcells_get, List.getElem?_take] at hj
    split at hj
    · rename_i hlt
      have hjz : j < zs.length := by omega
      have hc := hcell j hjz
      have h0 := hcell 0 (by omega)
      obtain ⟨b, o, s⟩ := x
      have hs : s = none := by
        cases s with
        | none => rfl
        | some s =>
          simp only [Addr.add, if_pos] at h0
          unfold World.cell? at h0
          split at h0 <;> simp at h0
      subst hs
      refine ⟨b, o, rfl, ?_⟩
      rw [Addr.add_lit] at hc
      rw [hc, List.getD_eq_getElem?_getD]
      rw [List.getElem?_eq_getElem hjz] at hj ⊢
      simp at hj ⊢
      exact hj
    · cases hj
end Go.Proofs.Ythhhbmeceilkhaa

/- Package shelf: a shelf in memory; New, Append, Sync, Cut, Log, Unsynced, Put, Get, Drop, Man, Turn, Crash, Wipe. -/
namespace Go.Proofs.Ythhhbmeceilkhaa
open Go Go.RowKit
attribute [local go_sem] yields yUpon

/-- A shelf in memory: its box p, its map m. -/
structure ShelfAt (w : World) (p m : Nat) (log : ByteArray) (good : Nat) (F : Fl) (man : ByteArray) : Prop where
  box : BoxAt w p #[.string log, .int .i64 (good : Int), .map (some m), .string man] 75
  files : FilesAt w m F
  ne : p ≠ m
  good_le : good ≤ log.size
  log_le : log.size ≤ 262144
theorem ShelfAt.touch {w w' : World} {L : List Nat} (ht : Touch w w' L) {p m : Nat} {log : ByteArray} {good : Nat} {F : Fl} {man : ByteArray} (h : ShelfAt w p m log good F man) (hp : p ∉ L) (hm : m ∉ L) : ShelfAt w' p m log good F man :=
  ⟨ht.box h.box hp, ht.files h.files hm, h.ne, h.good_le, h.log_le⟩
theorem ShelfAt.ext {w w' : World} (hE : Ext w w') {p m : Nat} {log : ByteArray} {good : Nat} {F : Fl} {man : ByteArray} (h : ShelfAt w p m log good F man) : ShelfAt w' p m log good F man :=
  h.touch (Touch.of_ext hE []) (by simp) (by simp)
theorem ShelfAt.c0 {w : World} {p m : Nat} {log : ByteArray} {good : Nat} {F : Fl} {man : ByteArray} (h : ShelfAt w p m log good F man) : w.cell? ⟨p, 0, none⟩ = some (.string log) := by rw [h.box.cell]; rfl
theorem ShelfAt.c1 {w : World} {p m : Nat} {log : ByteArray} {good : Nat} {F : Fl} {man : ByteArray} (h : ShelfAt w p m log good F man) : w.cell? ⟨p, 1, none⟩ = some (.int .i64 (good : Int)) := by rw [h.box.cell]; rfl
theorem ShelfAt.c2 {w : World} {p m : Nat} {log : ByteArray} {good : Nat} {F : Fl} {man : ByteArray} (h : ShelfAt w p m log good F man) : w.cell? ⟨p, 2, none⟩ = some (.map (some m)) := by rw [h.box.cell]; rfl
theorem ShelfAt.c3 {w : World} {p m : Nat} {log : ByteArray} {good : Nat} {F : Fl} {man : ByteArray} (h : ShelfAt w p m log good F man) : w.cell? ⟨p, 3, none⟩ = some (.string man) := by rw [h.box.cell]; rfl
theorem ShelfAt.turn {w w' : World} {p m : Nat} {log log' : ByteArray} {good good' : Nat} {F : Fl} {man man' : ByteArray} (h : ShelfAt w p m log good F man) (ht : Touch w w' [p])
    (hb : BoxAt w' p #[.string log', .int .i64 (good' : Int), .map (some m), .string man'] 75) (h1 : good' ≤ log'.size) (h2 : log'.size ≤ 262144) : ShelfAt w' p m log' good' F man' :=
  ⟨hb, ht.files h.files (by simp; exact fun e => h.ne e.symm), h.ne, h1, h2⟩

set_option maxHeartbeats 400000 in
theorem sh_new (w : World) : Calls Try.prog 10 #[] w fun e w' => e = .returned (.pointer (some ⟨w.heap.size + 1, 0, none⟩)) ∧ w' = (w.alloc (.map #[] 0)).alloc (.cells #[.string ⟨#[]⟩, .int .i64 0, .map (some w.heap.size), .string ⟨#[]⟩] 75) := by
  have hmm := @run_makeMap Try.prog
  go_enter Try.func10, Try.ntmps10
  go_wp2
  go_ret
  exact ⟨rfl, rfl⟩
theorem sh_made (w : World) : ShelfAt ((w.alloc (.map #[] 0)).alloc (.cells #[.string ⟨#[]⟩, .int .i64 0, .map (some w.heap.size), .string ⟨#[]⟩] 75)) (w.heap.size + 1) w.heap.size ⟨#[]⟩ 0 [] ⟨#[]⟩ := by
  have e : (w.alloc (.map #[] 0)).heap.size = w.heap.size + 1 := by simp
  refine ⟨?_, (files_new w).ext ((Ext.refl _).alloc _), by omega, by simp, by simp [ByteArray.size]⟩
  have := BoxAt.made (w.alloc (.map #[] 0)) #[.string ⟨#[]⟩, .int .i64 0, .map (some w.heap.size), .string ⟨#[]⟩] 75
  rw [e] at this
  exact this

section
variable {p m : Nat} {log : ByteArray} {good : Nat} {F : Fl} {man : ByteArray}

set_option maxHeartbeats 400000 in
theorem sh_log (w : World) (h : ShelfAt w p m log good F man) : Calls Try.prog 19 #[.pointer (some ⟨p, 0, none⟩)] w fun e w' => e = .returned (.string log) ∧ w = w' := by
  have c0 := h.c0
  go_enter Try.func19, Try.ntmps19
  go_wp2
  go_ret
  exact ⟨rfl, rfl⟩

set_option maxHeartbeats 400000 in
theorem sh_man (w : World) (h : ShelfAt w p m log good F man) : Calls Try.prog 22 #[.pointer (some ⟨p, 0, none⟩)] w fun e w' => e = .returned (.string man) ∧ w = w' := by
  have c0 := h.c3
  go_enter Try.func22, Try.ntmps22
  go_wp2
  go_ret
  exact ⟨rfl, rfl⟩

set_option maxHeartbeats 400000 in
theorem sh_append (b : ByteArray) (hb : b.size ≤ maxLen) (w : World) (h : ShelfAt w p m log good F man) :
    Calls Try.prog 12 #[.pointer (some ⟨p, 0, none⟩), .string b] w fun e w' =>
      (e = .returned (.int .i64 (if log.size + b.size ≤ 262144 then 0 else 2)) ∧ Touch w w' [p]) ∧ ShelfAt w' p m (if log.size + b.size ≤ 262144 then log ++ b else log) good F man := by
  have c0 := h.c0
  have f0 := h.box.free 0
  have hl := h.log_le
  unfold maxLen at hb
  by_cases hs : log.size + b.size ≤ 262144
  · rw [if_pos hs, if_pos hs]
    have hlt : ¬ (262144 - (log.size : Int) < (b.size : Int)) := by omega
    go_enter Try.func12, Try.ntmps12
    go_wp2
    go_ret
    refine ⟨⟨rfl, Touch.set (by simp)⟩, h.turn (Touch.set (by simp)) (h.box.set 0 _) ?_ ?_⟩
    · rw [ByteArray.size_append]; have := h.good_le; omega
    · rw [ByteArray.size_append]; omega
  · rw [if_neg hs, if_neg hs]
    have hlt : 262144 - (log.size : Int) < (b.size : Int) := by omega
    go_enter Try.func12, Try.ntmps12
    go_wp2
    go_ret
    exact ⟨⟨rfl, Touch.refl _ _⟩, h⟩

set_option maxHeartbeats 400000 in
theorem sh_sync0 (v : Value) (w : World) (c0 : w.cell? ⟨p, 0, none⟩ = some (.string log)) (c1 : w.cell? ⟨p, 1, none⟩ = some v) (f1 : w.frozen? ⟨p, 1, none⟩ = false) (hl : log.size ≤ 262144) :
    Calls Try.prog 16 #[.pointer (some ⟨p, 0, none⟩)] w fun e w' => e = .returned (.tuple #[]) ∧ w' = w.setCell ⟨p, 1, none⟩ (.int .i64 (log.size : Int)) := by
  go_enter Try.func16, Try.ntmps16
  go_wp2
  go_end0
  exact ⟨rfl, rfl⟩

theorem sh_sync (w : World) (h : ShelfAt w p m log good F man) : Calls Try.prog 16 #[.pointer (some ⟨p, 0, none⟩)] w fun e w' => (e = .returned (.tuple #[]) ∧ Touch w w' [p]) ∧ ShelfAt w' p m log log.size F man :=
  (sh_sync0 _ w h.c0 h.c1 (h.box.free 1) h.log_le).mono fun e w' ⟨he, hw⟩ => by
    subst hw
    exact ⟨⟨he, Touch.set (by simp)⟩, h.turn (Touch.set (by simp)) (h.box.set 1 _) (Nat.le_refl _) h.log_le⟩

set_option maxHeartbeats 400000 in
theorem sh_turn (b : ByteArray) (hb : b.size ≤ maxLen) (w : World) (h : ShelfAt w p m log good F man) :
    Calls Try.prog 21 #[.pointer (some ⟨p, 0, none⟩), .string b] w fun e w' =>
      (e = .returned (.int .i64 (if b.size ≤ 262144 then 0 else 2)) ∧ Touch w w' [p]) ∧ (if b.size ≤ 262144 then ShelfAt w' p m ⟨#[]⟩ 0 F b else w' = w) := by
  have c0 := h.c0
  have c1 := h.c1
  have c3 := h.c3
  have f0 := h.box.free 0
  have f1 := h.box.free 1
  have f3 := h.box.free 3
  unfold maxLen at hb
  by_cases hs : b.size ≤ 262144
  · simp only [if_pos hs]
    have hlt : ¬ (262144 < (b.size : Int)) := by omega
    go_enter Try.func21, Try.ntmps21
    go_wp2
    go_ret
    have ht : Touch w (((w.setCell ⟨p, 3, none⟩ (.string b)).setCell ⟨p, 0, none⟩ (.string ⟨#[]⟩)).setCell ⟨p, 1, none⟩ (.int .i64 0)) [p] :=
      (((Touch.set (L := [p]) (by simp)).trans (Touch.set (L := [p]) (by simp))).trans (Touch.set (L := [p]) (by simp))).mono (by simp)
    exact ⟨⟨rfl, ht⟩, h.turn ht (((h.box.set 3 _).set 0 _).set 1 _) (by simp) (by simp [ByteArray.size])⟩
  · simp only [if_neg hs]
    have hlt : 262144 < (b.size : Int) := by omega
    go_enter Try.func21, Try.ntmps21
    go_wp2
    go_ret
    exact ⟨⟨rfl, Touch.refl _ _⟩, rfl⟩

set_option maxHeartbeats 400000 in
theorem sh_unsynced (w : World) (h : ShelfAt w p m log good F man) :
    Calls Try.prog 17 #[.pointer (some ⟨p, 0, none⟩)] w fun e w' => e = .returned (.int .i64 ((log.size : Int) - good)) ∧ ∃ n, w' = w.drewN n := by
  have c0 := h.c0
  have c1 := h.c1
  have hl := h.log_le
  have hg := h.good_le
  go_enter Try.func17, Try.ntmps17
  go_wp2
  go_quiet (fail)
  go_wp2
  go_ret
  exact ⟨rfl, _, rfl⟩

/-- How many bytes are left by 'Cut(n)'. -/
def cutN (n : Int) (k : Nat) : Nat := (max 0 (min n (k : Int))).toNat
theorem cutN_le (n : Int) (k : Nat) : cutN n k ≤ k := by unfold cutN; omega
theorem cut_size (s : ByteArray) (n : Nat) (h : n ≤ s.size) : (s.extract 0 n).size = n := by simp [ByteArray.size_extract]; omega

set_option maxHeartbeats 400000 in
theorem sh_get (n : Int) (h0 : -9223372036854775808 ≤ n) (h1 : n ≤ 9223372036854775807) (w : World) (h : ShelfAt w p m log good F man) :
    Calls Try.prog 20 #[.pointer (some ⟨p, 0, none⟩), .int .i64 n] w fun e w' => e = .returned (.tuple #[.string (str (fget n F)), .int .i64 (if fhas n F then 0 else 9)]) ∧ w = w' := by
  have c2 := h.c2
  obtain ⟨hk, _⟩ := files_look h.files h0 h1
  cases hh : fhas n F with
  | true =>
    rw [hh] at hk
    rw [if_pos rfl]
    clear hh
    go_enter Try.func20, Try.ntmps20
    go_wp2
    go_ret2
    exact ⟨rfl, rfl⟩
  | false =>
    rw [hh] at hk
    have e : fget n F = [] := by
      unfold fget fhas at *
      rw [List.find?_eq_none.2 (by simpa using hh)]; rfl
    rw [if_neg (by decide), e]
    rw [e] at hk
    clear hh e
    go_enter Try.func20, Try.ntmps20
    go_wp2
    go_ret2
    exact ⟨rfl, rfl⟩

set_option maxHeartbeats 400000 in
theorem sh_drop (n : Int) (h0 : -9223372036854775808 ≤ n) (h1 : n ≤ 9223372036854775807) (w : World) (h : ShelfAt w p m log good F man) :
    Calls Try.prog 28 #[.pointer (some ⟨p, 0, none⟩), .int .i64 n] w fun e w' => (e = .returned (.bool (fhas n F)) ∧ Touch w w' [m]) ∧ ShelfAt w' p m log good (fdel n F) man := by
  have c2 := h.c2
  obtain ⟨hk, _⟩ := files_look h.files h0 h1
  obtain ⟨w1, hr, hf, ht⟩ := files_del h.files h0 h1 0
  go_enter Try.func28, Try.ntmps28
  go_wp2
  go_ret
  exact ⟨⟨rfl, ht⟩, ht.box h.box (by simpa using h.ne), hf, h.ne, h.good_le, h.log_le⟩

/-- What 'Put' says. -/
def putE (n : Int) (b : ByteArray) (F : Fl) : Int := if n < 1 ∨ 1099511627776 < n ∨ fhas n F = true then 1 else if 262144 < b.size ∨ 40 ≤ F.length then 2 else 0

set_option maxHeartbeats 400000 in
theorem sh_put (n : Int) (h0 : -9223372036854775808 ≤ n) (h1 : n ≤ 9223372036854775807) (b : ByteArray) (hb : b.size ≤ maxLen) (hF : F.length ≤ 40) (w : World) (h : ShelfAt w p m log good F man) :
    Calls Try.prog 13 #[.pointer (some ⟨p, 0, none⟩), .int .i64 n, .string b] w fun e w' => (e = .returned (.int .i64 (putE n b F)) ∧ Touch w w' [m]) ∧ ShelfAt w' p m log good (if putE n b F = 0 then fput n b.data.toList F else F) man := by
  have c2 := h.c2
  obtain ⟨hk, _⟩ := files_look h.files h0 h1
  have hlen := files_len h.files 3
  have hb' := hb
  unfold maxLen at hb'
  by_cases e1 : n < 1 ∨ 1099511627776 < n ∨ fhas n F = true
  · have e : putE n b F = 1 := by unfold putE; rw [if_pos e1]
    rw [e, if_neg (by decide)]
    clear e
    by_cases a1 : n < 1
    · go_enter Try.func13, Try.ntmps13
      go_wp2
      go_ret
      exact ⟨⟨rfl, Touch.refl _ _⟩, h⟩
    · by_cases a2 : 1099511627776 < n
      · go_enter Try.func13, Try.ntmps13
        go_wp2
        go_ret
        exact ⟨⟨rfl, Touch.refl _ _⟩, h⟩
      · have a3 : fhas n F = true := by rcases e1 with x | x | x; exact absurd x a1; exact absurd x a2; exact x
        rw [a3] at hk
        clear e1
        go_enter Try.func13, Try.ntmps13
        go_wp2
        go_ret
        exact ⟨⟨rfl, Touch.refl _ _⟩, h⟩
  · have a1 : ¬ n < 1 := fun x => e1 (.inl x)
    have a2 : ¬ 1099511627776 < n := fun x => e1 (.inr (.inl x))
    have a3 : fhas n F = false := by cases hh : fhas n F; rfl; exact absurd (.inr (.inr hh)) e1
    rw [a3] at hk
    by_cases e2 : 262144 < b.size ∨ 40 ≤ F.length
    · have e : putE n b F = 2 := by unfold putE; rw [if_neg e1, if_pos e2]
      rw [e, if_neg (by decide)]
      clear e e1
      by_cases a4 : 262144 < b.size
      · have a4' : 262144 < (b.size : Int) := by omega
        clear e2 a4
        go_enter Try.func13, Try.ntmps13
        go_wp2
        go_ret
        exact ⟨⟨rfl, Touch.refl _ _⟩, h⟩
      · have a4' : ¬ 262144 < (b.size : Int) := by omega
        have a5 : 40 ≤ (F.length : Int) := by rcases e2 with x | x; exact absurd x a4; omega
        clear e2 a4
        go_enter Try.func13, Try.ntmps13
        go_wp2
        go_ret
        exact ⟨⟨rfl, Touch.refl _ _⟩, h⟩
    · have e : putE n b F = 0 := by unfold putE; rw [if_neg e1, if_neg e2]
      rw [e, if_pos rfl]
      have a4' : ¬ 262144 < (b.size : Int) := by omega
      have a5 : ¬ 40 ≤ (F.length : Int) := by omega
      obtain ⟨w1, hr, hf, ht⟩ := files_put h.files h0 h1 hb (by unfold maxLen; omega)
      clear e e1 e2
      go_enter Try.func13, Try.ntmps13
      go_wp2
      go_ret
      exact ⟨⟨rfl, ht⟩, ht.box h.box (by simpa using h.ne), hf, h.ne, h.good_le, h.log_le⟩

set_option maxHeartbeats 1000000 in
theorem sh_cut (n : Int) (w : World) (h : ShelfAt w p m log good F man) :
    Calls Try.prog 43 #[.pointer (some ⟨p, 0, none⟩), .int .i64 n] w fun e w' => (e = .returned (.tuple #[]) ∧ Touch w w' [p]) ∧ ShelfAt w' p m (log.extract 0 (cutN n log.size)) (cutN n log.size) F man := by
  have c0 := h.c0
  have f0 := h.box.free 0
  have hl := h.log_le
  have hc := cutN_le n log.size
  have hcs := Lib.hid (cut_size log _ hc)
  go_enter Try.func43, Try.ntmps43
  go_wp2
  go_region
  change Exit.then _ _ _ _ ((w.setCell ⟨p, 0, none⟩ (.string (log.extract 0 (cutN n log.size)))).drew)
  have hb : BoxAt ((w.setCell ⟨p, 0, none⟩ (.string (log.extract 0 (cutN n log.size)))).drew) p #[.string (log.extract 0 (cutN n log.size)), .int .i64 (good : Int), .map (some m), .string man] 75 := h.box.set 0 _
  have ht : Touch w (((w.setCell ⟨p, 0, none⟩ (.string (log.extract 0 (cutN n log.size)))).setCell ⟨p, 1, none⟩ (.int .i64 (cutN n log.size : Int))).drew) [p] :=
    (((Touch.set (L := [p]) (by simp)).trans (Touch.set (L := [p]) (by simp))).mono (by simp)).drew
  have hs : ShelfAt (((w.setCell ⟨p, 0, none⟩ (.string (log.extract 0 (cutN n log.size)))).setCell ⟨p, 1, none⟩ (.int .i64 (cutN n log.size : Int))).drew) p m (log.extract 0 (cutN n log.size)) (cutN n log.size) F man :=
    h.turn ht ((h.box.set 0 _).set 1 _) (by rw [hcs.out]; exact Nat.le_refl _) (by rw [hcs.out]; omega)
  go_wp2_with (go_at_call 16; go_must (refine (sh_sync0 _ _ (hb.cell 0) (hb.cell 1) (hb.free 1) (by rw [hcs.out]; omega)).mono ?_); rintro e w1 ⟨rfl, rfl⟩)
  all_goals
    go_end0
    exact ⟨⟨rfl, ht⟩, hs⟩

/-- How many bytes a crash leaves. -/
def crashN (n : Int) (good k : Nat) : Nat := good + (max 0 (min n ((k : Int) - good))).toNat
theorem crashN_le (n : Int) {good k : Nat} (h : good ≤ k) : crashN n good k ≤ k := by unfold crashN; omega
theorem crashN_cut (n u : Int) {good k : Nat} (h : good ≤ k) (hu : u = (k : Int) - good) : cutN (good + max 0 (min n u)) k = crashN n good k := by
  subst hu
  unfold crashN cutN
  omega

set_option maxHeartbeats 1000000 in
theorem sh_crash (n : Int) (h0 : -9223372036854775808 ≤ n) (h1 : n ≤ 9223372036854775807) (w : World) (h : ShelfAt w p m log good F man) :
    Calls Try.prog 18 #[.pointer (some ⟨p, 0, none⟩), .int .i64 n] w fun e w' => (e = .returned (.tuple #[]) ∧ Touch w w' [p]) ∧ ShelfAt w' p m (log.extract 0 (crashN n good log.size)) (crashN n good log.size) F man := by
  have c1 := h.c1
  have hl := h.log_le
  have hg := h.good_le
  obtain ⟨u, hu⟩ : ∃ u : Int, u = (log.size : Int) - good := ⟨_, rfl⟩
  have u0 : 0 ≤ u := by omega
  have u1 : u ≤ 262144 := by omega
  have K2 := Lib.hid (crashN_cut n u hg hu)
  have HU := Lib.hid hu
  clear hu
  go_enter Try.func18, Try.ntmps18
  go_wp2
  refine wp_region_tab 11 [(2, fun v _ => v = .pointer (some ⟨p, 0, none⟩)), (7, fun v _ => v = .int .i64 u)] (by kernel_rfl) (by kernel_rfl) (by kernel_rfl) ⟨stays_eq _, stays_eq _, trivial⟩ ?_
  replace c1 := held c1
  refine rg_quiet rfl rfl rfl rfl ?_; intro K hK; go_big_quiet_op; go_big_quiet_on
  refine rg_quiet rfl rfl rfl rfl ?_; intro K hK; go_big_quiet_op; go_big_quiet_on
  refine rg_val [] rfl rfl rfl (by kernel_rfl) (fun w1 hE hf => ?_) ?_
  · go_simp
    exact rg_done hE (Ext.refl w1) rfl
  simp only [Act.put, List.setIfInBounds_toArray, List.set_cons_zero, List.set_cons_succ]
  refine rg_quiet rfl rfl rfl rfl ?_; intro K hK; go_big_quiet_op; go_big_quiet_on
  refine rg_quiet rfl rfl rfl rfl ?_; intro K hK; go_big_quiet_op; go_big_quiet_on
  refine rg_quiet rfl rfl rfl rfl ?_; intro K hK; go_big_quiet_op; go_big_quiet_on
  refine rg_quiet rfl rfl rfl rfl ?_; intro K hK; go_big_quiet_op; go_big_quiet_on
  refine rg_val [] rfl rfl rfl (by kernel_rfl) (fun w1 hE hf => ?_) ?_
  · go_simp
    exact (sh_unsynced w1 (h.ext hE)).mono fun e w' ⟨he, k, hw⟩ => ⟨_, he, rg_done hE (by rw [hw]; exact (Ext.refl w1).drewN k) (by rw [HU.out])⟩
  simp only [Act.put, List.setIfInBounds_toArray, List.set_cons_zero, List.set_cons_succ]
  refine rg_quiet rfl rfl rfl rfl ?_; intro K hK; go_big_quiet_op; go_big_quiet_on
  refine rg_quiet rfl rfl rfl rfl ?_; intro K hK; go_big_quiet_op; go_big_quiet_on
  refine rg_quiet rfl rfl rfl rfl ?_; intro K hK; go_big_quiet_op; go_big_quiet_on
  refine rel_tail rfl rfl fun w1 hE hG => ?_
  clear c1 hG
  go_wp2_with (go_at_call 43; go_must (refine (sh_cut _ _ (h.ext hE)).mono ?_); rintro e w2 ⟨⟨rfl, ht⟩, hs⟩; rw [K2.out] at hs)
  all_goals
    go_end0
    exact ⟨⟨rfl, ((Touch.of_ext hE [p]).trans ht).mono (by simp)⟩, hs⟩

set_option maxHeartbeats 1000000 in
theorem sh_wipe (w : World) (h : ShelfAt w p m log good F man) :
    Calls Try.prog 29 #[.pointer (some ⟨p, 0, none⟩)] w fun e w' => (e = .returned (.tuple #[]) ∧ Touch w w' [p]) ∧ ShelfAt w' p w.heap.size ⟨#[]⟩ 0 [] ⟨#[]⟩ := by
  have hlt := h.box.lt
  have hm := sh_made w
  have hb := h.box.ext (((Ext.refl w).alloc (.map #[] 0)).alloc (.cells #[.string ⟨#[]⟩, .int .i64 0, .map (some w.heap.size), .string ⟨#[]⟩] 75))
  have c0 := hm.c0
  have c1 := hm.c1
  have c2 := hm.c2
  have c3 := hm.c3
  go_enter Try.func29, Try.ntmps29
  go_wp2_with (first | (go_at_call 10; go_must (refine (sh_new _).mono ?_); rintro e w1 ⟨rfl, rfl⟩) | ((guard_target =~ wpList _ _ _ (Oper.mk none (Op.store _ (Operand.tmp 6) (Operand.tmp 5)) _ _ _ _ :: _) _ _); go_must (refine storeBox rfl 75 (.tmp 6) (.tmp 5) rfl (p) _ _ _ (by rfl) (by rfl) (hb) (by kernel_rfl) (by rfl) (by simp [Value.oneCell']) ?_); intro w6 c6 g6))
  go_end0
  have t6 : Touch _ w6 [p] := Touch.of_grown g6 (by simp)
  refine ⟨⟨rfl, ((Touch.of_ext (((Ext.refl w).alloc _).alloc _) [p]).trans t6).mono (by simp)⟩, c6, t6.files hm.files (by simp; omega), by omega, by simp, by simp [ByteArray.size]⟩
end
end Go.Proofs.Ythhhbmeceilkhaa
