/- A view's key, put and split: the plain laws. -/
import Derived.Test.YtolkhjdododdaaaGreatDoorP14
import Derived.Test.YtolkhjdododdaaaGreatDoorP10
import Derived.Test.YtolkhjdododdaaaGreatDoorP7
import Derived.Laws.IdiomStrings
import Derived.Test.YtolkhjdododdaaaGreatDoorP2
import Derived.Test.YtolkhjdododdaaaGreatDoorProg
set_option linter.unusedSimpArgs false
set_option linter.unusedVariables false
namespace Go.Proofs.YtolkhjdododdaaaGreatDoor
open Go Go.RowKit

/-- What was read as a text is the text's bytes. -/
theorem scan_sound : ∀ (n : Nat) (m acc : List UInt8) (k : Nat), m.length ≤ n → (scanT acc m k).2.2 = 0 → ∃ t, (scanT acc m k).1 = acc ++ t ∧ (scanT acc m k).2.1 = (k : Int) + (txt t).length ∧ ∃ r, m = txt t ++ r
 | _, [], _, _, _, h => by simp [scanT] at h
 | _, [_], _, _, _, h => by simp [scanT] at h
 | 0, _ :: _ :: _, _, _, hl, _ => by simp at hl
 | n + 1, b :: c :: r, acc, k, hl, h => by
  rw [scanT] at h ⊢
  by_cases hb : b = 0
  ·rw [if_pos hb] at h ⊢
   by_cases h2 : c = 255
   ·rw [if_pos h2] at h ⊢
    obtain ⟨t, e1, e2, r', e3⟩ := scan_sound n r (acc ++ [0]) (k + 2) (by simp at hl; omega) h
    have et : txt (0 :: t) = 0 :: 255 :: txt t := by simp [txt, esc]
    refine ⟨0 :: t, by rw [e1]; simp, by rw [e2, et]; simp; omega, r', by rw [et, e3, hb, h2]; rfl⟩
   ·rw [if_neg h2] at h ⊢
    by_cases h3 : c = 1
    ·rw [if_pos h3] at h ⊢
     refine ⟨[], by simp, by simp [txt, esc], r, by rw [hb, h3]; rfl⟩
    ·rw [if_neg h3] at h
     simp at h
  ·rw [if_neg hb] at h ⊢
   obtain ⟨t, e1, e2, r', e3⟩ := scan_sound n (c :: r) (acc ++ [b]) (k + 1) (by simp at hl ⊢; omega) h
   have et : txt (b :: t) = b :: txt t := by simp [txt, esc, hb]
   refine ⟨b :: t, by rw [e1]; simp, by rw [e2, et]; simp; omega, r', by rw [et, e3]; rfl⟩

theorem getText_sound (l : List UInt8) (h : (getText l 0).2.2 = 0) : (getText l 0).2.1 = ((txt (getText l 0).1).length : Int) ∧ txt (getText l 0).1 ++ l.drop (txt (getText l 0).1).length = l ∧ (txt (getText l 0).1).length ≤ l.length := by
 have e : getText l 0 = scanT [] l 0 := by
  unfold getText getTextN
  simp
 rw [e] at h ⊢
 obtain ⟨t, e1, e2, r, e3⟩ := scan_sound _ l [] 0 (Nat.le_refl _) h
 rw [e1, e2]
 simp only [List.nil_append]
 refine ⟨by simp, ?_, ?_⟩
 ·rw [e3]; simp
 ·rw [e3]; simp
theorem getText_key (a b : List UInt8) : getText (txt a ++ b) 0 = (a, ((txt a).length : Int), 0) := by
 have := getText_back [] b a
 simpa using this
end Go.Proofs.YtolkhjdododdaaaGreatDoor

/- project.Key, project.Split, clerestorylaw00.View. -/
namespace Go.Proofs.YtolkhjdododdaaaGreatDoor
open Go Go.RowKit
attribute [local go_sem] yields yUpon tupT

theorem conv_bytes (w : World) (s : ByteArray) (hs : s.size ≤ maxLen) : ∃ v w', (convert 9 108 (.string s)).run Tryz.prog w = .ok v w' ∧ BytesIn w' v s.data.toList ∧ Ext w w' := by
 refine ⟨_, _, run_bytes_of_string w 9 108 5 s und_string und_bytes und_u8, ?_, (Ext.refl w).drew.alloc _⟩
 have h1 := grownCap_ge w s.size 0 5
 refine ⟨_, _, rfl, h1, grownCap_le_maxLen w s.size 0 5 hs, nofun, fun j u hj => ⟨w.heap.size, 0, rfl, ?_⟩⟩
 rw [Nat.zero_add, cell_of_row _ w.heap.size j _ _ _ (heap_alloc_new w.drew _)]
 simp only [bcells, List.getElem?_map] at hj
 unfold bytesRow
 rw [Array.getElem?_append_left (by have := (List.getElem?_eq_some_iff.1 (Option.map_eq_some_iff.1 hj).choose_spec.1).1; simpa using this)]
 simpa using hj

def vkey (a b : ByteArray) : ByteArray := str (txt a.data.toList) ++ b
set_option maxRecDepth 100000 in
set_option maxHeartbeats 1000000 in
theorem key_any (a b : ByteArray) (w : World) (ha : a.size ≤ 10000000) (hb : b.size ≤ 10000000) :
  Calls Tryz.prog 95 #[.string a, .string b] w fun e w' => e = .returned (.string (vkey a b)) ∧ Ext w w' := by
 have hl : (txt a.data.toList).length ≤ 2 * a.size + 2 := txt_length_le a.data.toList
 have hm : ¬ 9223372036854775807 < (txt a.data.toList).length + b.size := by omega
 obtain ⟨T, hT⟩ : ∃ T, T = txt a.data.toList := ⟨_, rfl⟩
 have e1 : vkey a b = str T ++ b := by rw [hT]; rfl
 rw [e1]
 rw [← hT] at hm
 have HT := Lib.hid hT
 clear hT hl e1
 go_enter Tryz.func95, Tryz.ntmps95
 go_wp2_with fail
 refine (Text_nil a _ (by omega)).mono ?_
 rw [← HT.out]
 rintro e w1 ⟨v, rfl, hown, hE⟩
 go_wp2_with fail
 rw [run_convert_bytesIn _ 108 9 5 und_bytes und_u8 und_string hown.bytes]
 simp only [Result.andThen]
 rw [Oper.upon_value]
 go_wp2
 go_ret
 exact ⟨rfl, hE⟩

set_option maxRecDepth 100000 in
set_option maxHeartbeats 1000000 in
theorem split_any (k : ByteArray) (w : World) (hk : k.size ≤ 10000000) :
  Calls Tryz.prog 31 #[.string k] w fun e w' => ((getText k.data.toList 0).2.2 ≠ 0 ∧ e = .returned (.tuple #[.string ⟨#[]⟩, .string ⟨#[]⟩, .bool false]) ∨
   (getText k.data.toList 0).2.2 = 0 ∧ e = .returned (.tuple #[.string (str (getText k.data.toList 0).1), .string (k.extract (txt (getText k.data.toList 0).1).length k.size), .bool true])) ∧ Ext w w' := by
 have hS := getText_sound k.data.toList
 obtain ⟨p, hp⟩ : ∃ p, p = getText k.data.toList 0 := ⟨_, rfl⟩
 rw [← hp] at hS ⊢
 obtain ⟨t, i, z⟩ := p
 simp only at hS ⊢
 have HP := Lib.hid hp
 have HS := Lib.hid hS
 clear hp hS
 go_enter Tryz.func31, Tryz.ntmps31
 go_wp2_with fail
 obtain ⟨v, w1, he, hv, hE⟩ := conv_bytes w k (by unfold maxLen; omega)
 rw [he]
 simp only [Result.andThen]
 rw [Oper.upon_value]
 go_wp2_with fail
 refine (getText_any v k.data.toList 0 _ hv (by show k.size ≤ _; omega)).mono ?_
 rw [← HP.out]
 rintro e w2 ⟨rfl, hE2⟩
 replace hE := hE.trans hE2
 clear hE2 hv he
 by_cases hz : z = 0
 ·subst hz
  obtain ⟨hi, hS2, hS3⟩ := HS.out rfl
  have hsz : k.data.toList.length = k.size := rfl
  rw [hsz] at hS3
  clear hS2 hsz HS HP
  subst hi
  go_wp2_with fail
  refine wp_region_tab 7 [] (by kernel_rfl) (by kernel_rfl) (by kernel_rfl) trivial ?_
  refine rg_quiet rfl rfl rfl rfl ?_; intro K hK; go_big_quiet_op; go_big_quiet_on
  refine rg_quiet rfl rfl rfl rfl ?_; intro K hK; go_big_quiet_op; go_big_quiet_on
  refine rg_quiet rfl rfl rfl rfl ?_; intro K hK; go_big_quiet_op; go_big_quiet_on
  refine rg_quiet rfl rfl rfl rfl ?_; intro K hK; go_big_quiet_op; go_big_quiet_on
  refine rg_quiet rfl rfl rfl rfl ?_; intro K hK; go_big_quiet_op; go_big_quiet_on
  refine rg_quiet rfl rfl rfl rfl ?_; intro K hK; go_big_quiet_op; go_big_quiet_on
  refine rg_quiet rfl rfl rfl rfl ?_; intro K hK; go_big_quiet_op; go_big_quiet_on
  refine rel_nil fun w5 hE5 _ => ?_
  go_wp2_with fail
  refine bodyPost_ret (v := .tuple #[.string (str t), .string (k.extract (txt t).length k.size), .bool true]) ?_ rfl ⟨by first | exact rfl | exact .inr ⟨rfl, rfl⟩, hE.trans hE5⟩
  simp [results, Tryz.results31, go_sem]
 ·have h0 : (z == 0) = false := by simpa using hz
  go_wp2_with fail
  refine bodyPost_ret (v := .tuple #[.string ⟨#[]⟩, .string ⟨#[]⟩, .bool false]) ?_ rfl ⟨.inl ⟨hz, rfl⟩, hE⟩
  simp [results, Tryz.results31, go_sem]

end Go.Proofs.YtolkhjdododdaaaGreatDoor

/- clerestorylaw00.View. -/
namespace Go.Proofs.YtolkhjdododdaaaGreatDoor
open Go Go.RowKit
attribute [local go_sem] yields yUpon

/-! ### The table and the view -/
def tabV (s : Value) : Value := .agg #[.string ⟨#[116]⟩, .int .i64 1, .string ⟨#[112]⟩, .int .i64 1, .string ⟨#[107]⟩, .int .i64 2, s]
def viewV (s : Value) : Value := .agg #[.string ⟨#[118]⟩, .int .i64 2, .string ⟨#[116]⟩, .string ⟨#[97]⟩, s]
set_option maxHeartbeats 1000000 in
theorem viewCol_any (n : ByteArray) (w : World) :
  Calls Tryz.prog 22 #[.string n] w fun e w' => e = .returned (.agg #[.string n, .int .i64 1]) ∧ Ext w w' := by
 go_enter Tryz.func22, Tryz.ntmps22
 go_wp2
 refine bodyPost_ret (v := .agg #[.string n, .int .i64 1]) (by simp [results, Tryz.results22, go_sem]) rfl ⟨rfl, (Ext.refl w).alloc _⟩

set_option maxRecDepth 100000 in
set_option maxHeartbeats 2000000 in
theorem view_any (w : World) :
  Calls Tryz.prog 5 #[] w fun e w' => ∃ bs bu : Nat, e = .returned (.tuple #[tabV (.slice (some ⟨bs, 0, none⟩) 4 4), viewV (.slice (some ⟨bu, 0, none⟩) 2 2)]) ∧ SliceIn w' (.slice (some ⟨bu, 0, none⟩) 2 2) 2 [.string ⟨#[98]⟩, .string ⟨#[100]⟩] ∧ Ext w w' := by
 go_enter Tryz.func5, Tryz.ntmps5
 go_wp2_with fail
 refine (viewCol_any _ _).mono ?_
 rintro e w1 ⟨rfl, hE1⟩
 go_wp2_with fail
 refine (viewCol_any _ _).mono ?_
 rintro e w2 ⟨rfl, hE2⟩
 replace hE2 := hE1.trans hE2
 clear hE1
 go_wp2_with fail
 refine (viewCol_any _ _).mono ?_
 rintro e w3 ⟨rfl, hE3⟩
 replace hE3 := hE2.trans hE3
 clear hE2
 go_wp2_with fail
 refine (viewCol_any _ _).mono ?_
 rintro e w4 ⟨rfl, hE4⟩
 replace hE4 := hE3.trans hE4
 clear hE3
 go_wp2_with fail
 refine (viewCol_any _ _).mono ?_
 rintro e w5 ⟨rfl, hE5⟩
 replace hE5 := hE4.trans hE5
 clear hE4
 have b0 : BoxAt w5 w.heap.size #[.string ⟨#[]⟩, .int .i64 0, .string ⟨#[]⟩, .int .i64 0, .string ⟨#[]⟩, .int .i64 0, .slice none 0 0] 28 := ((BoxAt.made w _ _).ext ((Ext.refl _).alloc _)).ext hE5
 have b1 : BoxAt w5 (w.heap.size + 1) #[.string ⟨#[]⟩, .int .i64 0, .string ⟨#[]⟩, .string ⟨#[]⟩, .slice none 0 0] 31 := (by have := BoxAt.made (w.alloc (.cells #[.string ⟨#[]⟩, .int .i64 0, .string ⟨#[]⟩, .int .i64 0, .string ⟨#[]⟩, .int .i64 0, .slice none 0 0] 28)) #[.string ⟨#[]⟩, .int .i64 0, .string ⟨#[]⟩, .string ⟨#[]⟩, .slice none 0 0] 31; rw [Deep.nblk_alloc] at this; exact this : BoxAt _ (w.heap.size + 1) #[.string ⟨#[]⟩, .int .i64 0, .string ⟨#[]⟩, .string ⟨#[]⟩, .slice none 0 0] 31).ext hE5
 go_wp2_with (first
  | ((guard_target =~ wpList _ _ _ (Oper.mk none (Op.store _ (Operand.tmp 0) _) _ _ _ _ :: _) _ _); go_must (refine storeBox rfl 28 (.tmp 0) (.tmp 17) rfl w.heap.size _ _ _ (by rfl) (by rfl) (b0.ext ((((Ext.refl _).alloc _).alloc _).alloc _)) (by kernel_rfl) (by rfl) (by simp [Value.oneCell']) ?_); intro w6 c0 g6)
  | ((guard_target =~ wpList _ _ _ (Oper.mk none (Op.store _ (Operand.tmp 1) _) _ _ _ _ :: _) _ _); go_must (refine storeBox rfl 31 (.tmp 1) (.tmp 19) rfl (w.heap.size + 1) _ _ _ (by rfl) (by rfl) ((b1.ext ((((Ext.refl _).alloc _).alloc _).alloc _)).grown g6 (by simp)) (by kernel_rfl) (by rfl) (by simp [Value.oneCell']) ?_); intro w7 c1 g7))
 have hX : Ext w w7 := (((((((Ext.refl w).alloc _).alloc _).trans hE5).alloc _).alloc _).alloc _ |>.grown g6 (fun k hk => by cases hk; exact Nat.le_refl _)).grown g7 (fun k hk => by cases hk; exact Nat.le_succ _)
 have l1 := b1.lt
 have hS : SliceIn w7 (.slice (some ⟨w5.heap.size + 1 + 1, 0, none⟩) 2 2) 2 [.string ⟨#[98]⟩, .string ⟨#[100]⟩] := by
  refine SliceIn.grown g7 (by omega) (SliceIn.grown g6 (by omega) ?_)
  have := SliceIn.made ((w5.alloc (.cells #[.string ⟨#[97]⟩, .int .i64 1, .string ⟨#[98]⟩, .int .i64 1, .string ⟨#[99]⟩, .int .i64 1, .string ⟨#[100]⟩, .int .i64 1] 25)).alloc (.cells #[.string ⟨#[116]⟩, .int .i64 1, .string ⟨#[112]⟩, .int .i64 1, .string ⟨#[107]⟩, .int .i64 2, .slice (some ⟨w5.heap.size, 0, none⟩) 4 4] 28)) #[.string ⟨#[98]⟩, .string ⟨#[100]⟩] 9 2 (by unfold maxLen; decide)
  rw [Deep.nblk_alloc, Deep.nblk_alloc] at this
  exact this
 have d0 := c0.grown g7 (by simp)
 clear hE5 b0 b1 c0 g6 g7 l1
 have z0 := d0.cell 0
 have z1 := d0.cell 1
 have z2 := d0.cell 2
 have z3 := d0.cell 3
 have z4 := d0.cell 4
 have z5 := d0.cell 5
 have z6 := d0.cell 6
 have y0 := c1.cell 0
 have y1 := c1.cell 1
 have y2 := c1.cell 2
 have y3 := c1.cell 3
 have y4 := c1.cell 4
 simp at z0 z1 z2 z3 z4 z5 z6 y0 y1 y2 y3 y4
 refine bodyPost_ret (v := .tuple #[tabV (.slice (some ⟨w5.heap.size, 0, none⟩) 4 4), viewV (.slice (some ⟨w5.heap.size + 1 + 1, 0, none⟩) 2 2)]) ?_ rfl ⟨_, _, rfl, hS, hX⟩
 simp [results, Tryz.results5, go_sem, Act.put, tabV, viewV, z0, z1, z2, z3, z4, z5, z6, y0, y1, y2, y3, y4]
end Go.Proofs.YtolkhjdododdaaaGreatDoor

/- project.of, project.Mirror where a row is in no partition of the view; the verifier's awake. -/
namespace Go.Proofs.YtolkhjdododdaaaGreatDoor
open Go Go.RowKit
structure Vw where
 name : ByteArray
 id : Int
 table : ByteArray
 on : ByteArray
def vw5 (x : Vw) (u : Value) : Array Value := #[.string x.name, .int .i64 x.id, .string x.table, .string x.on, u]
theorem BoxAt.vw {w : World} {p : Nat} {x : Vw} {u : Value} {T : TypeId} (h : BoxAt w p (vw5 x u) T) : w.cell? ⟨p, 0, none⟩ = some (.string x.name) ∧ w.cell? ⟨p, 1, none⟩ = some (.int .i64 x.id) ∧ w.cell? ⟨p, 2, none⟩ = some (.string x.table) ∧ w.cell? ⟨p, 3, none⟩ = some (.string x.on) ∧ w.cell? ⟨p, 4, none⟩ = some u := ⟨h.cell 0, h.cell 1, h.cell 2, h.cell 3, h.cell 4⟩

attribute [local go_sem] yields yUpon ro8 pa3 vw5 cl4 tabV

set_option maxRecDepth 100000 in
set_option maxHeartbeats 2000000 in
theorem of_none (x : Vw) (u : Value) (pk : ByteArray) (pg : Int) (pu : Value) (r : Ro) (v cv : Value) (w : World) (hin : ColsIn w v r.cols) (hb : bestB (cellOf r.cols x.on) (max r.gone pg) = false) (hk : pk.size ≤ 10000000) (hr : r.key.size ≤ 10000000) :
  Calls Tryz.prog 73 #[.agg #[.string x.name, .int .i64 x.id, .string x.table, .string x.on, u], .agg #[.string pk, .int .i64 pg, pu], (.agg #[.string r.key, .string r.live.val, .bool r.live.dead, .int .i64 r.live.at_, .int .i64 r.live.fin, .int .i64 r.gone, .int .i64 r.shade, v]), cv] w fun e w' =>
   e = .returned (.tuple #[.agg #[.string ⟨#[]⟩, .int .i64 0, .slice none 0 0], .bool false]) ∧ Ext w w' := by
 have hbc : bestC (cellOf r.cols x.on) (max r.gone pg) = zeroCl := by unfold bestC; rw [if_neg (by rw [hb]; decide)]
 have HB := Lib.hid hb
 have HC := Lib.hid hbc
 clear hb hbc
 obtain ⟨a0, a1, a2, a3, hE⟩ := boxes4 w (vw5 x u) (pa3 pk pg pu) (ro8 r v) (pa3 ⟨#[]⟩ 0 (.slice none 0 0)) 31 39 47 39
 have hin' := hin.ext hE
 go_enter Tryz.func73, Tryz.ntmps73
 go_wp2_with fail
 refine (best_any r v pg x.on _ hin').mono ?_
 rw [HB.out, HC.out]
 rintro e w1 ⟨rfl, hE1⟩
 replace a0 := a0.ext hE1
 replace a1 := a1.ext hE1
 replace a2 := a2.ext hE1
 replace a3 := a3.ext hE1
 replace hE := hE.trans hE1
 clear hE1 hin' hin
 have y1 := a1.allocs
 have y2 := a2.allocs
 have y3 := a3.frees
 have y4 := a3.allocs
 go_wp2_with fail
 refine (key_any pk r.key _ hk hr).mono ?_
 rintro e w2 ⟨rfl, hE2⟩
 have b3 := a3.ext ((Ext.refl _).alloc _) |>.ext hE2
 have hX := (hE.alloc _).trans hE2
 clear y1 y2 y3 y4 a0 a1 a2 a3 hE hE2
 go_wp2_with ((guard_target =~ wpList _ _ _ (Oper.mk none (Op.store _ (Operand.tmp 8) (Operand.tmp 34)) _ _ _ _ :: _) _ _); go_must (refine storeBox rfl 39 (.tmp 8) (.tmp 34) rfl (w.heap.size + 1 + 1 + 1) _ _ _ (by rfl) (by rfl) (b3) (by kernel_rfl) (by rfl) (by simp [Value.oneCell']) ?_); intro w3 c3 g3)
 have hX3 := hX.grown g3 (fun k hk => by cases hk; omega)
 have z0 := c3.cell 0
 have z1 := c3.cell 1
 have z2 := c3.cell 2
 simp at z0 z1 z2
 refine bodyPost_ret (v := .tuple #[.agg #[.string ⟨#[]⟩, .int .i64 0, .slice none 0 0], .bool false]) ?_ rfl ⟨rfl, hX3⟩
 simp [results, Tryz.results73, go_sem, Act.put, z0, z1, z2]

set_option maxRecDepth 100000 in
set_option maxHeartbeats 2000000 in
theorem mirror_none (s : Value) (x : Vw) (u : Value) (pk : ByteArray) (pg : Int) (pu : Value) (r : Ro) (v : Value) (w : World) (hin : ColsIn w v r.cols) (hb : bestB (cellOf r.cols x.on) (max r.gone pg) = false) (hk : pk.size ≤ 10000000) (hr : r.key.size ≤ 10000000) :
  Calls Tryz.prog 39 #[tabV s, .agg #[.string x.name, .int .i64 x.id, .string x.table, .string x.on, u], .agg #[.string pk, .int .i64 pg, pu], (.agg #[.string r.key, .string r.live.val, .bool r.live.dead, .int .i64 r.live.at_, .int .i64 r.live.fin, .int .i64 r.gone, .int .i64 r.shade, v])] w fun e w' =>
   e = .returned (.tuple #[.agg #[.string ⟨#[]⟩, .int .i64 0, .slice none 0 0], .bool false]) ∧ Ext w w' := by
 have HB := Lib.hid hb
 clear hb
 obtain ⟨a0, a1, a2, a3, a4, hE⟩ := boxes5 w #[.string ⟨#[116]⟩, .int .i64 1, .string ⟨#[112]⟩, .int .i64 1, .string ⟨#[107]⟩, .int .i64 2, s] (vw5 x u) (pa3 pk pg pu) (ro8 r v) (pa3 ⟨#[]⟩ 0 (.slice none 0 0)) 28 31 39 47 39
 have hin' := hin.ext hE
 go_enter Tryz.func39, Tryz.ntmps39
 go_wp2_with fail
 refine (of_none x u pk pg pu r v v _ hin' HB.out hk hr).mono ?_
 rintro e w1 ⟨rfl, hE1⟩
 have b3 := (a4.ext hE1).ext ((Ext.refl w1).alloc (.cells (pa3 ⟨#[]⟩ 0 (.slice none 0 0)) 39))
 replace hE := hE.trans hE1
 clear hE1 hin' hin a0 a1 a2 a3 a4
 go_wp2_with ((guard_target =~ wpList _ _ _ (Oper.mk none (Op.store _ (Operand.tmp 8) (Operand.tmp 23)) _ _ _ _ :: _) _ _); go_must (refine storeBox rfl 39 (.tmp 8) (.tmp 23) rfl (w.heap.size + 1 + 1 + 1 + 1) _ _ _ (by rfl) (by rfl) (b3) (by kernel_rfl) (by rfl) (by simp [Value.oneCell']) ?_); intro w3 c3 g3)
 have hX3 := (hE.alloc _).grown g3 (fun k hk => by cases hk; omega)
 have z0 := c3.cell 0
 have z1 := c3.cell 1
 have z2 := c3.cell 2
 simp at z0 z1 z2
 refine bodyPost_ret (v := .tuple #[.agg #[.string ⟨#[]⟩, .int .i64 0, .slice none 0 0], .bool false]) ?_ rfl ⟨rfl, hX3⟩
 simp [results, Tryz.results39, go_sem, Act.put, z0, z1, z2]
end Go.Proofs.YtolkhjdododdaaaGreatDoor
