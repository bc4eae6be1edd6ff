/- project.of, project.Mirror where a row is in no partition of the view; the verifier's awake. -/
import Derived.Test.YtbjpfhkdlljgdaaProj
import Derived.Test.YtbjpfhkdlljgdaaView
namespace Go.Proofs.Ytbjpfhkdlljgdaa
open Go Go.RowKit
structure Vw where
  name : ByteArray
  id : Int
  table : ByteArray
  on : ByteArray
def vw5 (x : Vw) (u : Value) : Array Value := #[.string x.name, .int .i64 x.id, .string x.table, .string x.on, u]
theorem BoxAt.vw {w : World} {p : Nat} {x : Vw} {u : Value} {T : TypeId} (h : BoxAt w p (vw5 x u) T) : w.cell? ⟨p, 0, none⟩ = some (.string x.name) ∧ w.cell? ⟨p, 1, none⟩ = some (.int .i64 x.id) ∧ w.cell? ⟨p, 2, none⟩ = some (.string x.table) ∧ w.cell? ⟨p, 3, none⟩ = some (.string x.on) ∧ w.cell? ⟨p, 4, none⟩ = some u := ⟨h.cell 0, h.cell 1, h.cell 2, h.cell 3, h.cell 4⟩

attribute [local go_sem] yields yUpon ro8 pa3 vw5 cl4 tabV

set_option maxRecDepth 100000 in
set_option maxHeartbeats 2000000 in
theorem of_none (x : Vw) (u : Value) (pk : ByteArray) (pg : Int) (pu : Value) (r : Ro) (v cv : Value) (w : World) (hin : ColsIn w v r.cols) (hb : bestB (cellOf r.cols x.on) (max r.gone pg) = false) (hk : pk.size ≤ 10000000) (hr : r.key.size ≤ 10000000) :
    Calls Try.prog 67 #[.agg #[.string x.name, .int .i64 x.id, .string x.table, .string x.on, u], .agg #[.string pk, .int .i64 pg, pu], (.agg #[.string r.key, .string r.live.val, .bool r.live.dead, .int .i64 r.live.at_, .int .i64 r.live.fin, .int .i64 r.gone, .int .i64 r.shade, v]), cv] w fun e w' =>
      e = .returned (.tuple #[.agg #[.string ⟨#[]⟩, .int .i64 0, .slice none 0 0], .bool false]) ∧ Ext w w' := by
  have hbc : bestC (cellOf r.cols x.on) (max r.gone pg) = zeroCl := by unfold bestC; rw [if_neg (by rw [hb]; decide)]
  have HB := Lib.hid hb
  have HC := Lib.hid hbc
  clear hb hbc
  obtain ⟨a0, a1, a2, a3, hE⟩ := boxes4 w (vw5 x u) (pa3 pk pg pu) (ro8 r v) (pa3 ⟨#[]⟩ 0 (.slice none 0 0)) 46 26 34 26
  have hin' := hin.ext hE
  go_enter Try.func67, Try.ntmps67
  go_wp2_with fail
  refine (best_any r v pg x.on _ hin').mono ?_
  rw [HB.out, HC.out]
  rintro e w1 ⟨rfl, hE1⟩
  replace a0 := a0.ext hE1
  replace a1 := a1.ext hE1
  replace a2 := a2.ext hE1
  replace a3 := a3.ext hE1
  replace hE := hE.trans hE1
  clear hE1 hin' hin
  have y1 := a1.allocs
  have y2 := a2.allocs
  have y3 := a3.frees
  have y4 := a3.allocs
  go_wp2_with fail
  refine (key_any pk r.key _ hk hr).mono ?_
  rintro e w2 ⟨rfl, hE2⟩
  have b3 := a3.ext ((Ext.refl _).alloc _) |>.ext hE2
  have hX := (hE.alloc _).trans hE2
  clear y1 y2 y3 y4 a0 a1 a2 a3 hE hE2
  go_wp2_with ((guard_target =~ wpList _ _ _ (Oper.mk none (Op.store _ (Operand.tmp 8) _) _ _ _ _ :: _) _ _); go_must (refine storeBox rfl 26 (.tmp 8) (.tmp 34) rfl (w.heap.size + 1 + 1 + 1) _ _ _ (by rfl) (by rfl) (b3) (by kernel_rfl) (by rfl) (by simp [Value.oneCell']) ?_); intro w3 c3 g3)
  have hX3 := hX.grown g3 (fun k hk => by cases hk; omega)
  have z0 := c3.cell 0
  have z1 := c3.cell 1
  have z2 := c3.cell 2
  simp at z0 z1 z2
  refine bodyPost_ret (v := .tuple #[.agg #[.string ⟨#[]⟩, .int .i64 0, .slice none 0 0], .bool false]) ?_ rfl ⟨rfl, hX3⟩
  simp [results, Try.results67, go_sem, Act.put, z0, z1, z2]

set_option maxRecDepth 100000 in
set_option maxHeartbeats 2000000 in
theorem mirror_none (s : Value) (x : Vw) (u : Value) (pk : ByteArray) (pg : Int) (pu : Value) (r : Ro) (v : Value) (w : World) (hin : ColsIn w v r.cols) (hb : bestB (cellOf r.cols x.on) (max r.gone pg) = false) (hk : pk.size ≤ 10000000) (hr : r.key.size ≤ 10000000) :
    Calls Try.prog 40 #[tabV s, .agg #[.string x.name, .int .i64 x.id, .string x.table, .string x.on, u], .agg #[.string pk, .int .i64 pg, pu], (.agg #[.string r.key, .string r.live.val, .bool r.live.dead, .int .i64 r.live.at_, .int .i64 r.live.fin, .int .i64 r.gone, .int .i64 r.shade, v])] w fun e w' =>
      e = .returned (.tuple #[.agg #[.string ⟨#[]⟩, .int .i64 0, .slice none 0 0], .bool false]) ∧ Ext w w' := by
  have HB := Lib.hid hb
  clear hb
  obtain ⟨a0, a1, a2, a3, a4, hE⟩ := boxes5 w #[.string ⟨#[116]⟩, .int .i64 1, .string ⟨#[112]⟩, .int .i64 1, .string ⟨#[107]⟩, .int .i64 2, s] (vw5 x u) (pa3 pk pg pu) (ro8 r v) (pa3 ⟨#[]⟩ 0 (.slice none 0 0)) 43 46 26 34 26
  have hin' := hin.ext hE
  go_enter Try.func40, Try.ntmps40
  go_wp2_with fail
  refine (of_none x u pk pg pu r v v _ hin' HB.out hk hr).mono ?_
  rintro e w1 ⟨rfl, hE1⟩
  have b3 := (a4.ext hE1).ext ((Ext.refl w1).alloc (.cells (pa3 ⟨#[]⟩ 0 (.slice none 0 0)) 26))
  replace hE := hE.trans hE1
  clear hE1 hin' hin a0 a1 a2 a3 a4
  go_wp2_with ((guard_target =~ wpList _ _ _ (Oper.mk none (Op.store _ (Operand.tmp 8) _) _ _ _ _ :: _) _ _); go_must (refine storeBox rfl 26 (.tmp 8) (.tmp 23) rfl (w.heap.size + 1 + 1 + 1 + 1) _ _ _ (by rfl) (by rfl) (b3) (by kernel_rfl) (by rfl) (by simp [Value.oneCell']) ?_); intro w3 c3 g3)
  have hX3 := (hE.alloc _).grown g3 (fun k hk => by cases hk; omega)
  have z0 := c3.cell 0
  have z1 := c3.cell 1
  have z2 := c3.cell 2
  simp at z0 z1 z2
  refine bodyPost_ret (v := .tuple #[.agg #[.string ⟨#[]⟩, .int .i64 0, .slice none 0 0], .bool false]) ?_ rfl ⟨rfl, hX3⟩
  simp [results, Try.results40, go_sem, Act.put, z0, z1, z2]
end Go.Proofs.Ytbjpfhkdlljgdaa
