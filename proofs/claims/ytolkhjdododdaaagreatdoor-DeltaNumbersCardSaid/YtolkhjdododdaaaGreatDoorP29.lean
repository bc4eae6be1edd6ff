/- The walk over the reference 02: GetText. -/
import Derived.Test.YtolkhjdododdaaaGreatDoorP14
import Derived.Test.YtolkhjdododdaaaGreatDoorP27
import Derived.Test.YtolkhjdododdaaaGreatDoorP15
import Derived.Test.YtolkhjdododdaaaGreatDoorP18
import Derived.Test.YtolkhjdododdaaaGreatDoorP2
import Derived.Deep.Heap
import Derived.Laws.Entries
import Derived.Test.YtolkhjdododdaaaGreatDoorP23
import Derived.Test.YtolkhjdododdaaaGreatDoorP25
import Derived.Test.YtolkhjdododdaaaGreatDoorP26
import Derived.Test.YtolkhjdododdaaaGreatDoorP28
import Derived.Test.YtolkhjdododdaaaGreatDoorP16
set_option linter.unusedSimpArgs false
set_option linter.unusedVariables false
namespace Go.Proofs.YtolkhjdododdaaaGreatDoor
open Go Go.RowKit
attribute [local go_sem] yields yUpon

set_option maxHeartbeats 2000000 in
theorem rgetText_any (s : ByteArray) (at_ : Int) (w : World) (hl : s.size ≤ 140737488000000) :
  Calls Tryz.prog 75 #[.string s, .int .i64 at_] w fun e w' => e = .returned (tupT (getText s.data.toList at_)) ∧ w = w' := by
 obtain ⟨l, hls⟩ : ∃ l, l = s.data.toList := ⟨_, rfl⟩
 have hlen : l.length = s.size := by rw [hls]; rfl
 have hget : ∀ (k : Nat) (h : k < s.size), l[k]'(by omega) = s[k]'h := by subst hls; intro k h; rfl
 rw [← hls]
 have HL := Lib.hid hls
 have HG := Lib.hid hget
 clear hls hget
 by_cases h0 : at_ < 0
 ·have d0 : decide (at_ < 0) = true := by simpa using h0
  go_enter Tryz.func75, Tryz.ntmps75
  go_wp2
  go_ret3
  refine ⟨tupT_ret (t := []) ?_ (by rfl), rfl⟩
  unfold getText
  rw [if_pos h0]
 ·have d0 : decide (at_ < 0) = false := by simpa using h0
  obtain ⟨i, rfl⟩ : ∃ i : Nat, at_ = i := ⟨at_.toNat, by omega⟩
  have EN : Hid (getText l (i : Int) = getTextN l i) := by unfold getText; rw [if_neg h0]; rfl
  by_cases h1 : s.size < i
  ·have d1 : decide ((s.size : Int) < (i : Int)) = true := by simpa using h1
   go_enter Tryz.func75, Tryz.ntmps75
   go_wp2
   go_ret3
   refine ⟨tupT_ret (t := []) ?_ (by rfl), rfl⟩
   rw [EN.out]
   unfold getTextN
   rw [if_pos (by omega)]
  ·have d1 : decide ((s.size : Int) < (i : Int)) = false := by simpa using h1
   have EN2 : Hid (getText l (i : Int) = scanT [] (l.drop i) i) := EN.out.trans (by unfold getTextN; rw [if_neg (by omega)])
   clear EN
   go_enter Tryz.func75, Tryz.ntmps75
   go_wp2
   go_loop [7, 8] (fun t n => ∃ (k : Nat) (acc : List UInt8), k ≤ s.size ∧ n = .int .i64 k ∧ t = .string (str acc) ∧ acc.length ≤ k ∧ Hid (getText l (i : Int) = scanT acc (l.drop k) k)) (fun _ n => s.size - (intOf n).toNat)
   case atStart => exact ⟨i, [], by omega, rfl, rfl, Nat.zero_le _, EN2⟩
   case round =>
    obtain ⟨k, acc, hk, rfl, rfl, hacc, hS⟩ := hrel
    have q1 : ¬ 9223372036854775807 < acc.length + (min (k + 1) s.size - k) := by omega
    have q2 : ¬ 9223372036854775807 < acc.length + 1 := by omega
    by_cases hlt : k < s.size
    ·by_cases hz : s[k] = 0
     ·have z0 : ((s[k].toNat : Int) == 0) = true := byte_eq (c := 0) hz
      have hz' : l[k]'(by omega) = 0 := (HG.out k hlt).trans hz
      by_cases he : k + 1 = s.size
      ·have e0 : decide ((s.size : Int) ≤ (k : Int) + 1) = true := by simp; omega
       have HR := Lib.hid (hS.out.trans (scan_short (by omega) (by omega)))
       clear hz hS he
       go_wp2
       go_ret3
       refine ⟨tupT_ret (t := []) ?_ (by rfl), rfl⟩
       exact HR.out
      ·have e0 : decide ((s.size : Int) ≤ (k : Int) + 1) = false := by simp; omega
       have h2 : k + 1 < s.size := by omega
       have HT := Lib.hid (hS.out.trans (scan_two (by omega) hz'))
       have hg1 := HG.out (k + 1) h2
       clear hz hS
       by_cases hone : s[k + 1] = 1
       ·have y1 : ((s[k + 1].toNat : Int) == 1) = true := byte_eq (c := 1) hone
        have h255 : ¬ s[k + 1] = 255 := by rw [hone]; decide
        have HR := Lib.hid (HT.out.trans (by rw [hg1, if_neg h255, if_pos hone]))
        clear h255 hone HT hg1
        go_wp2
        go_ret3
        refine ⟨tupT_ret (t := acc) ?_ (by rfl), rfl⟩
        rw [HR.out]
        simp
        try omega
       ·have y1 : ((s[k + 1].toNat : Int) == 1) = false := byte_ne (c := 1) hone
        by_cases h255 : s[k + 1] = 255
        ·have y0 : ((s[k + 1].toNat : Int) == 255) = true := byte_eq (c := 255) h255
         have HS2 : Hid (getText l (i : Int) = scanT (acc ++ [0]) (l.drop (k + 2)) (k + 2)) := HT.out.trans (by rw [hg1, if_pos h255])
         clear h255 hone HT hg1
         go_wp2
         go_round
         case rel => exact ⟨k + 2, acc ++ [0], by omega, by go_num, rfl, by simp; omega, HS2⟩
         case measure => simp [intOf] <;> omega
        ·have y0 : ((s[k + 1].toNat : Int) == 255) = false := byte_ne (c := 255) h255
         have HR := Lib.hid (HT.out.trans (by rw [hg1, if_neg h255, if_neg hone]))
         clear h255 hone HT hg1
         go_wp2
         go_ret3
         refine ⟨tupT_ret (t := []) ?_ (by rfl), rfl⟩
         exact HR.out
     ·have z0 : ((s[k].toNat : Int) == 0) = false := byte_ne (c := 0) hz
      have hz' : l[k]'(by omega) ≠ 0 := by rw [HG.out k hlt]; exact hz
      have HS2 : Hid (getText l (i : Int) = scanT (acc ++ [l[k]'(by omega)]) (l.drop (k + 1)) (k + 1)) := hS.out.trans (scan_byte (by omega) hz')
      have HSn : Hid (str acc ++ s.extract k (k + 1) = str (acc ++ [l[k]'(by omega)])) := by rw [str_snoc acc s k hlt]; congr 3; exact (HG.out k hlt).symm
      clear hz hz' hS
      go_wp2
      go_round
      case rel => exact ⟨k + 1, acc ++ [l[k]'(by omega)], by omega, by go_num, by rw [← HSn.out], by simp; omega, HS2⟩
      case measure => simp [intOf] <;> omega
    ·go_wp2
     go_ret3
     refine ⟨tupT_ret (t := []) ?_ (by rfl), rfl⟩
     rw [hS.out, scan_end (by omega)]

end Go.Proofs.YtolkhjdododdaaaGreatDoor

/- The reference's Split; clerestorylaw18's few. (what a smaller cut has) -/
namespace Go.Proofs.YtolkhjdododdaaaGreatDoor
open Go Go.RowKit
attribute [local go_sem] yields yUpon tupT

set_option maxRecDepth 100000 in
set_option maxHeartbeats 1000000 in
theorem split18_any (k : ByteArray) (w : World) (hk : k.size ≤ 10000000) :
  Calls Tryz.prog 41 #[.string k] w fun e w' => ((getText k.data.toList 0).2.2 ≠ 0 ∧ e = .returned (.tuple #[.string ⟨#[]⟩, .string ⟨#[]⟩, .bool false]) ∨
   (getText k.data.toList 0).2.2 = 0 ∧ e = .returned (.tuple #[.string (str (getText k.data.toList 0).1), .string (k.extract (txt (getText k.data.toList 0).1).length k.size), .bool true])) ∧ Ext w w' := by
 have hS := getText_sound k.data.toList
 obtain ⟨p, hp⟩ : ∃ p, p = getText k.data.toList 0 := ⟨_, rfl⟩
 rw [← hp] at hS ⊢
 obtain ⟨t, i, z⟩ := p
 simp only at hS ⊢
 have HP := Lib.hid hp
 have HS := Lib.hid hS
 clear hp hS
 go_enter Tryz.func41, Tryz.ntmps41
 go_wp2_with fail
 refine (rgetText_any k 0 _ (by omega)).mono ?_
 rw [← HP.out]
 rintro e w2 ⟨rfl, rfl⟩
 by_cases hz : z = 0
 ·subst hz
  obtain ⟨hi, hS2, hS3⟩ := HS.out rfl
  have hsz : k.data.toList.length = k.size := rfl
  rw [hsz] at hS3
  clear hS2 hsz HS HP
  subst hi
  go_wp2_with fail
  go_quiet (fail)
  go_wp2_with fail
  refine bodyPost_ret (v := .tuple #[.string (str t), .string (k.extract (txt t).length k.size), .bool true]) ?_ rfl ⟨by first | exact rfl | exact .inr ⟨rfl, rfl⟩, (Ext.refl _).drewN nq⟩
  simp [results, Tryz.results41, go_sem]
 ·have h0 : (z == 0) = false := by simpa using hz
  go_wp2_with fail
  refine bodyPost_ret (v := .tuple #[.string ⟨#[]⟩, .string ⟨#[]⟩, .bool false]) ?_ rfl ⟨.inl ⟨hz, rfl⟩, Ext.refl _⟩
  simp [results, Tryz.results41, go_sem]
end Go.Proofs.YtolkhjdododdaaaGreatDoor

/- As XRegionE, where some operations make variables: in whatever order, these are apart. -/
namespace Go.Proofs.YtolkhjdododdaaaGreatDoor
open Go

/-- The slots of those variables hold values that are apart. -/
def Apart (al : List (Nat × Tmp)) (a : Act) : Prop := ∀ p ∈ al, ∀ q ∈ al, p ≠ q → a.tmps.getD p.2 undef ≠ a.tmps.getD q.2 undef
/-- What is to be shown where they are. -/
def Q1 (al : List (Nat × Tmp)) (Q : Exit → Act → World → Prop) : Exit → Act → World → Prop
 | .normal, a, w => Apart al a → Q .normal a w
 | c, a, w => Q c a w
theorem put_other {a : Act} {e : Tmp} {v : Value} {o : Option Tmp} (h : o ≠ some e) : (a.put o v).tmps.getD e undef = a.tmps.getD e undef := by
 cases o with
 | none => rfl
 | some d =>
  have hne : d ≠ e := fun he => h (by rw [he])
  show (a.tmps.setIfInBounds d v).getD e undef = _
  simp [Array.getElem?_setIfInBounds_ne hne]
theorem put_size {a : Act} {o : Option Tmp} {v : Value} : (a.put o v).tmps.size = a.tmps.size := by
 cases o with
 | none => rfl
 | some d => show (a.tmps.setIfInBounds d v).size = _; simp
section
variable (P : Program) (ops : Array Oper) (al : List (Nat × Tmp))
/-- Each of them makes a variable, no other operation writes its slot. -/
structure AlOK : Prop where
 op : ∀ p ∈ al, ∃ o cs, ops[p.1]? = some o ∧ o.dst = some p.2 ∧ o.guard = none ∧ ∀ (a : Act) (w : World), (execOp a.eval o).run P w = .ok (.value (.pointer (some ⟨w.heap.size, 0, none⟩))) (w.alloc cs)
 own : ∀ p ∈ al, ∀ i o, ops[i]? = some o → o.dst = some p.2 → i = p.1
structure JD (listed : Array Bool) (a : Act) (w : World) : Prop where
 at_ : ∀ p ∈ al, listed.getD p.1 false = true → ∃ b, a.tmps.getD p.2 undef = .pointer (some ⟨b, 0, none⟩) ∧ b < w.heap.size
 ne : ∀ p ∈ al, ∀ q ∈ al, p ≠ q → listed.getD p.1 false = true → listed.getD q.1 false = true → a.tmps.getD p.2 undef ≠ a.tmps.getD q.2 undef
 size : ∀ p ∈ al, p.2 < a.tmps.size
end
section
variable {P : Program} {ops : Array Oper} {al : List (Nat × Tmp)}
theorem getD_set_at {listed : Array Bool} {i j : Nat} (h : (listed.setIfInBounds i true).getD j false = true) : j = i ∨ listed.getD j false = true := by
 by_cases e : i = j
 ·exact .inl e.symm
 ·rw [getD_set_ne false e] at h
  exact .inr h
/-- Another operation. -/
theorem JD.other {listed : Array Bool} {a : Act} {w w' : World} {i : Nat} {o : Oper} {v : Value} (hA : AlOK P ops al) (hi : ops[i]? = some o) (hn : ∀ p ∈ al, p.1 ≠ i) (hs : w.heap.size ≤ w'.heap.size) (h : JD al listed a w) : JD al (listed.setIfInBounds i true) (a.put o.dst v) w' := by
 have hd : ∀ p ∈ al, o.dst ≠ some p.2 := fun p hp e => hn p hp (hA.own p hp i o hi e).symm
 have hl : ∀ p ∈ al, (listed.setIfInBounds i true).getD p.1 false = true → listed.getD p.1 false = true := fun p hp hl => (getD_set_at hl).resolve_left (hn p hp)
 refine ⟨fun p hp hp' => ?_, fun p hp q hq hne hp' hq' => ?_, fun p hp => by rw [put_size]; exact h.size p hp⟩
 ·obtain ⟨b, e, hb⟩ := h.at_ p hp (hl p hp hp')
  exact ⟨b, by rw [put_other (hd p hp)]; exact e, by omega⟩
 ·rw [put_other (hd p hp), put_other (hd q hq)]
  exact h.ne p hp q hq hne (hl p hp hp') (hl q hq hq')
/-- Each operation waits for earlier ones alone. -/
def backB (ops : Array Oper) : Bool := (List.range ops.size).all fun j => match ops[j]? with
 | some o => o.after.all fun e => !Region.binds .any e || decide (e.on < j)
 | none => true
end
section
variable {P : Program} {ops : Array Oper} {al : List (Nat × Tmp)} {C : World → Prop} {E : Nat → World → World → Prop} {T : Nat → Option (List Value → Value → World → Prop)} {n : Nat} {Q : Exit → Act → World → Prop}
theorem JD.apart {listed : Array Bool} {a : Act} {w : World} (h : JD al listed a w) (hl : ∀ p ∈ al, listed.getD p.1 false = true) : Apart al a := fun p hp q hq hne => h.ne p hp q hq hne (hl p hp) (hl q hq)
def allocB : Op → Option TypeId
 | .alloc t => some t
 | _ => none
theorem allocB_some {o : Op} {t : TypeId} (h : allocB o = some t) : o = .alloc t := by
 cases o <;> simp [allocB] at h
 rw [h]
/-- Each of them makes a variable of this type; no other operation writes its slot. -/
def alB (ops : Array Oper) (T : TypeId) (al : List (Nat × Tmp)) : Bool :=
 (al.all fun p => match ops[p.1]? with
  | some o => allocB o.op == some T && o.dst == some p.2 && o.guard.isNone
  | none => false) && al.all fun p => (List.range ops.size).all fun i => match ops[i]? with
  | some o => !(o.dst == some p.2) || i == p.1
  | none => true
theorem AlOK.of {T : TypeId} {i : TypeInfo} {z : Value} (hi : P.info? T = some i) (hz : i.zero = some z) (h : alB ops T al = true) : AlOK P ops al := by
 unfold alB at h
 rw [Bool.and_eq_true] at h
 obtain ⟨h1, h2⟩ := h
 refine ⟨fun p hp => ?_, fun p hp j o hj hd => ?_⟩
 ·have h := List.all_eq_true.1 h1 p hp
  cases ho : ops[p.1]? with
  | none => rw [ho] at h; cases h
  | some o =>
   rw [ho] at h
   simp only [Bool.and_eq_true, beq_iff_eq, Option.isNone_iff_eq_none] at h
   obtain ⟨⟨ha, hd⟩, hg⟩ := h
   refine ⟨o, .cells z.cells T, rfl, hd, hg, fun a w => ?_⟩
   unfold execOp
   rw [allocB_some ha]
   simp [Instr.alloc, zeroValue, typeInfo, hi, hz, newVar, newRow, go_sem]
 ·have h := List.all_eq_true.1 h2 p hp
  have hlt : j < ops.size := (Array.getElem?_eq_some_iff.1 hj).1
  have h := List.all_eq_true.1 h j (List.mem_range.2 hlt)
  rw [hj] at h
  simp only [hd, beq_self_eq_true, Bool.not_true, Bool.false_or, beq_iff_eq] at h
  exact h
end
end Go.Proofs.YtolkhjdododdaaaGreatDoor

/- clerestoryref19.Orphan. -/
namespace Go.Proofs.YtolkhjdododdaaaGreatDoor
open Go Go.RowKit
attribute [local go_sem] yields yUpon ro8 pa3 vw5 tabV

theorem split18_key (a b : ByteArray) (w : World) (ha : a.size ≤ 1000000) (hb : b.size ≤ 1000000) :
  Calls Tryz.prog 41 #[.string (vkey a b)] w fun e w' => e = .returned (.tuple #[.string a, .string b, .bool true]) ∧ Ext w w' := by
 have hl : (txt a.data.toList).length ≤ 2 * a.size + 2 := txt_length_le a.data.toList
 refine (split18_any (vkey a b) w (by rw [vkey_size]; omega)).mono ?_
 rw [vkey_list, getText_key, vkey_rest]
 rintro e w' ⟨h, hE⟩
 rcases h with ⟨h, _⟩ | ⟨_, h⟩
 ·exact absurd rfl h
 ·exact ⟨h, hE⟩
theorem cmp_vk (pk a b : ByteArray) : cmpB (vkey pk a).data.toList (vkey pk b).data.toList = cmpB a.data.toList b.data.toList := by
 rw [vkey_list, vkey_list, cmpB_less, cmpB_less, less_txt, less_txt, if_pos rfl, if_pos rfl]
theorem bytes_of {a b : ByteArray} (h : a.toList = b.toList) : a = b := by
 rw [ByteArray.toList_eq, ByteArray.toList_eq] at h
 exact ByteArray.ext (Array.toList_inj.1 h)
/-- What stays true from round to round: w is where the function began, w0 where the loop did. -/
structure O19 (w w0 : World) (q : Nat) (k : ByteArray) (vl : Value) (L : List (Ro × Value)) (y : World) : Prop where
 ext : Ext w y
 keep : ∀ p cs T, BoxAt w0 p cs T → p ≠ q → BoxAt y p cs T
 box : BoxAt y q (pa3 k 0 vl) 39
 rows : RowsT y vl L
 base : w0.heap.size ≤ y.heap.size
section
variable {w w0 : World} {q : Nat} {k : ByteArray} {vl : Value} {L : List (Ro × Value)} {y z : World}
theorem O19.ext' (hE : Ext y z) (h : O19 w w0 q k vl L y) : O19 w w0 q k vl L z :=
 ⟨h.ext.trans hE, fun p cs T h1 h2 => (h.keep p cs T h1 h2).ext hE, h.box.ext hE, h.rows.ext hE, Nat.le_trans h.base hE.le⟩
theorem O19.tin {cs : Array Value} (h : O19 w w0 q k vl L y) (hx : BoxAt w0 q cs 39) {e : TypeId} (he : e ≠ 39) {v : Value} {n : Nat} {xs : List Value} (ht : TIn w0 e v n xs) : TIn y e v n xs :=
 ht.imp_right fun ⟨b, c, Z, e1, hb, h1⟩ => ⟨b, c, Z, e1, h.keep _ _ _ hb (box_ne hb hx he), h1⟩
theorem O19.rowsT {cs : Array Value} (h : O19 w w0 q k vl L y) (hx : BoxAt w0 q cs 39) {v : Value} {qs : List (Ro × Value)} (hr : RowsT w0 v qs) : RowsT y v qs :=
 ⟨h.tin hx (by decide) hr.tin, fun p hp => h.tin hx (by decide) (hr.typed p hp)⟩
theorem O19.put {v' : Value} {L' : List (Ro × Value)} (h : O19 w w0 q k vl L y) (hq : w.heap.size ≤ q) (hr : RowsT y v' L') : O19 w w0 q k v' L' (y.setCell ⟨q, 2, none⟩ v') :=
 ⟨h.ext.setCell hq _, fun p cs T h1 h2 => (h.keep p cs T h1 h2).other h2 2 _, h.box.set 2 v', hr.set 2 v' h.box (by decide) (by decide), by rw [Deep.nblk_setCell]; exact h.base⟩
end
/-- A list of rows with one more. -/
structure SP (L : List (Ro × Value)) (r : Ro) (n : Nat) (v : Value) (y : World) : Prop where
 ex : ∃ a c v', v = .slice a n c ∧ RowsT y v (L ++ [(r, v')])
theorem SP.ext {L : List (Ro × Value)} {r : Ro} {n : Nat} {v : Value} {y z : World} (hE : Ext y z) (h : SP L r n v y) : SP L r n v z := by
 obtain ⟨a, c, v', e, h1⟩ := h.ex
 exact ⟨a, c, v', e, h1.ext hE⟩
theorem SP.of {L : List (Ro × Value)} {r : Ro} {n : Nat} {v v' : Value} {y : World} (hn : n = L.length) (h : RowsT y v (L ++ [(r, v')])) : SP L r (n + 1) v y := by
 obtain ⟨a, c, e⟩ := h.shape
 rw [List.length_append] at e
 subst hn
 exact ⟨a, c, v', e, h⟩
set_option maxRecDepth 100000 in
set_option maxHeartbeats 16000000 in
theorem orph19_any (x : Vw) (u : Value) (ns : List ByteArray) (pk : ByteArray) (pg : Int) (pu : Value) (ps : List (Ro × Value)) (xk : ByteArray) (xg : Int) (xu : Value) (qs : List (Ro × Value)) (cof : Ro → ByteArray) (w : World)
  (hp : RowsIn w pu ps) (hq : RowsIn w xu qs) (hns : StrsIn w u ns) (hcp : ∀ p ∈ ps, p.1.cols.length ≤ 900) (hcq : ∀ p ∈ qs, p.1.cols.length ≤ 900) (hlp : ps.length ≤ 1000) (hlq : qs.length ≤ 19) (hpg : 0 ≤ pg)
  (hpk : pk.size ≤ 1000000) (hkey : ∀ p ∈ qs, p.1.key = vkey pk (cof p.1) ∧ (cof p.1).size ≤ 1000000 ∧ (vkey pk (cof p.1)).size ≤ 400)
  (hord : (qs.map (·.1)).Pairwise fun r s => cmpB (cof r).data.toList (cof s).data.toList < 0)
  (hall : ∀ l, l = foldG keyR foldRo (ps.map (·.1)) (back19 x xk xg pg (ps.map (·.1)) cof (qs.map (·.1))) → l.length ≤ 100 ∧ ∀ r ∈ l, r.cols.length ≤ 1000000) :
  Calls Tryz.prog 12 #[.agg #[.string x.name, .int .i64 x.id, .string x.table, .string x.on, u], .agg #[.string pk, .int .i64 pg, pu], .agg #[.string xk, .int .i64 xg, xu]] w fun e w' =>
   ∃ v1 v2 p1 p2, e = .returned (.tuple #[.agg #[.string xk, .int .i64 0, v1], .agg #[.string pk, .int .i64 0, v2]]) ∧ RowsT w' v1 p1 ∧ p1.map (·.1) = shadeRs x ns xk xg pk pg (foldG keyR foldRo (ps.map (·.1)) (back19 x xk xg pg (ps.map (·.1)) cof (qs.map (·.1)))) cof (qs.map (·.1)) ∧
    RowsT w' v2 p2 ∧ p2.map (·.1) = back19 x xk xg pg (ps.map (·.1)) cof (qs.map (·.1)) ∧ Ext w w' := by
 obtain ⟨aq, cq, rfl, hcq1, hcq2, hget⟩ := hq.get
 obtain ⟨n, hn⟩ : ∃ n, n = qs.length := ⟨_, rfl⟩
 rw [← hn] at hlq hcq1 hq ⊢
 obtain ⟨a0, a1, a2, a3, a4, hE⟩ := boxes5 w #[.string x.name, .int .i64 x.id, .string x.table, .string x.on, u] #[.string pk, .int .i64 pg, pu] #[.string xk, .int .i64 xg, .slice aq n cq] #[.string ⟨#[]⟩, .int .i64 0, .slice none 0 0] #[.string ⟨#[]⟩, .int .i64 0, .slice none 0 0] 31 39 39 39 39
 obtain ⟨BK, hBK⟩ : ∃ B, B = back19 x xk xg pg (ps.map (·.1)) cof (qs.map (·.1)) := ⟨_, rfl⟩
 rw [← hBK] at hall ⊢
 obtain ⟨AL, hAL⟩ : ∃ A, A = foldG keyR foldRo (ps.map (·.1)) BK := ⟨_, rfl⟩
 obtain ⟨hA1, hA2⟩ := hall AL hAL
 rw [← hAL]
 obtain ⟨SH, hSH⟩ : ∃ S, S = shadeRs x ns xk xg pk pg AL cof (qs.map (·.1)) := ⟨_, rfl⟩
 rw [← hSH]
 have HN := Lib.hid hn
 have HGET := Lib.hid hget
 have HCU := Lib.hid hq.cols
 have HCQ := Lib.hid hcq
 have HCP := Lib.hid hcp
 have HKEY := Lib.hid hkey
 have HORD := Lib.hid hord
 have HBK := Lib.hid hBK
 have HAL := Lib.hid hAL
 have HSH := Lib.hid hSH
 have HA2 := Lib.hid hA2
 have HP := Lib.hid hp
 have HNS := Lib.hid hns
 clear hn hget hq hcq hcp hkey hord hBK hAL hSH hA2 hall hp hns
 go_enter Tryz.func12, Tryz.ntmps12
 go_wp2_with fail
 generalize World.alloc (World.alloc (World.alloc (World.alloc (World.alloc w _) _) _) _) _ = w0 at a0 a1 a2 a3 a4 hE ⊢
 have b0 : BoxAt w0 w.heap.size (vw5 x u) 31 := a0
 have b1 : BoxAt w0 (w.heap.size + 1) (pa3 pk pg pu) 39 := a1
 have b2 : BoxAt w0 (w.heap.size + 1 + 1) (pa3 xk xg (.slice aq n cq)) 39 := a2
 have b3 : BoxAt w0 (w.heap.size + 1 + 1 + 1) (pa3 ⟨#[]⟩ 0 (.slice none 0 0)) 39 := a3
 have b4 : BoxAt w0 (w.heap.size + 1 + 1 + 1 + 1) (pa3 ⟨#[]⟩ 0 (.slice none 0 0)) 39 := a4
 have l4 := b4.lt
 clear a0 a1 a2 a3 a4
 have x0 : w0.cell? ⟨w.heap.size + 1 + 1, 0, none⟩ = some (.string xk) := b2.cell 0
 have y0 : w0.cell? ⟨w.heap.size + 1, 0, none⟩ = some (.string pk) := b1.cell 0
 have x1 : ∀ o, (w0.alloc o).cell? ⟨w.heap.size + 1 + 1, 0, none⟩ = some (.string xk) := fun o => b2.allocs o 0
 have y1 : ∀ o, (w0.alloc o).cell? ⟨w.heap.size + 1, 0, none⟩ = some (.string pk) := fun o => b1.allocs o 0
 have x2 : ∀ o o', ((w0.alloc o).alloc o').cell? ⟨w.heap.size + 1 + 1, 0, none⟩ = some (.string xk) := fun o o' => (b2.ext ((Ext.refl w0).alloc o)).allocs o' 0
 have y2 : ∀ o o', ((w0.alloc o).alloc o').cell? ⟨w.heap.size + 1, 0, none⟩ = some (.string pk) := fun o o' => (b1.ext ((Ext.refl w0).alloc o)).allocs o' 0
 have n1 : ¬ w.heap.size + 1 = w0.heap.size := by omega
 have n2 : ¬ w.heap.size + 1 = w0.heap.size + 1 := by omega
 have n3 : ¬ w0.heap.size = w.heap.size + 1 := by omega
 have n4 : ¬ w0.heap.size + 1 = w.heap.size + 1 := by omega
 go_cut [8, 9] from 28 (fun p8 p9 wc => ∃ cS cB, p8 = .pointer (some ⟨cS, 0, none⟩) ∧ p9 = .pointer (some ⟨cB, 0, none⟩) ∧ cS ≠ cB ∧ w0.heap.size ≤ cS ∧ w0.heap.size ≤ cB ∧ BoxAt wc cS (pa3 xk 0 (.slice none 0 0)) 39 ∧ BoxAt wc cB (pa3 pk 0 (.slice none 0 0)) 39 ∧ Ext w0 wc)
 case first =>
  go_region
  ·go_wp2_with fail
   go_meet
   case rel => exact ⟨_, _, rfl, rfl, by omega, Nat.le_refl _, by omega, (((BoxAt.made w0 (pa3 xk 0 (.slice none 0 0)) 39).ext ((Ext.refl _).alloc _))).ext (Ext.refl _).drew, (BoxAt.madeN (pa3 pk 0 (.slice none 0 0)) 39 (by simp)).ext (Ext.refl _).drew, (((Ext.refl w0).alloc _).alloc _).drew⟩
  ·go_wp2_with fail
   go_meet
   case rel => exact ⟨_, _, rfl, rfl, by omega, by omega, Nat.le_refl _, (BoxAt.madeN (pa3 xk 0 (.slice none 0 0)) 39 (by simp)).ext (Ext.refl _).drew, (((BoxAt.made w0 (pa3 pk 0 (.slice none 0 0)) 39).ext ((Ext.refl _).alloc _))).ext (Ext.refl _).drew, (((Ext.refl w0).alloc _).alloc _).drew⟩
 case rest =>
  obtain ⟨cS, cB, rfl, rfl, hSB, hS0, hB0, dS, dB, hE1⟩ := hcut
  have hX1 := hE.trans hE1
  have k0 := Lib.hid (b0.ext hE1)
  have k1 := Lib.hid (b1.ext hE1)
  have k2 := Lib.hid (b2.ext hE1)
  have k3 := Lib.hid (b3.ext hE1)
  have k4 := Lib.hid (b4.ext hE1)
  have hSw : w.heap.size + 1 + 1 + 1 + 1 < cS := by omega
  have hBw : w.heap.size + 1 + 1 + 1 + 1 < cB := by omega
  have hwB : w.heap.size ≤ cB := by omega
  have hwS : w.heap.size ≤ cS := by omega
  clear b0 b1 b2 b3 b4 x0 y0 x1 y1 x2 y2 n1 n2 n3 n4 hE1 hE hS0 hB0 l4
  obtain ⟨w1, rfl⟩ : ∃ w', w' = wc := ⟨_, rfl⟩
  have hO : O19 w w1 cB pk (.slice none 0 0) [] w1 := ⟨hX1, fun _ _ _ h _ => h, dB, RowsT.nil _, Nat.le_refl _⟩
  have KS := Lib.hid dS
  clear dS dB
  go_wp2_with fail
  go_loopw [10] (fun i wr => ∃ (k : Nat) (vl : Value) (L : List (Ro × Value)), k ≤ n ∧ i = .int .i64 k ∧ O19 w w1 cB pk vl L wr ∧ L.length ≤ k ∧ Hid (L.map (·.1) = back19 x xk xg pg (ps.map (·.1)) cof ((qs.map (·.1)).take k))) (fun i _ => n - (intOf i).toNat)
  case atStart => exact ⟨0, _, [], Nat.zero_le _, rfl, hO, by simp, rfl⟩
  case round =>
   obtain ⟨k, vl, L, hk, rfl, hop, hLk, HD⟩ := hrel
   clear hO
   obtain ⟨p0, p1, p2⟩ := (hop.keep _ _ _ k1.out (by omega)).pa
   obtain ⟨q0, q1, q2⟩ := (hop.keep _ _ _ k2.out (by omega)).pa
   by_cases hlt : k < n
   ·have hkp : k < qs.length := by rw [← HN.out]; exact hlt
    have hki : decide ((k : Int) < (n : Int)) = true := by simpa using hlt
    have hmem := List.getElem_mem hkp
    have hcM := HCU.out _ hmem
    have hlM := HCQ.out _ hmem
    obtain ⟨hk1, hk2, hk3⟩ := HKEY.out _ hmem
    obtain ⟨b, o, rfl, hat⟩ := HGET.out k hkp
    have hsnoc : (qs.map (·.1)).take (k + 1) = (qs.map (·.1)).take k ++ [qs[k].1] := by
     rw [List.take_succ_eq_append_getElem (by simpa using hkp)]
     simp
    have hlast : ∀ r ∈ (qs.map (·.1)).take k, cmpB (cof r).data.toList (cof qs[k].1).data.toList < 0 := fun r hr => by
     have := mem_take_lt HORD.out (k := k) (by simpa using hkp) hr
     simpa using this
    obtain ⟨M, hM⟩ : ∃ M, M = qs[k].1 := ⟨_, rfl⟩
    obtain ⟨um, cm, hu⟩ := hcM.shape
    rw [← hM] at hlM hcM hu hsnoc hat hk1 hk2 hk3 hlast
    rw [hu] at hcM hat
    have HSN := Lib.hid hsnoc
    have HK1 := Lib.hid hk1
    have HK2 := Lib.hid hk2
    have HLA := Lib.hid hlast
    have HAT := Lib.hid hat
    clear hM hu hsnoc hmem hk1 hk2 hk3 hlast
    obtain ⟨x0, x1, x2, x3, x4, x5, x6, x7⟩ := hat.ext hop.ext
    obtain ⟨R, hR⟩ : ∃ R, R = rowOf (ps.map (·.1)) (cof M) := ⟨_, rfl⟩
    have hRk : R.key = cof M := by rw [hR]; exact rowOf_is _ _
    have hRc : R.cols.length ≤ 900 := by
     rw [hR]
     refine rowOf_cols (fun r hr => ?_) _
     obtain ⟨p, hp, rfl⟩ := List.mem_map.1 hr
     exact HCP.out p hp
    have HR := Lib.hid hR
    have HRK := Lib.hid hRk
    clear hR hRk hat
    have hsp := fun y => Lib.hid (split18_key pk (cof M) y hpk HK2.out)
    rw [← HK1.out] at hsp
    go_wp2_with fail
    refine (hsp _).out.mono ?_
    rintro e w2 ⟨rfl, hE2⟩
    have tk : (pk.toList != pk.toList) = false := by simp
    have op2 := hop.ext' hE2
    obtain ⟨p0, p1, p2⟩ := (op2.keep _ _ _ k1.out (by omega)).pa
    clear x0 x1 x2 x3 x4 x5 x6 x7 hsp
    go_wp2_with fail
    refine (row8_any pk pg pu ps (cof M) w2 (HP.out.ext op2.ext)).mono ?_
    rw [← HR.out]
    rintro e w3 ⟨v3, rfl, hc3, hE3⟩
    obtain ⟨a3, cc3, hv3⟩ := hc3.shape
    subst hv3
    have op3 := op2.ext' hE3
    clear p0 p1 p2 q0 q1 q2
    go_wp2_with (((guard_target =~ wpList _ _ _ (Oper.mk none (Op.store _ (Operand.tmp 14) (Operand.tmp 64)) _ _ _ _ :: _) _ _); go_must (refine storeBox rfl 47 (.tmp 14) (.tmp 64) rfl (w3.heap.size) _ _ _ (by rfl) (by rfl) ((BoxAt.made w3 (ro8 ⟨⟨#[]⟩, zeroCl, 0, 0, []⟩ (.slice none 0 0)) 47)) (by kernel_rfl) (by rfl) (by simp [Value.oneCell']) ?_); intro w4 d4 g4); have hX4 : Ext w3 w4 := ((Ext.refl w3).alloc _).grown g4 (fun q hq => by cases hq; omega); have op4 := op3.ext' hX4)
    have b4 : BoxAt w4 w3.heap.size (ro8 R (.slice a3 R.cols.length cc3)) 47 := d4
    have hcR4 : ColsIn w4 (.slice a3 R.cols.length cc3) R.cols := hc3.ext hX4
    have hcM4 : ColsIn w4 (.slice um M.cols.length cm) M.cols := hcM.ext op4.ext
    have hl3 : cB < w3.heap.size := op3.box.lt
    clear d4 g4 op2 op3 hc3 hX4 hE3 hE2
    obtain ⟨x0, x1, x2, x3, x4⟩ := (op4.keep _ _ _ k0.out (by omega)).vw
    obtain ⟨p0, p1, p2⟩ := (op4.keep _ _ _ k1.out (by omega)).pa
    obtain ⟨q0, q1, q2⟩ := (op4.keep _ _ _ k2.out (by omega)).pa
    obtain ⟨r0, r1, r2, r3, r4, r5, r6, r7⟩ := b4.ro
    obtain ⟨m0, m1, m2, m3, m4, m5, m6, m7⟩ := HAT.out.ext op4.ext
    obtain ⟨K, hK⟩ : ∃ K, K = kn19 x xk xg M R pg := ⟨_, rfl⟩
    have hKk : K.key = cof M := by rw [hK, ← HRK.out]; rfl
    have hKc : K.cols.length ≤ 901 := by have := kn19_len x xk xg M R pg; rw [← hK] at this; omega
    have HK := Lib.hid hK
    have HKK := Lib.hid hKk
    clear hK hKk
    refine wp_region_tab 11 [(9, fun v y => ∃ v', v = (.agg #[.string K.key, .string K.live.val, .bool K.live.dead, .int .i64 K.live.at_, .int .i64 K.live.fin, .int .i64 K.gone, .int .i64 K.shade, v']) ∧ ColsT y v' K.cols), (10, fun v y => ∃ q, v = .pointer (some ⟨q, 0, none⟩) ∧ w4.heap.size ≤ q ∧ BoxAt y q (ro8 ⟨⟨#[]⟩, zeroCl, 0, 0, []⟩ (.slice none 0 0)) 47)] (by kernel_rfl) (by kernel_rfl) (by kernel_rfl) ⟨fun _ _ _ hE ⟨v', e, h⟩ => ⟨v', e, TIn.ext hE h⟩, fun _ _ _ hE ⟨q, e, h1, h2⟩ => ⟨q, e, h1, h2.ext hE⟩, trivial⟩ ?_
    replace x0 := held x0
    replace x1 := held x1
    replace x2 := held x2
    replace x3 := held x3
    replace x4 := held x4
    replace p0 := held p0
    replace p1 := held p1
    replace p2 := held p2
    replace q0 := held q0
    replace q1 := held q1
    replace q2 := held q2
    replace r0 := held r0
    replace r1 := held r1
    replace r2 := held r2
    replace r3 := held r3
    replace r4 := held r4
    replace r5 := held r5
    replace r6 := held r6
    replace r7 := held r7
    replace m0 := held m0
    replace m1 := held m1
    replace m2 := held m2
    replace m3 := held m3
    replace m4 := held m4
    replace m5 := held m5
    replace m6 := held m6
    replace m7 := held m7
    refine rg_quiet rfl rfl rfl rfl ?_; intro K hK; go_big_quiet_op; go_big_quiet_on
    refine rg_quiet rfl rfl rfl rfl ?_; intro K hK; go_big_quiet_op; go_big_quiet_on
    refine rg_quiet rfl rfl rfl rfl ?_; intro K hK; go_big_quiet_op; go_big_quiet_on
    refine rg_quiet rfl rfl rfl rfl ?_; intro K hK; go_big_quiet_op; go_big_quiet_on
    refine rg_quiet rfl rfl rfl rfl ?_; intro K hK; go_big_quiet_op; go_big_quiet_on
    refine rg_quiet rfl rfl rfl rfl ?_; intro K hK; go_big_quiet_op; go_big_quiet_on
    refine rg_quiet rfl rfl rfl rfl ?_; intro K hK; go_big_quiet_op; go_big_quiet_on
    refine rg_quiet rfl rfl rfl rfl ?_; intro K hK; go_big_quiet_op; go_big_quiet_on
    refine rg_quiet rfl rfl rfl rfl ?_; intro K hK; go_big_quiet_op; go_big_quiet_on
    refine rg_fact [] rfl rfl rfl (by kernel_rfl) (fun y hY hf => ?_) (fun v9 y9 hE9 hG9 h9 => ?_)
    ·go_simp
     refine (known19_any x u pk pg pu R (.slice a3 R.cols.length cc3) xk xg _ M (.slice um M.cols.length cm) y (hcM4.ext hY) (by omega)).mono ?_
     rw [← HK.out]
     rintro e y' ⟨v', rfl, h1, hy⟩
     exact ⟨_, rfl, rg_doneR hY hy ⟨v', rfl, h1⟩⟩
    obtain ⟨v9, rfl, h9⟩ := h9
    obtain ⟨a9, c9, rfl⟩ := TIn.shape h9
    clear hE9 hG9 h9
    simp only [Act.put, List.setIfInBounds_toArray, List.set_cons_zero, List.set_cons_succ]
    refine rg_fact [] rfl rfl rfl (by kernel_rfl) (fun y hY hf => ?_) (fun v10 y10 hE10 hG10 h10 => ?_)
    ·go_simp
     exact rg_doneR hY ((Ext.refl y).alloc _) ⟨_, rfl, hY.le, BoxAt.made y _ _⟩
    obtain ⟨qk, rfl, _⟩ := h10
    clear hE10 hG10
    simp only [Act.put, List.setIfInBounds_toArray, List.set_cons_zero, List.set_cons_succ]
    refine rel_tail rfl rfl fun w5 hE5 hG => ?_
    obtain ⟨v9', e9, hcK⟩ := (hG 9).1.2 rfl
    obtain ⟨qk', e10, hqk, hbk⟩ := (hG 10).2 rfl
    cases e9
    cases e10
    clear hG x0 x1 x2 x3 x4 p0 p1 p2 q0 q1 q2 r0 r1 r2 r3 r4 r5 r6 r7 m0 m1 m2 m3 m4 m5 m6 m7
    go_wp2_with (((guard_target =~ wpList _ _ _ (Oper.mk none (Op.store _ (Operand.tmp 16) (Operand.tmp 75)) _ _ _ _ :: _) _ _); go_must (refine storeBox rfl 47 (.tmp 16) (.tmp 75) rfl (qk) _ _ _ (by rfl) (by rfl) (hbk) (by kernel_rfl) (by rfl) (by simp [Value.oneCell']) ?_); intro w6 c6 g6))
    have hX6 : Ext w4 w6 := hE5.grown g6 (fun q hq => by cases hq; exact hqk)
    have kb6 : BoxAt w6 qk (ro8 K (.slice a9 K.cols.length c9)) 47 := c6
    have hcK6 : ColsT w6 (.slice a9 K.cols.length c9) K.cols := TIn.keep g6 hbk (by decide) hcK
    have b6 := b4.ext hX6
    have op6 := op4.ext' hX6
    have hcR6 := hcR4.ext hX6
    clear c6 g6 hbk hcK hE5 op4 b4 hcR4 hcM4 hX6
    obtain ⟨x0, x1, x2, x3, x4, x5, x6, x7⟩ := b6.ro
    obtain ⟨y0, y1, y2, y3, y4, y5, y6, y7⟩ := kb6.ro
    obtain ⟨J1, hJ1⟩ : ∃ J, J = foldRo R K := ⟨_, rfl⟩
    obtain ⟨E, hEE⟩ : ∃ E, E = eqB J1 R := ⟨_, rfl⟩
    have HJ1 := Lib.hid hJ1
    have HEE := Lib.hid hEE
    clear hJ1 hEE
    simp only [Act.put]
    refine wp_region_tab 6 [(2, fun v y => ∃ v', v = (.agg #[.string J1.key, .string J1.live.val, .bool J1.live.dead, .int .i64 J1.live.at_, .int .i64 J1.live.fin, .int .i64 J1.gone, .int .i64 J1.shade, v']) ∧ ColsT y v' J1.cols), (4, fun v _ => v = .bool E)] (by kernel_rfl) (by kernel_rfl) (by kernel_rfl) ⟨fun _ _ _ hE ⟨v', e, h⟩ => ⟨v', e, TIn.ext hE h⟩, stays_eq _, trivial⟩ ?_
    replace x0 := held x0
    replace x1 := held x1
    replace x2 := held x2
    replace x3 := held x3
    replace x4 := held x4
    replace x5 := held x5
    replace x6 := held x6
    replace x7 := held x7
    replace y0 := held y0
    replace y1 := held y1
    replace y2 := held y2
    replace y3 := held y3
    replace y4 := held y4
    replace y5 := held y5
    replace y6 := held y6
    replace y7 := held y7
    refine rg_quiet rfl rfl rfl rfl ?_; intro K hK; go_big_quiet_op; go_big_quiet_on
    refine rg_quiet rfl rfl rfl rfl ?_; intro K hK; go_big_quiet_op; go_big_quiet_on
    refine rg_fact [] rfl rfl rfl (by kernel_rfl) (fun y hY hf => ?_) (fun v2 y2' hE2 hG2 h2 => ?_)
    ·go_simp
     refine (join7_in R K _ _ y (hcR6.ext hY) (ColsT.cols (hcK6.ext hY)) (by omega)).mono ?_
     rw [← HJ1.out]
     rintro e y' ⟨v', rfl, h1, hy⟩
     exact ⟨_, rfl, rg_doneR hY hy ⟨v', rfl, h1⟩⟩
    obtain ⟨v2, rfl, h2⟩ := h2
    obtain ⟨a2, c2, rfl⟩ := TIn.shape h2
    clear hE2 hG2 h2
    simp only [Act.put, List.setIfInBounds_toArray, List.set_cons_zero, List.set_cons_succ]
    refine rg_quiet rfl rfl rfl rfl ?_; intro K hK; go_big_quiet_op; go_big_quiet_on
    refine rg_val [2] rfl rfl rfl (by kernel_rfl) (fun y hY hf => ?_) ?_
    ·obtain ⟨v', e, h1⟩ := (hf 2 (by simp)).2 rfl
     cases e
     go_simp
     exact (same7_any J1 R _ _ y (ColsT.cols h1) (hcR6.ext hY)).mono fun e w' ⟨he, hw⟩ => ⟨_, he, rg_done hY hw (by rw [HEE.out])⟩
    simp only [Act.put, List.setIfInBounds_toArray, List.set_cons_zero, List.set_cons_succ]
    refine rg_quiet rfl rfl rfl rfl ?_; intro K hK; go_big_quiet_op; go_big_quiet_on
    refine rel_nil fun w7 hE7 _ => ?_
    clear x0 x1 x2 x3 x4 x5 x6 x7 y0 y1 y2 y3 y4 y5 y6 y7
    have op7 := op6.ext' hE7
    have kb7 := kb6.ext hE7
    have hcK7 : ColsT w7 (.slice a9 K.cols.length c9) K.cols := TIn.ext hE7 hcK6
    clear b6 op6 kb6 hcK6 hcR6 hE7
    have hbl : backL19 x xk xg pg M (rowOf (ps.map (·.1)) (cof M)) = if E then [] else [K] := by
     unfold backL19
     rw [← HR.out, ← HK.out, ← HJ1.out, ← HEE.out]
    have hD2 : back19 x xk xg pg (ps.map (·.1)) cof ((qs.map (·.1)).take (k + 1)) = L.map (·.1) ++ if E then [] else [K] := by
     rw [HSN.out, back19_snoc, ← HD.out, hbl]
    have HD2 := Lib.hid hD2
    clear hbl hD2
    cases E
    ·obtain ⟨y0, y1, y2, y3, y4, y5, y6, y7⟩ := kb7.ro
     obtain ⟨z0, z1, z2⟩ := op7.box.pa
     obtain ⟨al, ll, hvl⟩ := op7.rows.shape
     obtain ⟨nL, hnL⟩ : ∃ n, n = L.length := ⟨_, rfl⟩
     rw [← hnL] at hvl
     subst hvl
     have HNL := Lib.hid hnL
     clear hnL
     go_wp2_with fail
     refine (rowPut_any _ L K _ w7 op7.rows hcK7 (by omega) (fun p hp => ?_)).mono ?_
     ·have hm : p.1 ∈ back19 x xk xg pg (ps.map (·.1)) cof ((qs.map (·.1)).take k) := by rw [← HD.out]; exact List.mem_map_of_mem hp
      obtain ⟨r, hr, e⟩ := mem_back19 hm
      have hk1 : p.1.key = cof r := by rw [e]; exact rowOf_is _ _
      show cmpB p.1.key.data.toList K.key.data.toList < 0
      rw [hk1, HKK.out]
      exact HLA.out r hr
     rintro e w8 ⟨v8, rfl, hr8, hE8⟩
     obtain ⟨L2, hL2⟩ : ∃ L2, L2 = L ++ [(K, .slice a9 K.cols.length c9)] := ⟨_, rfl⟩
     rw [← hL2] at hr8
     obtain ⟨a8, c8, hv8⟩ := hr8.shape
     obtain ⟨n8, hn8⟩ : ∃ n, n = L2.length := ⟨_, rfl⟩
     rw [← hn8] at hv8
     have hn8' : n8 = L.length + 1 := by rw [hn8, hL2]; simp
     subst hv8
     have HL2 := Lib.hid hL2
     have HN8 := Lib.hid hn8'
     clear hL2 hn8 hn8'
     have op8 := op7.ext' hE8
     have qf := op8.box.free 2
     have qc : w8.cell? ⟨cB, 2, none⟩ = some (.slice al nL ll) := op8.box.cell 2
     clear y0 y1 y2 y3 y4 y5 y6 y7 z0 z1 z2
     go_wp2_with fail
     go_roundw
     case rel =>
      refine ⟨k + 1, _, L2, by omega, by go_num, op8.put hwB hr8, by rw [HL2.out]; simp; omega, ?_⟩
      show _ = _
      rw [HD2.out, HL2.out, List.map_append]
      rfl
     case measure => simp [intOf]; omega
    ·go_wp2_with fail
     go_roundw
     case rel =>
      refine ⟨k + 1, _, L, by omega, by go_num, op7, by omega, ?_⟩
      show _ = _
      rw [HD2.out]
      simp
     case measure => simp [intOf]; omega
   ·--SECOND
    obtain rfl : n = k := by omega
    have hLB : L.map (·.1) = BK := by rw [HD.out, HBK.out, List.take_of_length_le (by simp; rw [← HN.out]; exact Nat.le_refl _)]
    have hLc : ∀ r ∈ L, r.1.cols.length ≤ 901 := fun r hr => by
     have hm : r.1 ∈ back19 x xk xg pg (ps.map (·.1)) cof (qs.map (·.1)) := by rw [← HBK.out, ← hLB]; exact List.mem_map_of_mem hr
     refine back19_cols (fun q hq => ?_) _ hm
     obtain ⟨q', hq', rfl⟩ := List.mem_map.1 hq
     exact HCQ.out q' hq'
    obtain ⟨al, ll, hvl⟩ := hop.rows.shape
    obtain ⟨nL, hnL⟩ : ∃ n, n = L.length := ⟨_, rfl⟩
    rw [← hnL] at hvl
    subst hvl
    have HLB := Lib.hid hLB
    have HNL := Lib.hid hnL
    clear hnL hLB
    obtain ⟨z0, z1, z2⟩ := hop.box.pa
    go_wp2_with fail
    refine (join8_any pk pk pg 0 pu _ ps L wr (HP.out.ext hop.ext) hop.rows.rows hlp (by omega) (fun q hq => Nat.le_trans (HCP.out q hq) (by omega)) (fun q hq => Nat.le_trans (hLc q hq) (by omega))).mono ?_
    rw [HLB.out, ← HAL.out, show max pg 0 = pg from by omega]
    rintro e w2 ⟨hE2, hJ⟩
    rcases hJ with ⟨_, v2, rfl, all, hall, hallm⟩ | ⟨hbad, _⟩
    rotate_left
    ·exfalso
     omega
    obtain ⟨a2, c2, hv2⟩ := hall.shape
    obtain ⟨n2, hn2⟩ : ∃ n, n = all.length := ⟨_, rfl⟩
    rw [← hn2] at hv2
    subst hv2
    have HALM := Lib.hid hallm
    have op2 := hop.ext' hE2
    clear hn2 hallm z0 z1 z2 p0 p1 p2 q0 q1 q2 hLc
    go_wp2_with (((guard_target =~ wpList _ _ _ (Oper.mk none (Op.store _ (Operand.tmp 17) (Operand.tmp 91)) _ _ _ _ :: _) _ _); go_must (refine storeBox rfl 39 (.tmp 17) (.tmp 91) rfl (w2.heap.size) _ _ _ (by rfl) (by rfl) ((BoxAt.made w2 (pa3 ⟨#[]⟩ 0 (.slice none 0 0)) 39)) (by kernel_rfl) (by rfl) (by simp [Value.oneCell']) ?_); intro w3 d3 g3); have hX3 : Ext w2 w3 := ((Ext.refl w2).alloc _).grown g3 (fun q hq => by cases hq; omega))
    have op3 := op2.ext' hX3
    have hall3 := hall.ext hX3
    have j0 := Lib.hid (op3.keep _ _ _ k0.out (by omega))
    have j1 := Lib.hid (op3.keep _ _ _ k1.out (by omega))
    have j2 := Lib.hid (op3.keep _ _ _ k2.out (by omega))
    have j3 := Lib.hid (op3.keep _ _ _ k3.out (by omega))
    have j4 := Lib.hid (op3.keep _ _ _ k4.out (by omega))
    have jS := op3.keep _ _ _ KS.out hSB
    have jB := Lib.hid op3.box
    have jR := Lib.hid op3.rows
    have jA : Hid (BoxAt w3 w2.heap.size (pa3 pk pg (.slice a2 n2 c2)) 39) := Lib.hid d3
    have jAR := Lib.hid hall3
    have hX := op3.ext
    have hAS : w2.heap.size ≠ cS := by have := (hop.keep _ _ _ KS.out hSB).lt; have := hE2.le; omega
    have hO2 : O19 w w3 cS xk (.slice none 0 0) [] w3 := ⟨hX, fun _ _ _ h _ => h, jS, RowsT.nil _, Nat.le_refl _⟩
    obtain ⟨bA, hbA⟩ : ∃ b, b = w2.heap.size := ⟨_, rfl⟩
    rw [← hbA] at jA hAS ⊢
    clear hbA k0 k1 k2 k3 k4 KS hop op2 op3 d3 g3 hX3 hall hall3 hE2 HD
    go_wp2_with fail
    go_loopw [19] (fun i wr => ∃ (j : Nat) (vl : Value) (L2 : List (Ro × Value)), j ≤ n ∧ i = .int .i64 j ∧ O19 w w3 cS xk vl L2 wr ∧ L2.length ≤ j ∧ Hid (L2.map (·.1) = shadeRs x ns xk xg pk pg AL cof ((qs.map (·.1)).take j))) (fun i _ => n - (intOf i).toNat)
    case atStart => exact ⟨0, _, [], Nat.zero_le _, rfl, hO2, by simp, rfl⟩
    case round =>
     obtain ⟨j, vl2, L2, hjk, rfl, hoq, hLj, HDj⟩ := hrel
     clear hO2
     obtain ⟨q0, q1, q2⟩ := (hoq.keep _ _ _ j2.out (by omega)).pa
     by_cases hlt : j < n
     ·have hkp : j < qs.length := by rw [← HN.out]; exact hlt
      have hki : decide ((j : Int) < (n : Int)) = true := by simpa using hlt
      have hmem := List.getElem_mem hkp
      have hcM := HCU.out _ hmem
      have hlM := HCQ.out _ hmem
      obtain ⟨hk1, hk2, hk3⟩ := HKEY.out _ hmem
      obtain ⟨b, o, rfl, hat⟩ := HGET.out j hkp
      have hsnoc : (qs.map (·.1)).take (j + 1) = (qs.map (·.1)).take j ++ [qs[j].1] := by
       rw [List.take_succ_eq_append_getElem (by simpa using hkp)]
       simp
      have hlast : ∀ r ∈ (qs.map (·.1)).take j, cmpB (cof r).data.toList (cof qs[j].1).data.toList < 0 ∧ r.key = vkey pk (cof r) := fun r hr => by
       have := mem_take_lt HORD.out (k := j) (by simpa using hkp) hr
       obtain ⟨q, hq, rfl⟩ := List.mem_map.1 (List.mem_of_mem_take hr)
       exact ⟨by simpa using this, (HKEY.out q hq).1⟩
      obtain ⟨M, hM⟩ : ∃ M, M = qs[j].1 := ⟨_, rfl⟩
      obtain ⟨um, cm, hu⟩ := hcM.shape
      rw [← hM] at hlM hcM hu hsnoc hat hk1 hk2 hk3 hlast
      rw [hu] at hcM hat
      have HSN := Lib.hid hsnoc
      have HK1 := Lib.hid hk1
      have HK2 := Lib.hid hk2
      have HK3 := Lib.hid hk3
      have HLA := Lib.hid hlast
      clear hM hu hsnoc hmem hk1 hk2 hk3 hlast
      obtain ⟨x0, x1, x2, x3, x4, x5, x6, x7⟩ := hat.ext hoq.ext
      obtain ⟨R, hR⟩ : ∃ R, R = rowOf AL (cof M) := ⟨_, rfl⟩
      have hRk : R.key = cof M := by rw [hR]; exact rowOf_is _ _
      have hRc : R.cols.length ≤ 1000000 := by rw [hR]; exact rowOf_cols HA2.out _
      have HR := Lib.hid hR
      have HRK := Lib.hid hRk
      clear hR hRk hat
      have hsp := fun y => Lib.hid (split18_key pk (cof M) y hpk HK2.out)
      rw [← HK1.out] at hsp
      have tk : (pk.toList != pk.toList) = false := by simp
      go_wp2_with (((guard_target =~ wpList _ _ _ (Oper.mk none (Op.store _ (Operand.tmp 20) (Operand.tmp 107)) _ _ _ _ :: _) _ _); go_must (refine storeBox rfl 47 (.tmp 20) (.tmp 107) rfl (wr.heap.size) _ _ _ (by rfl) (by rfl) ((BoxAt.made wr (ro8 ⟨⟨#[]⟩, zeroCl, 0, 0, []⟩ (.slice none 0 0)) 47)) (by kernel_rfl) (by rfl) (by simp [Value.oneCell']) ?_); intro w5 d5 g5); have hX5 : Ext wr w5 := ((Ext.refl wr).alloc _).grown g5 (fun q hq => by cases hq; omega); have e5 := d5.ro (r := ⟨M.key, M.live, M.gone, M.shade, M.cols⟩) (v := .slice um M.cols.length cm))
      refine (hsp _).out.mono ?_
      rintro e w6 ⟨rfl, hE6⟩
      have oq6 := (hoq.ext' hX5).ext' hE6
      have r6 : BoxAt w6 wr.heap.size (ro8 M (.slice um M.cols.length cm)) 47 := BoxAt.ext hE6 d5
      have hlwr := hoq.box.lt
      clear x0 x1 x2 x3 x4 x5 x6 x7 d5 g5 e5 hX5 hE6 hsp q0 q1 q2
      go_wp2_with fail
      obtain ⟨x0, x1, x2, x3, x4, x5, x6, x7⟩ := r6.ro
      obtain ⟨p0, p1, p2⟩ := (oq6.keep _ _ _ j1.out (by omega)).pa
      obtain ⟨z0, z1, z2⟩ := (oq6.keep _ _ _ j2.out (by omega)).pa
      obtain ⟨G, hG⟩ : ∃ G, G = max M.gone xg := ⟨_, rfl⟩
      have HG := Lib.hid hG
      obtain ⟨mi, hmi⟩ : ∃ m, m = mirOf x ns pk pg R := ⟨_, rfl⟩
      have HMI := Lib.hid hmi
      obtain ⟨JL, hJL⟩ : ∃ J, J = leftRo x M R pg := ⟨_, rfl⟩
      have HJL := Lib.hid hJL
      have HSTEP : Hid (shadeRs x ns xk xg pk pg AL cof ((qs.map (·.1)).take (j + 1)) = L2.map (·.1) ++ if idleB xg M then [] else if strayB mi xk then [JL] else []) := by
       show _ = _
       rw [HSN.out, shadeRs_snoc, ← HR.out, HDj.out]
       unfold shadeL
       rw [← hmi, ← hJL]
      have HID : Hid (idleB xg M = (decide (M.live.at_ < 1) || decide (M.live.at_ ≤ M.shade) || decide (M.live.at_ ≤ G))) := Lib.hid (by rw [hG]; rfl)
      clear hG hmi hJL
      by_cases i1 : M.live.at_ < 1
      ·have t1 : decide (M.live.at_ < 1) = true := by simpa using i1
       refine wp_region_tab 32 [(29, fun v _ => v = .int .i64 G)] (by kernel_rfl) (by kernel_rfl) (by kernel_rfl) ⟨stays_eq _, trivial⟩ ?_
       replace x0 := held x0
       replace x1 := held x1
       replace x2 := held x2
       replace x3 := held x3
       replace x4 := held x4
       replace x5 := held x5
       replace x6 := held x6
       replace x7 := held x7
       replace z1 := held z1
       replace p0 := held p0
       refine rg_quiet rfl rfl rfl rfl ?_; intro K hK; go_big_quiet_op; go_big_quiet_on
       refine rg_quiet rfl rfl rfl rfl ?_; intro K hK; go_big_quiet_op; go_big_quiet_on
       refine rg_quiet rfl rfl rfl rfl ?_; intro K hK; go_big_quiet_op; go_big_quiet_on
       refine rg_quiet rfl rfl rfl rfl ?_; intro K hK; go_big_quiet_op; go_big_quiet_on
       refine rg_quiet rfl rfl rfl rfl ?_; intro K hK; go_big_quiet_op; go_big_quiet_on
       refine rg_quiet rfl rfl rfl rfl ?_; intro K hK; go_big_quiet_op; go_big_quiet_on
       refine rg_quiet rfl rfl rfl rfl ?_; intro K hK; go_big_quiet_op; go_big_quiet_on
       refine rg_quiet rfl rfl rfl rfl ?_; intro K hK; go_big_quiet_op; go_big_quiet_on
       refine rg_quiet rfl rfl rfl rfl ?_; intro K hK; go_big_quiet_op; go_big_quiet_on
       refine rg_quiet rfl rfl rfl rfl ?_; intro K hK; go_big_quiet_op; go_big_quiet_on
       refine rg_quiet rfl rfl rfl rfl ?_; intro K hK; go_big_quiet_op; go_big_quiet_on
       refine rg_quiet rfl rfl rfl rfl ?_; intro K hK; go_big_quiet_op; go_big_quiet_on
       refine rg_quiet rfl rfl rfl rfl ?_; intro K hK; go_big_quiet_op; go_big_quiet_on
       refine rg_quiet rfl rfl rfl rfl ?_; intro K hK; go_big_quiet_op; go_big_quiet_on
       refine rg_quiet rfl rfl rfl rfl ?_; intro K hK; go_big_quiet_op; go_big_quiet_on
       refine rel_skip rfl rfl ?_
       simp only [Act.put, List.setIfInBounds_toArray, List.set_cons_zero, List.set_cons_succ]
       refine rel_skip rfl rfl ?_
       simp only [Act.put, List.setIfInBounds_toArray, List.set_cons_zero, List.set_cons_succ]
       refine rel_skip rfl rfl ?_
       simp only [Act.put, List.setIfInBounds_toArray, List.set_cons_zero, List.set_cons_succ]
       refine rel_skip rfl rfl ?_
       simp only [Act.put, List.setIfInBounds_toArray, List.set_cons_zero, List.set_cons_succ]
       refine rel_skip rfl rfl ?_
       simp only [Act.put, List.setIfInBounds_toArray, List.set_cons_zero, List.set_cons_succ]
       refine rel_skip rfl rfl ?_
       simp only [Act.put, List.setIfInBounds_toArray, List.set_cons_zero, List.set_cons_succ]
       refine rg_quiet rfl rfl rfl rfl ?_; intro K hK; go_big_quiet_op; go_big_quiet_on
       refine rg_quiet rfl rfl rfl rfl ?_; intro K hK; go_big_quiet_op; go_big_quiet_on
       refine rel_skip rfl rfl ?_
       simp only [Act.put, List.setIfInBounds_toArray, List.set_cons_zero, List.set_cons_succ]
       refine rel_skip rfl rfl ?_
       simp only [Act.put, List.setIfInBounds_toArray, List.set_cons_zero, List.set_cons_succ]
       refine rel_skip rfl rfl ?_
       simp only [Act.put, List.setIfInBounds_toArray, List.set_cons_zero, List.set_cons_succ]
       refine rel_skip rfl rfl ?_
       simp only [Act.put, List.setIfInBounds_toArray, List.set_cons_zero, List.set_cons_succ]
       refine rel_skip rfl rfl ?_
       simp only [Act.put, List.setIfInBounds_toArray, List.set_cons_zero, List.set_cons_succ]
       refine rel_skip rfl rfl ?_
       simp only [Act.put, List.setIfInBounds_toArray, List.set_cons_zero, List.set_cons_succ]
       refine rel_skip rfl rfl ?_
       simp only [Act.put, List.setIfInBounds_toArray, List.set_cons_zero, List.set_cons_succ]
       refine rel_skip rfl rfl ?_
       simp only [Act.put, List.setIfInBounds_toArray, List.set_cons_zero, List.set_cons_succ]
       refine rg_quiet rfl rfl rfl rfl ?_; intro K hK; go_big_quiet_op; go_big_quiet_on
       refine rel_nil fun w8 hE8 _ => ?_
       have oq8 := oq6.ext' hE8
       clear x0 x1 x2 x3 x4 x5 x6 x7 z0 z1 z2 p0 p1 p2 hE8
       go_wp2_with fail
       go_roundw
       case rel =>
        refine ⟨j + 1, _, L2, by omega, by go_num, oq8, by omega, ?_⟩
        show _ = _
        rw [HSTEP.out, HID.out]
        simp [t1]
       case measure => simp [intOf]; omega
      ·have t1 : decide (M.live.at_ < 1) = false := by simpa using i1
       by_cases i2 : M.live.at_ ≤ M.shade
       ·have t2 : decide (M.live.at_ ≤ M.shade) = true := by simpa using i2
        refine wp_region_tab 32 [(29, fun v _ => v = .int .i64 G)] (by kernel_rfl) (by kernel_rfl) (by kernel_rfl) ⟨stays_eq _, trivial⟩ ?_
        replace x0 := held x0
        replace x1 := held x1
        replace x2 := held x2
        replace x3 := held x3
        replace x4 := held x4
        replace x5 := held x5
        replace x6 := held x6
        replace x7 := held x7
        replace z1 := held z1
        replace p0 := held p0
        refine rg_quiet rfl rfl rfl rfl ?_; intro K hK; go_big_quiet_op; go_big_quiet_on
        refine rg_quiet rfl rfl rfl rfl ?_; intro K hK; go_big_quiet_op; go_big_quiet_on
        refine rg_quiet rfl rfl rfl rfl ?_; intro K hK; go_big_quiet_op; go_big_quiet_on
        refine rg_quiet rfl rfl rfl rfl ?_; intro K hK; go_big_quiet_op; go_big_quiet_on
        refine rg_quiet rfl rfl rfl rfl ?_; intro K hK; go_big_quiet_op; go_big_quiet_on
        refine rg_quiet rfl rfl rfl rfl ?_; intro K hK; go_big_quiet_op; go_big_quiet_on
        refine rg_quiet rfl rfl rfl rfl ?_; intro K hK; go_big_quiet_op; go_big_quiet_on
        refine rg_quiet rfl rfl rfl rfl ?_; intro K hK; go_big_quiet_op; go_big_quiet_on
        refine rg_quiet rfl rfl rfl rfl ?_; intro K hK; go_big_quiet_op; go_big_quiet_on
        refine rg_quiet rfl rfl rfl rfl ?_; intro K hK; go_big_quiet_op; go_big_quiet_on
        refine rg_quiet rfl rfl rfl rfl ?_; intro K hK; go_big_quiet_op; go_big_quiet_on
        refine rg_quiet rfl rfl rfl rfl ?_; intro K hK; go_big_quiet_op; go_big_quiet_on
        refine rg_quiet rfl rfl rfl rfl ?_; intro K hK; go_big_quiet_op; go_big_quiet_on
        refine rg_quiet rfl rfl rfl rfl ?_; intro K hK; go_big_quiet_op; go_big_quiet_on
        refine rg_quiet rfl rfl rfl rfl ?_; intro K hK; go_big_quiet_op; go_big_quiet_on
        refine rg_quiet rfl rfl rfl rfl ?_; intro K hK; go_big_quiet_op; go_big_quiet_on
        refine rg_quiet rfl rfl rfl rfl ?_; intro K hK; go_big_quiet_op; go_big_quiet_on
        refine rg_quiet rfl rfl rfl rfl ?_; intro K hK; go_big_quiet_op; go_big_quiet_on
        refine rg_quiet rfl rfl rfl rfl ?_; intro K hK; go_big_quiet_op; go_big_quiet_on
        refine rg_quiet rfl rfl rfl rfl ?_; intro K hK; go_big_quiet_op; go_big_quiet_on
        refine rg_quiet rfl rfl rfl rfl ?_; intro K hK; go_big_quiet_op; go_big_quiet_on
        refine rg_quiet rfl rfl rfl rfl ?_; intro K hK; go_big_quiet_op; go_big_quiet_on
        refine rg_quiet rfl rfl rfl rfl ?_; intro K hK; go_big_quiet_op; go_big_quiet_on
        refine rel_skip rfl rfl ?_
        simp only [Act.put, List.setIfInBounds_toArray, List.set_cons_zero, List.set_cons_succ]
        refine rel_skip rfl rfl ?_
        simp only [Act.put, List.setIfInBounds_toArray, List.set_cons_zero, List.set_cons_succ]
        refine rel_skip rfl rfl ?_
        simp only [Act.put, List.setIfInBounds_toArray, List.set_cons_zero, List.set_cons_succ]
        refine rel_skip rfl rfl ?_
        simp only [Act.put, List.setIfInBounds_toArray, List.set_cons_zero, List.set_cons_succ]
        refine rel_skip rfl rfl ?_
        simp only [Act.put, List.setIfInBounds_toArray, List.set_cons_zero, List.set_cons_succ]
        refine rel_skip rfl rfl ?_
        simp only [Act.put, List.setIfInBounds_toArray, List.set_cons_zero, List.set_cons_succ]
        refine rel_skip rfl rfl ?_
        simp only [Act.put, List.setIfInBounds_toArray, List.set_cons_zero, List.set_cons_succ]
        refine rel_skip rfl rfl ?_
        simp only [Act.put, List.setIfInBounds_toArray, List.set_cons_zero, List.set_cons_succ]
        refine rg_quiet rfl rfl rfl rfl ?_; intro K hK; go_big_quiet_op; go_big_quiet_on
        refine rel_nil fun w8 hE8 _ => ?_
        have oq8 := oq6.ext' hE8
        clear x0 x1 x2 x3 x4 x5 x6 x7 z0 z1 z2 p0 p1 p2 hE8
        go_wp2_with fail
        go_roundw
        case rel =>
         refine ⟨j + 1, _, L2, by omega, by go_num, oq8, by omega, ?_⟩
         show _ = _
         rw [HSTEP.out, HID.out]
         simp [t1, t2]
        case measure => simp [intOf]; omega
       ·have t2 : decide (M.live.at_ ≤ M.shade) = false := by simpa using i2
        by_cases i3 : M.live.at_ ≤ G
        ·have t3 : decide (M.live.at_ ≤ G) = true := by simpa using i3
         refine wp_region_tab 32 [(29, fun v _ => v = .int .i64 G)] (by kernel_rfl) (by kernel_rfl) (by kernel_rfl) ⟨stays_eq _, trivial⟩ ?_
         replace x0 := held x0
         replace x1 := held x1
         replace x2 := held x2
         replace x3 := held x3
         replace x4 := held x4
         replace x5 := held x5
         replace x6 := held x6
         replace x7 := held x7
         replace z1 := held z1
         replace p0 := held p0
         refine rg_quiet rfl rfl rfl rfl ?_; intro K hK; go_big_quiet_op; go_big_quiet_on
         refine rg_quiet rfl rfl rfl rfl ?_; intro K hK; go_big_quiet_op; go_big_quiet_on
         refine rg_quiet rfl rfl rfl rfl ?_; intro K hK; go_big_quiet_op; go_big_quiet_on
         refine rg_quiet rfl rfl rfl rfl ?_; intro K hK; go_big_quiet_op; go_big_quiet_on
         refine rg_quiet rfl rfl rfl rfl ?_; intro K hK; go_big_quiet_op; go_big_quiet_on
         refine rg_quiet rfl rfl rfl rfl ?_; intro K hK; go_big_quiet_op; go_big_quiet_on
         refine rg_quiet rfl rfl rfl rfl ?_; intro K hK; go_big_quiet_op; go_big_quiet_on
         refine rg_quiet rfl rfl rfl rfl ?_; intro K hK; go_big_quiet_op; go_big_quiet_on
         refine rg_quiet rfl rfl rfl rfl ?_; intro K hK; go_big_quiet_op; go_big_quiet_on
         refine rg_quiet rfl rfl rfl rfl ?_; intro K hK; go_big_quiet_op; go_big_quiet_on
         refine rg_quiet rfl rfl rfl rfl ?_; intro K hK; go_big_quiet_op; go_big_quiet_on
         refine rg_quiet rfl rfl rfl rfl ?_; intro K hK; go_big_quiet_op; go_big_quiet_on
         refine rg_quiet rfl rfl rfl rfl ?_; intro K hK; go_big_quiet_op; go_big_quiet_on
         refine rg_quiet rfl rfl rfl rfl ?_; intro K hK; go_big_quiet_op; go_big_quiet_on
         refine rg_quiet rfl rfl rfl rfl ?_; intro K hK; go_big_quiet_op; go_big_quiet_on
         refine rg_quiet rfl rfl rfl rfl ?_; intro K hK; go_big_quiet_op; go_big_quiet_on
         refine rg_quiet rfl rfl rfl rfl ?_; intro K hK; go_big_quiet_op; go_big_quiet_on
         refine rg_quiet rfl rfl rfl rfl ?_; intro K hK; go_big_quiet_op; go_big_quiet_on
         refine rg_quiet rfl rfl rfl rfl ?_; intro K hK; go_big_quiet_op; go_big_quiet_on
         refine rg_quiet rfl rfl rfl rfl ?_; intro K hK; go_big_quiet_op; go_big_quiet_on
         refine rg_quiet rfl rfl rfl rfl ?_; intro K hK; go_big_quiet_op; go_big_quiet_on
         refine rg_quiet rfl rfl rfl rfl ?_; intro K hK; go_big_quiet_op; go_big_quiet_on
         refine rg_quiet rfl rfl rfl rfl ?_; intro K hK; go_big_quiet_op; go_big_quiet_on
         refine rg_quiet rfl rfl rfl rfl ?_; intro K hK; go_big_quiet_op; go_big_quiet_on
         refine rg_quiet rfl rfl rfl rfl ?_; intro K hK; go_big_quiet_op; go_big_quiet_on
         refine rg_quiet rfl rfl rfl rfl ?_; intro K hK; go_big_quiet_op; go_big_quiet_on
         refine rg_quiet rfl rfl rfl rfl ?_; intro K hK; go_big_quiet_op; go_big_quiet_on
         refine rg_quiet rfl rfl rfl rfl ?_; intro K hK; go_big_quiet_op; go_big_quiet_on
         refine rg_quiet rfl rfl rfl rfl ?_; intro K hK; go_big_quiet_op; go_big_quiet_on
         refine rg_val [] rfl rfl rfl (by kernel_rfl) (fun w1 hE hf => ?_) ?_
         ·go_simp
          exact (gone7_any M (.slice um M.cols.length cm) xg w1).mono fun e w' ⟨he, hw⟩ => ⟨_, he, rg_done hE hw (by rw [HG.out])⟩
         simp only [Act.put, List.setIfInBounds_toArray, List.set_cons_zero, List.set_cons_succ]
         refine rg_quiet rfl rfl rfl rfl ?_; intro K hK; go_big_quiet_op; go_big_quiet_on
         refine rg_quiet rfl rfl rfl rfl ?_; intro K hK; go_big_quiet_op; go_big_quiet_on
         refine rel_nil fun w8 hE8 _ => ?_
         have oq8 := oq6.ext' hE8
         clear x0 x1 x2 x3 x4 x5 x6 x7 z0 z1 z2 p0 p1 p2 hE8
         go_wp2_with fail
         go_roundw
         case rel =>
          refine ⟨j + 1, _, L2, by omega, by go_num, oq8, by omega, ?_⟩
          show _ = _
          rw [HSTEP.out, HID.out]
          simp [t1, t2, t3]
         case measure => simp [intOf]; omega
        ·have t3 : decide (M.live.at_ ≤ G) = false := by simpa using i3
         refine wp_region_tab 32 [(29, fun v _ => v = .int .i64 G)] (by kernel_rfl) (by kernel_rfl) (by kernel_rfl) ⟨stays_eq _, trivial⟩ ?_
         replace x0 := held x0
         replace x1 := held x1
         replace x2 := held x2
         replace x3 := held x3
         replace x4 := held x4
         replace x5 := held x5
         replace x6 := held x6
         replace x7 := held x7
         replace z1 := held z1
         replace p0 := held p0
         refine rg_quiet rfl rfl rfl rfl ?_; intro K hK; go_big_quiet_op; go_big_quiet_on
         refine rg_quiet rfl rfl rfl rfl ?_; intro K hK; go_big_quiet_op; go_big_quiet_on
         refine rg_quiet rfl rfl rfl rfl ?_; intro K hK; go_big_quiet_op; go_big_quiet_on
         refine rg_quiet rfl rfl rfl rfl ?_; intro K hK; go_big_quiet_op; go_big_quiet_on
         refine rg_quiet rfl rfl rfl rfl ?_; intro K hK; go_big_quiet_op; go_big_quiet_on
         refine rg_quiet rfl rfl rfl rfl ?_; intro K hK; go_big_quiet_op; go_big_quiet_on
         refine rg_quiet rfl rfl rfl rfl ?_; intro K hK; go_big_quiet_op; go_big_quiet_on
         refine rg_quiet rfl rfl rfl rfl ?_; intro K hK; go_big_quiet_op; go_big_quiet_on
         refine rg_quiet rfl rfl rfl rfl ?_; intro K hK; go_big_quiet_op; go_big_quiet_on
         refine rg_quiet rfl rfl rfl rfl ?_; intro K hK; go_big_quiet_op; go_big_quiet_on
         refine rg_quiet rfl rfl rfl rfl ?_; intro K hK; go_big_quiet_op; go_big_quiet_on
         refine rg_quiet rfl rfl rfl rfl ?_; intro K hK; go_big_quiet_op; go_big_quiet_on
         refine rg_quiet rfl rfl rfl rfl ?_; intro K hK; go_big_quiet_op; go_big_quiet_on
         refine rg_quiet rfl rfl rfl rfl ?_; intro K hK; go_big_quiet_op; go_big_quiet_on
         refine rg_quiet rfl rfl rfl rfl ?_; intro K hK; go_big_quiet_op; go_big_quiet_on
         refine rg_quiet rfl rfl rfl rfl ?_; intro K hK; go_big_quiet_op; go_big_quiet_on
         refine rg_quiet rfl rfl rfl rfl ?_; intro K hK; go_big_quiet_op; go_big_quiet_on
         refine rg_quiet rfl rfl rfl rfl ?_; intro K hK; go_big_quiet_op; go_big_quiet_on
         refine rg_quiet rfl rfl rfl rfl ?_; intro K hK; go_big_quiet_op; go_big_quiet_on
         refine rg_quiet rfl rfl rfl rfl ?_; intro K hK; go_big_quiet_op; go_big_quiet_on
         refine rg_quiet rfl rfl rfl rfl ?_; intro K hK; go_big_quiet_op; go_big_quiet_on
         refine rg_quiet rfl rfl rfl rfl ?_; intro K hK; go_big_quiet_op; go_big_quiet_on
         refine rg_quiet rfl rfl rfl rfl ?_; intro K hK; go_big_quiet_op; go_big_quiet_on
         refine rg_quiet rfl rfl rfl rfl ?_; intro K hK; go_big_quiet_op; go_big_quiet_on
         refine rg_quiet rfl rfl rfl rfl ?_; intro K hK; go_big_quiet_op; go_big_quiet_on
         refine rg_quiet rfl rfl rfl rfl ?_; intro K hK; go_big_quiet_op; go_big_quiet_on
         refine rg_quiet rfl rfl rfl rfl ?_; intro K hK; go_big_quiet_op; go_big_quiet_on
         refine rg_quiet rfl rfl rfl rfl ?_; intro K hK; go_big_quiet_op; go_big_quiet_on
         refine rg_quiet rfl rfl rfl rfl ?_; intro K hK; go_big_quiet_op; go_big_quiet_on
         refine rg_val [] rfl rfl rfl (by kernel_rfl) (fun w1 hE hf => ?_) ?_
         ·go_simp
          exact (gone7_any M (.slice um M.cols.length cm) xg w1).mono fun e w' ⟨he, hw⟩ => ⟨_, he, rg_done hE hw (by rw [HG.out])⟩
         simp only [Act.put, List.setIfInBounds_toArray, List.set_cons_zero, List.set_cons_succ]
         refine rg_quiet rfl rfl rfl rfl ?_; intro K hK; go_big_quiet_op; go_big_quiet_on
         refine rg_quiet rfl rfl rfl rfl ?_; intro K hK; go_big_quiet_op; go_big_quiet_on
         refine rel_nil fun w8 hE8 _ => ?_
         have oq8 := oq6.ext' hE8
         have r8 := r6.ext hE8
         have HIDF : Hid (idleB xg M = false) := Lib.hid (by rw [HID.out]; simp [t1, t2, t3])
         clear x0 x1 x2 x3 x4 x5 x6 x7 z0 z1 z2 p0 p1 p2 hE8 oq6 r6 t1 t2 t3 i1 i2 i3
         obtain ⟨y0, y1, y2⟩ := (oq8.keep _ _ _ jA.out hAS).pa
         go_wp2_with fail
         refine (row8_any pk pg _ all (cof M) w8 (RowsIn.ext (Ext.refl _) (oq8.rowsT jS jAR.out).rows)).mono ?_
         rw [HALM.out, ← HR.out]
         rintro e w9 ⟨v9, rfl, hc9, hE9⟩
         obtain ⟨a9, c9, hv9⟩ := hc9.shape
         subst hv9
         have oq9 := oq8.ext' hE9
         have r9 := r8.ext hE9
         clear y0 y1 y2
         go_wp2_with (((guard_target =~ wpList _ _ _ (Oper.mk none (Op.store _ (Operand.tmp 24) (Operand.tmp 151)) _ _ _ _ :: _) _ _); go_must (refine storeBox rfl 47 (.tmp 24) (.tmp 151) rfl (w9.heap.size) _ _ _ (by rfl) (by rfl) ((BoxAt.made w9 (ro8 ⟨⟨#[]⟩, zeroCl, 0, 0, []⟩ (.slice none 0 0)) 47)) (by kernel_rfl) (by rfl) (by simp [Value.oneCell']) ?_); intro w10 d10 g10); have hX10 : Ext w9 w10 := ((Ext.refl w9).alloc _).grown g10 (fun q hq => by cases hq; omega); have oq10 := oq9.ext' hX10; have v10 := (oq10.keep _ _ _ j0.out (by omega)).vw; have p10 := (oq10.keep _ _ _ jA.out hAS).pa; have e10 := d10.ro (r := R) (v := .slice a9 R.cols.length c9))
         have r10 := r9.ext hX10
         have b10 : BoxAt w10 w9.heap.size (ro8 R (.slice a9 R.cols.length c9)) 47 := d10
         have hcR10 : ColsIn w10 (.slice a9 R.cols.length c9) R.cols := hc9.ext hX10
         refine (mirror18_any x u ns pk pg _ R _ w10 hcR10 hRc (HNS.out.ext oq10.ext) (by omega) (by rw [HRK.out]; have := HK2.out; omega)).mono ?_
         rw [mirF_short (by rw [HRK.out]; exact HK3.out), ← HMI.out]
         rintro e w11 ⟨rv, rfl, ps11, hr11, hpm11, hE11⟩
         obtain ⟨ar, cr, hvr⟩ := hr11.shape
         subst hvr
         have oq11 := oq10.ext' hE11
         have r11 := r10.ext hE11
         have b11 := b10.ext hE11
         have hcR11 := hcR10.ext hE11
         obtain ⟨n11, hn11⟩ : ∃ n, n = ps11.length := ⟨_, rfl⟩
         rw [← hn11]
         clear hn11 d10 g10 v10 p10 e10 oq8 r8 oq9 r9 oq10 r10 b10 hcR10 hE9 hX10 hE11 hr11 hpm11 hc9
         cases mi with
         | none =>
          go_wp2_with (((guard_target =~ wpList _ _ _ (Oper.mk none (Op.store _ (Operand.tmp 26) (Operand.tmp 158)) _ _ _ _ :: _) _ _); go_must (refine storeBox rfl 39 (.tmp 26) (.tmp 158) rfl (w11.heap.size) _ _ _ (by rfl) (by rfl) ((BoxAt.made w11 (pa3 ⟨#[]⟩ 0 (.slice none 0 0)) 39)) (by kernel_rfl) (by rfl) (by simp [Value.oneCell']) ?_); intro w12 d12 g12); have hX12 : Ext w11 w12 := ((Ext.refl w11).alloc _).grown g12 (fun q hq => by cases hq; omega); have oq12 := oq11.ext' hX12; have m12 := d12.pa (k := mirK none) (g := 0) (u := .slice ar n11 cr); have z12 := (oq12.keep _ _ _ j2.out (by omega)).pa)
          have r12 := r11.ext hX12
          have b12 := b11.ext hX12
          have hcR12 := hcR11.ext hX12
          clear m12 z12 d12 g12 oq11 r11 b11 hcR11
          obtain ⟨al2, cl2, hv2⟩ := oq12.rows.shape
          obtain ⟨nS, hnS⟩ : ∃ n, n = L2.length := ⟨_, rfl⟩
          rw [← hnS] at hv2
          subst hv2
          have HNS2 := Lib.hid hnS
          clear hnS
          obtain ⟨s0, s1, s2⟩ := oq12.box.pa
          obtain ⟨v0, v1, v2, v3, v4⟩ := (oq12.keep _ _ _ j0.out (by omega)).vw
          obtain ⟨y0, y1, y2⟩ := (oq12.keep _ _ _ jA.out hAS).pa
          obtain ⟨x0, x1, x2, x3, x4, x5, x6, x7⟩ := r12.ro
          obtain ⟨b0, b1, b2, b3, b4, b5, b6, b7⟩ := b12.ro
          refine wp_region_tab 13 [(10, fun v y => ∃ v', v = (.agg #[.string JL.key, .string JL.live.val, .bool JL.live.dead, .int .i64 JL.live.at_, .int .i64 JL.live.fin, .int .i64 JL.gone, .int .i64 JL.shade, v']) ∧ ColsT y v' JL.cols), (11, fun v y => SP L2 JL (nS + 1) v y)] (by kernel_rfl) (by kernel_rfl) (by kernel_rfl) ⟨fun _ _ _ hE ⟨v', e, h⟩ => ⟨v', e, TIn.ext hE h⟩, fun _ _ _ hE h => h.ext hE, trivial⟩ ?_
          replace s0 := held s0
          replace s1 := held s1
          replace s2 := held s2
          replace v0 := held v0
          replace v1 := held v1
          replace v2 := held v2
          replace v3 := held v3
          replace v4 := held v4
          replace y0 := held y0
          replace y1 := held y1
          replace y2 := held y2
          replace x0 := held x0
          replace x1 := held x1
          replace x2 := held x2
          replace x3 := held x3
          replace x4 := held x4
          replace x5 := held x5
          replace x6 := held x6
          replace x7 := held x7
          replace b0 := held b0
          replace b1 := held b1
          replace b2 := held b2
          replace b3 := held b3
          replace b4 := held b4
          replace b5 := held b5
          replace b6 := held b6
          replace b7 := held b7
          refine rg_quiet rfl rfl rfl rfl ?_; intro K hK; go_big_quiet_op; go_big_quiet_on
          refine rg_quiet rfl rfl rfl rfl ?_; intro K hK; go_big_quiet_op; go_big_quiet_on
          refine rg_quiet rfl rfl rfl rfl ?_; intro K hK; go_big_quiet_op; go_big_quiet_on
          refine rg_quiet rfl rfl rfl rfl ?_; intro K hK; go_big_quiet_op; go_big_quiet_on
          refine rg_quiet rfl rfl rfl rfl ?_; intro K hK; go_big_quiet_op; go_big_quiet_on
          refine rg_quiet rfl rfl rfl rfl ?_; intro K hK; go_big_quiet_op; go_big_quiet_on
          refine rg_quiet rfl rfl rfl rfl ?_; intro K hK; go_big_quiet_op; go_big_quiet_on
          refine rg_quiet rfl rfl rfl rfl ?_; intro K hK; go_big_quiet_op; go_big_quiet_on
          refine rg_quiet rfl rfl rfl rfl ?_; intro K hK; go_big_quiet_op; go_big_quiet_on
          refine rg_quiet rfl rfl rfl rfl ?_; intro K hK; go_big_quiet_op; go_big_quiet_on
          refine rg_fact [] rfl rfl rfl (by kernel_rfl) (fun y hY hf => ?_) (fun v10 y10 hE10 hG10 h10 => ?_)
          ·go_simp
           refine (left19_any x u M.key M.live.at_ pk pg _ R _ y (hcR12.ext hY)).mono ?_
           rw [left19_is, ← HJL.out]
           rintro e y' ⟨v', rfl, h1, hy⟩
           exact ⟨_, rfl, rg_doneR hY hy ⟨v', rfl, h1⟩⟩
          obtain ⟨v10, rfl, h10⟩ := h10
          obtain ⟨a10, c10, rfl⟩ := TIn.shape h10
          clear hE10 hG10 h10
          simp only [Act.put, List.setIfInBounds_toArray, List.set_cons_zero, List.set_cons_succ]
          refine rg_fact [10] rfl rfl rfl (by kernel_rfl) (fun y hY hf => ?_) (fun v11 y11 hE11 hG11 h11 => ?_)
          ·obtain ⟨v', e, h1⟩ := (hf 10 (by simp)).2 rfl
           cases e
           go_simp
           refine (rowPut_any _ L2 JL _ y (oq12.rows.ext hY) h1 (by omega) (fun p hp => ?_)).mono ?_
           ·have hm : p.1 ∈ shadeRs x ns xk xg pk pg AL cof ((qs.map (·.1)).take j) := by rw [← HDj.out]; exact List.mem_map_of_mem hp
            obtain ⟨r, hr, e⟩ := mem_shadeRs hm
            obtain ⟨h5, h6⟩ := HLA.out r hr
            have hk1 : p.1.key = vkey pk (cof r) := by rw [e]; exact h6
            have hk2 : JL.key = vkey pk (cof M) := by rw [HJL.out]; exact HK1.out
            show cmpB p.1.key.data.toList JL.key.data.toList < 0
            rw [hk1, hk2, cmp_vk]
            exact h5
           rintro e y' ⟨v', rfl, h2, hy⟩
           exact ⟨_, rfl, rg_doneR hY hy (SP.of HNS2.out h2)⟩
          obtain ⟨a11, c11, _, rfl, _⟩ := h11.ex
          clear hE11 hG11
          simp only [Act.put, List.setIfInBounds_toArray, List.set_cons_zero, List.set_cons_succ]
          refine rg_quiet rfl rfl rfl rfl ?_; intro K hK; go_big_quiet_op; go_big_quiet_on
          refine rel_tail rfl rfl fun w13 hE13 hG => ?_
          obtain ⟨a5, c5, v5, e5, h5⟩ := SP.ex ((hG 11).2 rfl)
          cases e5
          clear hG s0 s1 s2 v0 v1 v2 v3 v4 y0 y1 y2 x0 x1 x2 x3 x4 x5 x6 x7 b0 b1 b2 b3 b4 b5 b6 b7
          have oq13 := oq12.ext' hE13
          have qc : w13.cell? ⟨cS, 2, none⟩ = some (.slice al2 nS cl2) := oq13.box.cell 2
          have qf := oq13.box.free 2
          obtain ⟨L3, hL3⟩ : ∃ L, L = L2 ++ [(JL, v5)] := ⟨_, rfl⟩
          rw [← hL3] at h5
          have HL3 := Lib.hid hL3
          clear hL3
          go_wp2_with fail
          go_roundw
          case rel =>
           refine ⟨j + 1, _, L3, by omega, by go_num, oq13.put hwS h5, by rw [HL3.out]; simp; omega, ?_⟩
           show _ = _
           rw [HSTEP.out, HIDF.out, if_neg (by decide), if_pos (show strayB none xk = true from rfl), HL3.out, List.map_append]
           rfl
          case measure => simp [intOf]; omega
         | some p =>
          by_cases hpx : p.1 = xk
          ·have hkb : ((mirK (some p)).toList == xk.toList) = true := by simpa [mirK] using congrArg ByteArray.toList hpx
           go_wp2_with (((guard_target =~ wpList _ _ _ (Oper.mk none (Op.store _ (Operand.tmp 26) (Operand.tmp 158)) _ _ _ _ :: _) _ _); go_must (refine storeBox rfl 39 (.tmp 26) (.tmp 158) rfl (w11.heap.size) _ _ _ (by rfl) (by rfl) ((BoxAt.made w11 (pa3 ⟨#[]⟩ 0 (.slice none 0 0)) 39)) (by kernel_rfl) (by rfl) (by simp [Value.oneCell']) ?_); intro w12 d12 g12); have hX12 : Ext w11 w12 := ((Ext.refl w11).alloc _).grown g12 (fun q hq => by cases hq; omega); have oq12 := oq11.ext' hX12; have m12 := d12.pa (k := mirK (some p)) (g := 0) (u := .slice ar n11 cr); have z12 := (oq12.keep _ _ _ j2.out (by omega)).pa)
           go_roundw
           case rel =>
            refine ⟨j + 1, _, L2, by omega, by go_num, oq12, by omega, ?_⟩
            show _ = _
            rw [HSTEP.out, HIDF.out, if_neg (by decide), if_neg (by
             have : ((mirK (some p)).toList == xk.toList) = true := by simpa [mirK] using congrArg ByteArray.toList hpx
             simp [strayB, this])]
            simp
           case measure => simp [intOf]; omega
          ·have hk0 : ((mirK (some p)).toList == xk.toList) = false := by
            simp only [mirK]
            rw [beq_eq_false_iff_ne]
            intro h
            exact hpx (bytes_of h)
           go_wp2_with (((guard_target =~ wpList _ _ _ (Oper.mk none (Op.store _ (Operand.tmp 26) (Operand.tmp 158)) _ _ _ _ :: _) _ _); go_must (refine storeBox rfl 39 (.tmp 26) (.tmp 158) rfl (w11.heap.size) _ _ _ (by rfl) (by rfl) ((BoxAt.made w11 (pa3 ⟨#[]⟩ 0 (.slice none 0 0)) 39)) (by kernel_rfl) (by rfl) (by simp [Value.oneCell']) ?_); intro w12 d12 g12); have hX12 : Ext w11 w12 := ((Ext.refl w11).alloc _).grown g12 (fun q hq => by cases hq; omega); have oq12 := oq11.ext' hX12; have m12 := d12.pa (k := mirK (some p)) (g := 0) (u := .slice ar n11 cr); have z12 := (oq12.keep _ _ _ j2.out (by omega)).pa)
           have r12 := r11.ext hX12
           have b12 := b11.ext hX12
           have hcR12 := hcR11.ext hX12
           clear m12 z12 d12 g12 oq11 r11 b11 hcR11
           obtain ⟨al2, cl2, hv2⟩ := oq12.rows.shape
           obtain ⟨nS, hnS⟩ : ∃ n, n = L2.length := ⟨_, rfl⟩
           rw [← hnS] at hv2
           subst hv2
           have HNS2 := Lib.hid hnS
           clear hnS
           obtain ⟨s0, s1, s2⟩ := oq12.box.pa
           obtain ⟨v0, v1, v2, v3, v4⟩ := (oq12.keep _ _ _ j0.out (by omega)).vw
           obtain ⟨y0, y1, y2⟩ := (oq12.keep _ _ _ jA.out hAS).pa
           obtain ⟨x0, x1, x2, x3, x4, x5, x6, x7⟩ := r12.ro
           obtain ⟨b0, b1, b2, b3, b4, b5, b6, b7⟩ := b12.ro
           refine wp_region_tab 13 [(10, fun v y => ∃ v', v = (.agg #[.string JL.key, .string JL.live.val, .bool JL.live.dead, .int .i64 JL.live.at_, .int .i64 JL.live.fin, .int .i64 JL.gone, .int .i64 JL.shade, v']) ∧ ColsT y v' JL.cols), (11, fun v y => SP L2 JL (nS + 1) v y)] (by kernel_rfl) (by kernel_rfl) (by kernel_rfl) ⟨fun _ _ _ hE ⟨v', e, h⟩ => ⟨v', e, TIn.ext hE h⟩, fun _ _ _ hE h => h.ext hE, trivial⟩ ?_
           replace s0 := held s0
           replace s1 := held s1
           replace s2 := held s2
           replace v0 := held v0
           replace v1 := held v1
           replace v2 := held v2
           replace v3 := held v3
           replace v4 := held v4
           replace y0 := held y0
           replace y1 := held y1
           replace y2 := held y2
           replace x0 := held x0
           replace x1 := held x1
           replace x2 := held x2
           replace x3 := held x3
           replace x4 := held x4
           replace x5 := held x5
           replace x6 := held x6
           replace x7 := held x7
           replace b0 := held b0
           replace b1 := held b1
           replace b2 := held b2
           replace b3 := held b3
           replace b4 := held b4
           replace b5 := held b5
           replace b6 := held b6
           replace b7 := held b7
           refine rg_quiet rfl rfl rfl rfl ?_; intro K hK; go_big_quiet_op; go_big_quiet_on
           refine rg_quiet rfl rfl rfl rfl ?_; intro K hK; go_big_quiet_op; go_big_quiet_on
           refine rg_quiet rfl rfl rfl rfl ?_; intro K hK; go_big_quiet_op; go_big_quiet_on
           refine rg_quiet rfl rfl rfl rfl ?_; intro K hK; go_big_quiet_op; go_big_quiet_on
           refine rg_quiet rfl rfl rfl rfl ?_; intro K hK; go_big_quiet_op; go_big_quiet_on
           refine rg_quiet rfl rfl rfl rfl ?_; intro K hK; go_big_quiet_op; go_big_quiet_on
           refine rg_quiet rfl rfl rfl rfl ?_; intro K hK; go_big_quiet_op; go_big_quiet_on
           refine rg_quiet rfl rfl rfl rfl ?_; intro K hK; go_big_quiet_op; go_big_quiet_on
           refine rg_quiet rfl rfl rfl rfl ?_; intro K hK; go_big_quiet_op; go_big_quiet_on
           refine rg_quiet rfl rfl rfl rfl ?_; intro K hK; go_big_quiet_op; go_big_quiet_on
           refine rg_fact [] rfl rfl rfl (by kernel_rfl) (fun y hY hf => ?_) (fun v10 y10 hE10 hG10 h10 => ?_)
           ·go_simp
            refine (left19_any x u M.key M.live.at_ pk pg _ R _ y (hcR12.ext hY)).mono ?_
            rw [left19_is, ← HJL.out]
            rintro e y' ⟨v', rfl, h1, hy⟩
            exact ⟨_, rfl, rg_doneR hY hy ⟨v', rfl, h1⟩⟩
           obtain ⟨v10, rfl, h10⟩ := h10
           obtain ⟨a10, c10, rfl⟩ := TIn.shape h10
           clear hE10 hG10 h10
           simp only [Act.put, List.setIfInBounds_toArray, List.set_cons_zero, List.set_cons_succ]
           refine rg_fact [10] rfl rfl rfl (by kernel_rfl) (fun y hY hf => ?_) (fun v11 y11 hE11 hG11 h11 => ?_)
           ·obtain ⟨v', e, h1⟩ := (hf 10 (by simp)).2 rfl
            cases e
            go_simp
            refine (rowPut_any _ L2 JL _ y (oq12.rows.ext hY) h1 (by omega) (fun p hp => ?_)).mono ?_
            ·have hm : p.1 ∈ shadeRs x ns xk xg pk pg AL cof ((qs.map (·.1)).take j) := by rw [← HDj.out]; exact List.mem_map_of_mem hp
             obtain ⟨r, hr, e⟩ := mem_shadeRs hm
             obtain ⟨h5, h6⟩ := HLA.out r hr
             have hk1 : p.1.key = vkey pk (cof r) := by rw [e]; exact h6
             have hk2 : JL.key = vkey pk (cof M) := by rw [HJL.out]; exact HK1.out
             show cmpB p.1.key.data.toList JL.key.data.toList < 0
             rw [hk1, hk2, cmp_vk]
             exact h5
            rintro e y' ⟨v', rfl, h2, hy⟩
            exact ⟨_, rfl, rg_doneR hY hy (SP.of HNS2.out h2)⟩
           obtain ⟨a11, c11, _, rfl, _⟩ := h11.ex
           clear hE11 hG11
           simp only [Act.put, List.setIfInBounds_toArray, List.set_cons_zero, List.set_cons_succ]
           refine rg_quiet rfl rfl rfl rfl ?_; intro K hK; go_big_quiet_op; go_big_quiet_on
           refine rel_tail rfl rfl fun w13 hE13 hG => ?_
           obtain ⟨a5, c5, v5, e5, h5⟩ := SP.ex ((hG 11).2 rfl)
           cases e5
           clear hG s0 s1 s2 v0 v1 v2 v3 v4 y0 y1 y2 x0 x1 x2 x3 x4 x5 x6 x7 b0 b1 b2 b3 b4 b5 b6 b7
           have oq13 := oq12.ext' hE13
           have qc : w13.cell? ⟨cS, 2, none⟩ = some (.slice al2 nS cl2) := oq13.box.cell 2
           have qf := oq13.box.free 2
           obtain ⟨L3, hL3⟩ : ∃ L, L = L2 ++ [(JL, v5)] := ⟨_, rfl⟩
           rw [← hL3] at h5
           have HL3 := Lib.hid hL3
           clear hL3
           go_wp2_with fail
           go_roundw
           case rel =>
            refine ⟨j + 1, _, L3, by omega, by go_num, oq13.put hwS h5, by rw [HL3.out]; simp; omega, ?_⟩
            show _ = _
            rw [HSTEP.out, HIDF.out, if_neg (by decide), if_pos (show strayB (some p) xk = true by simp [strayB, hk0]), HL3.out, List.map_append]
            rfl
           case measure => simp [intOf]; omega
     ·obtain rfl : n = j := by omega
      have hSHe : L2.map (·.1) = SH := by rw [HDj.out, HSH.out, List.take_of_length_le (by simp; rw [← HN.out]; exact Nat.le_refl _)]
      obtain ⟨al2, cl2, hv2⟩ := hoq.rows.shape
      obtain ⟨nS, hnS⟩ : ∃ n, n = L2.length := ⟨_, rfl⟩
      rw [← hnS] at hv2
      subst hv2
      have HSHE := Lib.hid hSHe
      clear hnS hSHe
      obtain ⟨s0, s1, s2⟩ := hoq.box.pa
      have hBx := hoq.keep _ _ _ jB.out (Ne.symm hSB)
      obtain ⟨b0, b1, b2⟩ := hBx.pa
      have r3 := hoq.keep _ _ _ j3.out (by omega)
      have r4 := hoq.keep _ _ _ j4.out (by omega)
      have hLR : RowsT wr (.slice al nL ll) L := hoq.rowsT jS jR.out
      have e30 : wr.cell? ⟨w.heap.size + 1 + 1 + 1, 0, none⟩ = some (.string ⟨#[]⟩) := r3.cell 0
      have e40 : wr.cell? ⟨w.heap.size + 1 + 1 + 1 + 1, 0, none⟩ = some (.string ⟨#[]⟩) := r4.cell 0
      have e31 : wr.cell? ⟨w.heap.size + 1 + 1 + 1, 1, none⟩ = some (.int .i64 0) := r3.cell 1
      have e41 : wr.cell? ⟨w.heap.size + 1 + 1 + 1 + 1, 1, none⟩ = some (.int .i64 0) := r4.cell 1
      have e32 : wr.cell? ⟨w.heap.size + 1 + 1 + 1, 2, none⟩ = some (.slice none 0 0) := r3.cell 2
      have e42 : wr.cell? ⟨w.heap.size + 1 + 1 + 1 + 1, 2, none⟩ = some (.slice none 0 0) := r4.cell 2
      have f3 := r3.free
      have f4 := r4.free
      have n1 : ¬ cS = w.heap.size + 1 + 1 + 1 := by omega
      have n2 : ¬ cS = w.heap.size + 1 + 1 + 1 + 1 := by omega
      have n3 : ¬ cB = w.heap.size + 1 + 1 + 1 := by omega
      have n4 : ¬ cB = w.heap.size + 1 + 1 + 1 + 1 := by omega
      have n5 : ¬ w.heap.size + 1 + 1 + 1 = w.heap.size + 1 + 1 + 1 + 1 := by omega
      go_wp2_with fail
      go_region
      have a0 := r3
      have d0 := r4
      have g0 := hoq.rows
      have h0 := hLR
      have E0 := hoq.ext
      have g1 := g0.set 0 (.string xk) a0 (by decide) (by decide)
      have h1 := h0.set 0 (.string xk) a0 (by decide) (by decide)
      have d1 := d0.other (q := w.heap.size + 1 + 1 + 1) (by omega) 0 (.string xk)
      have a1 := a0.set 0 (.string xk)
      have E1 := E0.setCell (p := ⟨w.heap.size + 1 + 1 + 1, 0, none⟩) (by show w.heap.size ≤ w.heap.size + 1 + 1 + 1; omega) (.string xk)
      have g2 := g1.set 1 (.int .i64 0) a1 (by decide) (by decide)
      have h2 := h1.set 1 (.int .i64 0) a1 (by decide) (by decide)
      have d2 := d1.other (q := w.heap.size + 1 + 1 + 1) (by omega) 1 (.int .i64 0)
      have a2 := a1.set 1 (.int .i64 0)
      have E2 := E1.setCell (p := ⟨w.heap.size + 1 + 1 + 1, 1, none⟩) (by show w.heap.size ≤ w.heap.size + 1 + 1 + 1; omega) (.int .i64 0)
      have g3 := g2.set 2 (.slice al2 nS cl2) a2 (by decide) (by decide)
      have h3 := h2.set 2 (.slice al2 nS cl2) a2 (by decide) (by decide)
      have d3 := d2.other (q := w.heap.size + 1 + 1 + 1) (by omega) 2 (.slice al2 nS cl2)
      have a3 := a2.set 2 (.slice al2 nS cl2)
      have E3 := E2.setCell (p := ⟨w.heap.size + 1 + 1 + 1, 2, none⟩) (by show w.heap.size ≤ w.heap.size + 1 + 1 + 1; omega) (.slice al2 nS cl2)
      have g4 := g3.set 0 (.string pk) d3 (by decide) (by decide)
      have h4 := h3.set 0 (.string pk) d3 (by decide) (by decide)
      have a4 := a3.other (q := w.heap.size + 1 + 1 + 1 + 1) (by omega) 0 (.string pk)
      have d4 := d3.set 0 (.string pk)
      have E4 := E3.setCell (p := ⟨w.heap.size + 1 + 1 + 1 + 1, 0, none⟩) (by show w.heap.size ≤ w.heap.size + 1 + 1 + 1 + 1; omega) (.string pk)
      have g5 := g4.set 1 (.int .i64 0) d4 (by decide) (by decide)
      have h5 := h4.set 1 (.int .i64 0) d4 (by decide) (by decide)
      have a5 := a4.other (q := w.heap.size + 1 + 1 + 1 + 1) (by omega) 1 (.int .i64 0)
      have d5 := d4.set 1 (.int .i64 0)
      have E5 := E4.setCell (p := ⟨w.heap.size + 1 + 1 + 1 + 1, 1, none⟩) (by show w.heap.size ≤ w.heap.size + 1 + 1 + 1 + 1; omega) (.int .i64 0)
      have g6 := g5.set 2 (.slice al nL ll) d5 (by decide) (by decide)
      have h6 := h5.set 2 (.slice al nL ll) d5 (by decide) (by decide)
      have a6 := a5.other (q := w.heap.size + 1 + 1 + 1 + 1) (by omega) 2 (.slice al nL ll)
      have d6 := d5.set 2 (.slice al nL ll)
      have E6 := E5.setCell (p := ⟨w.heap.size + 1 + 1 + 1 + 1, 2, none⟩) (by show w.heap.size ≤ w.heap.size + 1 + 1 + 1 + 1; omega) (.slice al nL ll)
      have g7 := g6.ext (Ext.refl _).drew
      have h7 := h6.ext (Ext.refl _).drew
      have a7 := a6.ext (Ext.refl _).drew
      have d7 := d6.ext (Ext.refl _).drew
      have E7 := E6.drew
      clear g0 g1 g2 g3 g4 g5 g6 h0 h1 h2 h3 h4 h5 h6 a0 a1 a2 a3 a4 a5 a6 d0 d1 d2 d3 d4 d5 d6 E0 E1 E2 E3 E4 E5 E6 s0 s1 s2 b0 b1 b2 r3 r4 e30 e40 e31 e41 e32 e42 f3 f4
      generalize World.drew (World.setCell _ _ _) = w9 at g7 h7 a7 d7 E7 ⊢
      have c3 : BoxAt w9 (w.heap.size + 1 + 1 + 1) (pa3 xk 0 (.slice al2 nS cl2)) 39 := a7
      have c4 : BoxAt w9 (w.heap.size + 1 + 1 + 1 + 1) (pa3 pk 0 (.slice al nL ll)) 39 := d7
      obtain ⟨s0, s1, s2⟩ := c3.pa
      obtain ⟨b0, b1, b2⟩ := c4.pa
      go_wp2_with fail
      refine bodyPost_ret (v := .tuple #[.agg #[.string xk, .int .i64 0, .slice al2 nS cl2], .agg #[.string pk, .int .i64 0, .slice al nL ll]]) ?_ rfl ⟨_, _, L2, L, rfl, g7, HSHE.out, h7, HLB.out, E7⟩
      simp [results, Tryz.results12, go_sem, s0, s1, s2, b0, b1, b2]
end Go.Proofs.YtolkhjdododdaaaGreatDoor
