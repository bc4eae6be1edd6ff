/- The walk over the reference 02: GetText. -/
import Derived.Test.YtfagnbofnaoncaaP6
import Derived.Test.YtfagnbofnaoncaaP7
import Derived.Test.YtfagnbofnaoncaaP9
import Derived.Test.YtfagnbofnaoncaaP10
set_option linter.unusedSimpArgs false
set_option linter.unusedVariables false
namespace Go.Proofs.Ytfagnbofnaoncaa
open Go Go.RowKit
attribute [local go_sem] yields yUpon

theorem tupT_rets {l : List UInt8} {at_ : Int} {x : ByteArray} {y z : Int} {t : List UInt8} (h : getText l at_ = (t, y, z)) (hx : x = str t) : Ending.returned (.tuple #[.string x, .int .i64 y, .int .i64 z]) = .returned (tupT (getText l at_)) := tupT_ret h hx

set_option maxHeartbeats 2000000 in
theorem rgetText_any (s : ByteArray) (at_ : Int) (w : World) (hl : s.size ≤ 140737488000000) :
    Calls Try.prog 24 #[.string s, .int .i64 at_] w fun e w' => e = .returned (tupT (getText s.data.toList at_)) ∧ w = w' := by
  obtain ⟨l, hls⟩ : ∃ l, l = s.data.toList := ⟨_, rfl⟩
  have hlen : l.length = s.size := by rw [hls]; rfl
  have hget : ∀ (k : Nat) (h : k < s.size), l[k]'(by omega) = s[k]'h := by subst hls; intro k h; rfl
  rw [← hls]
  have HL := Lib.hid hls
  have HG := Lib.hid hget
  clear hls hget
  by_cases h0 : at_ < 0
  · have d0 : decide (at_ < 0) = true := by simpa using h0
    go_enter Try.func24, Try.ntmps24
    go_wp2
    go_ret3
    refine ⟨tupT_ret (t := []) ?_ (by rfl), rfl⟩
    unfold getText
    rw [if_pos h0]
  · have d0 : decide (at_ < 0) = false := by simpa using h0
    obtain ⟨i, rfl⟩ : ∃ i : Nat, at_ = i := ⟨at_.toNat, by omega⟩
    have EN : Hid (getText l (i : Int) = getTextN l i) := by unfold getText; rw [if_neg h0]; rfl
    by_cases h1 : s.size < i
    · have d1 : decide ((s.size : Int) < (i : Int)) = true := by simpa using h1
      go_enter Try.func24, Try.ntmps24
      go_wp2
      go_ret3
      refine ⟨tupT_ret (t := []) ?_ (by rfl), rfl⟩
      rw [EN.out]
      unfold getTextN
      rw [if_pos (by omega)]
    · have d1 : decide ((s.size : Int) < (i : Int)) = false := by simpa using h1
      have EN2 : Hid (getText l (i : Int) = scanT [] (l.drop i) i) := EN.out.trans (by unfold getTextN; rw [if_neg (by omega)])
      clear EN
      go_enter Try.func24, Try.ntmps24
      go_wp2
      go_loop [7, 8] (fun t n => ∃ (k : Nat) (acc : List UInt8), k ≤ s.size ∧ n = .int .i64 k ∧ t = .string (str acc) ∧ acc.length ≤ k ∧ Hid (getText l (i : Int) = scanT acc (l.drop k) k)) (fun _ n => s.size - (intOf n).toNat)
      case atStart => exact ⟨i, [], by omega, rfl, rfl, Nat.zero_le _, EN2⟩
      case round =>
        obtain ⟨k, acc, hk, rfl, rfl, hacc, hS⟩ := hrel
        have q1 : ¬ 9223372036854775807 < acc.length + (min (k + 1) s.size - k) := by omega
        have q2 : ¬ 9223372036854775807 < acc.length + 1 := by omega
        by_cases hlt : k < s.size
        · by_cases hz : s[k] = 0
          · have z0 : ((s[k].toNat : Int) == 0) = true := byte_eq (c := 0) hz
            have hz' : l[k]'(by omega) = 0 := (HG.out k hlt).trans hz
            by_cases he : k + 1 = s.size
            · have e0 : decide ((s.size : Int) ≤ (k : Int) + 1) = true := by simp; omega
              have HR := Lib.hid (hS.out.trans (scan_short (by omega) (by omega)))
              clear hz hS he
              go_wp2
              go_ret3
              refine ⟨tupT_ret (t := []) ?_ (by rfl), rfl⟩
              exact HR.out
            · have e0 : decide ((s.size : Int) ≤ (k : Int) + 1) = false := by simp; omega
              have h2 : k + 1 < s.size := by omega
              have HT := Lib.hid (hS.out.trans (scan_two (by omega) hz'))
              have hg1 := HG.out (k + 1) h2
              clear hz hS
              by_cases hone : s[k + 1] = 1
              · have y1 : ((s[k + 1].toNat : Int) == 1) = true := byte_eq (c := 1) hone
                have h255 : ¬ s[k + 1] = 255 := by rw [hone]; decide
                have HR := Lib.hid (HT.out.trans (by rw [hg1, if_neg h255, if_pos hone]))
                clear h255 hone HT hg1
                go_wp2
                go_ret3
                refine ⟨tupT_ret (t := acc) ?_ (by rfl), rfl⟩
                rw [HR.out]
                simp
                try omega
              · have y1 : ((s[k + 1].toNat : Int) == 1) = false := byte_ne (c := 1) hone
                by_cases h255 : s[k + 1] = 255
                · have y0 : ((s[k + 1].toNat : Int) == 255) = true := byte_eq (c := 255) h255
                  have HS2 : Hid (getText l (i : Int) = scanT (acc ++ [0]) (l.drop (k + 2)) (k + 2)) := HT.out.trans (by rw [hg1, if_pos h255])
                  clear h255 hone HT hg1
                  go_wp2
                  go_round
                  case rel => exact ⟨k + 2, acc ++ [0], by omega, by go_num, rfl, by simp; omega, HS2⟩
                  case measure => simp [intOf] <;> omega
                · have y0 : ((s[k + 1].toNat : Int) == 255) = false := byte_ne (c := 255) h255
                  have HR := Lib.hid (HT.out.trans (by rw [hg1, if_neg h255, if_neg hone]))
                  clear h255 hone HT hg1
                  go_wp2
                  go_ret3
                  refine ⟨tupT_ret (t := []) ?_ (by rfl), rfl⟩
                  exact HR.out
          · have z0 : ((s[k].toNat : Int) == 0) = false := byte_ne (c := 0) hz
            have hz' : l[k]'(by omega) ≠ 0 := by rw [HG.out k hlt]; exact hz
            have HS2 : Hid (getText l (i : Int) = scanT (acc ++ [l[k]'(by omega)]) (l.drop (k + 1)) (k + 1)) := hS.out.trans (scan_byte (by omega) hz')
            have HSn : Hid (str acc ++ s.extract k (k + 1) = str (acc ++ [l[k]'(by omega)])) := by rw [str_snoc acc s k hlt]; congr 3; exact (HG.out k hlt).symm
            clear hz hz' hS
            go_wp2
            go_round
            case rel => exact ⟨k + 1, acc ++ [l[k]'(by omega)], by omega, by go_num, by rw [← HSn.out], by simp; omega, HS2⟩
            case measure => simp [intOf] <;> omega
        · go_wp2
          go_ret3
          refine ⟨tupT_ret (t := []) ?_ (by rfl), rfl⟩
          rw [hS.out, scan_end (by omega)]

end Go.Proofs.Ytfagnbofnaoncaa

/- The reference's Split; clerestorylaw18's few. -/
namespace Go.Proofs.Ytfagnbofnaoncaa
open Go Go.RowKit
attribute [local go_sem] yields yUpon tupT

set_option maxRecDepth 100000 in
set_option maxHeartbeats 1000000 in
theorem split18_any (k : ByteArray) (w : World) (hk : k.size ≤ 10000000) :
    Calls Try.prog 9 #[.string k] w fun e w' => ((getText k.data.toList 0).2.2 ≠ 0 ∧ e = .returned (.tuple #[.string ⟨#[]⟩, .string ⟨#[]⟩, .bool false]) ∨
      (getText k.data.toList 0).2.2 = 0 ∧ e = .returned (.tuple #[.string (str (getText k.data.toList 0).1), .string (k.extract (txt (getText k.data.toList 0).1).length k.size), .bool true])) ∧ Ext w w' := by
  have hS := getText_sound k.data.toList
  obtain ⟨p, hp⟩ : ∃ p, p = getText k.data.toList 0 := ⟨_, rfl⟩
  rw [← hp] at hS ⊢
  obtain ⟨t, i, z⟩ := p
  simp only at hS ⊢
  have HP := Lib.hid hp
  have HS := Lib.hid hS
  clear hp hS
  go_enter Try.func9, Try.ntmps9
  go_wp2_with fail
  refine (rgetText_any k 0 _ (by omega)).mono ?_
  rw [← HP.out]
  rintro e w2 ⟨rfl, rfl⟩
  by_cases hz : z = 0
  · subst hz
    obtain ⟨hi, hS2, hS3⟩ := HS.out rfl
    have hsz : k.data.toList.length = k.size := rfl
    rw [hsz] at hS3
    clear hS2 hsz HS HP
    subst hi
    go_wp2_with fail
    go_quiet (fail)
    go_wp2_with fail
    refine bodyPost_ret (v := .tuple #[.string (str t), .string (k.extract (txt t).length k.size), .bool true]) ?_ rfl ⟨by first | exact rfl | exact .inr ⟨rfl, rfl⟩, (Ext.refl _).drewN nq⟩
    simp [results, Try.results9, go_sem]
  · have h0 : (z == 0) = false := by simpa using hz
    go_wp2_with fail
    refine bodyPost_ret (v := .tuple #[.string ⟨#[]⟩, .string ⟨#[]⟩, .bool false]) ?_ rfl ⟨.inl ⟨hz, rfl⟩, Ext.refl _⟩
    simp [results, Try.results9, go_sem]

set_option maxRecDepth 100000 in
set_option maxHeartbeats 2000000 in
theorem few18_any (x : Vw) (u : Value) (ns : List ByteArray) (w : World) (hns : StrsIn w u ns) (hnb : ∀ s ∈ ns, s.size ≤ maxLen) (hob : x.on.size ≤ maxLen) :
    Calls Try.prog 4 #[.agg #[.string x.name, .int .i64 x.id, .string x.table, .string x.on, u]] w fun e w' => ∃ b, e = .returned (.bool b) ∧ (b = true → ns.length ≤ 12 ∧ x.on.size ≤ 300) ∧ Ext w w' := by
  obtain ⟨nm, id, tb, on⟩ := x
  simp only at hob ⊢
  have b0 := BoxAt.made w #[.string nm, .int .i64 id, .string tb, .string on, u] 24
  have hE0 := (Ext.refl w).alloc (.cells #[.string nm, .int .i64 id, .string tb, .string on, u] 24)
  obtain ⟨ak, ck, rfl, hck, hckm, hget⟩ := hns.get
  obtain ⟨n, hn⟩ : ∃ n, n = ns.length := ⟨_, rfl⟩
  rw [← hn] at hck b0 hE0 ⊢
  have HN := Lib.hid hn
  have HGET := Lib.hid hget
  have HKB := Lib.hid hnb
  unfold maxLen at hob
  clear hn hget hns hnb
  go_enter Try.func4, Try.ntmps4
  go_wp2_with fail
  generalize World.alloc w _ = w1 at b0 hE0 ⊢
  go_loopw [3] (fun i wr => ∃ k : Nat, k ≤ n ∧ k ≤ 12 ∧ i = .int .i64 k ∧ Ext w1 wr) (fun i _ => n - (intOf i).toNat)
  case atStart => exact ⟨0, Nat.zero_le _, Nat.zero_le _, rfl, Ext.refl w1⟩
  case round =>
    obtain ⟨k, hk, hk50, rfl, hE⟩ := hrel
    have hb := b0.ext hE
    have x3 : wr.cell? ⟨w.heap.size, 3, none⟩ = some (.string on) := hb.cell 3
    have x4 : wr.cell? ⟨w.heap.size, 4, none⟩ = some (.slice ak n ck) := hb.cell 4
    by_cases hgo : k < n ∧ k < 12
    · obtain ⟨hlt, h50⟩ := hgo
      have hkp : k < ns.length := by rw [← HN.out]; exact hlt
      obtain ⟨b, o, rfl, y0⟩ := HGET.out k hkp
      replace y0 := (hE0.trans hE).cell y0
      have hbs := HKB.out _ (List.getElem_mem hkp)
      unfold maxLen at hbs
      obtain ⟨s, hs⟩ : ∃ s, s = ns[k] := ⟨_, rfl⟩
      rw [← hs] at y0 hbs
      clear hs
      have t1 : decide ((k : Int) < (n : Int)) = true := by simpa using hlt
      have t2 : decide ((k : Int) < 12) = true := by simp; omega
      cases q1 : decide ((300 : Int) < (s.size : Int))
      · go_wp2_with fail
        go_roundw
        case rel => exact ⟨k + 1, by omega, by omega, by go_num, hE⟩
        case measure => simp [intOf] <;> omega
      · go_wp2_with fail
        go_ret
        exact ⟨false, rfl, nofun, hE0.trans hE⟩
    · have hor : k = n ∨ (k < n ∧ k = 12) := by omega
      cases q2 : decide ((n : Int) ≤ 12)
      · rcases hor with rfl | ⟨h1, rfl⟩
        · exfalso; simp at q2; omega
        · have t1 : decide (((12 : Nat) : Int) < (n : Int)) = true := by simp; omega
          go_wp2_with fail
          go_ret
          exact ⟨false, rfl, nofun, hE0.trans hE⟩
      · have hn50 : n ≤ 12 := by simp at q2; omega
        rcases hor with rfl | ⟨h1, rfl⟩
        · have t1 : decide ((k : Int) < (k : Int)) = false := by simp
          cases q3 : decide ((on.size : Int) ≤ 300)
          · go_wp2_with fail
            go_ret
            exact ⟨false, rfl, nofun, hE0.trans hE⟩
          · have hon : on.size ≤ 300 := by simp at q3; omega
            go_wp2_with fail
            go_ret
            exact ⟨true, rfl, fun _ => ⟨hn50, hon⟩, hE0.trans hE⟩
        · exfalso; omega
end Go.Proofs.Ytfagnbofnaoncaa

/- Alike: cells, columns (plain laws). -/
namespace Go.Proofs.Ytfagnbofnaoncaa
open Go Go.RowKit

/-- Alike. -/
noncomputable def eqB {α : Type} (a b : α) : Bool := @decide (a = b) (Classical.propDecidable _)
theorem eqB_iff {α : Type} {a b : α} : eqB a b = true ↔ a = b := by unfold eqB; exact @decide_eq_true_iff _ (Classical.propDecidable _)
theorem eqB_true {α : Type} {a b : α} (h : a = b) : eqB a b = true := eqB_iff.2 h
theorem eqB_false {α : Type} {a b : α} (h : a ≠ b) : eqB a b = false := by
  cases e : eqB a b with
  | false => rfl
  | true => exact absurd (eqB_iff.1 e) h

theorem bytes_ext {a b : ByteArray} (h : a.toList = b.toList) : a = b := by
  rw [ByteArray.toList_eq, ByteArray.toList_eq] at h
  cases a; cases b
  simp at h
  rw [h]
theorem cl_ext {c d : Cl} (h2 : c.val.toList = d.val.toList) (h3 : c.dead = d.dead) (h4 : c.at_ = d.at_) (h5 : c.fin = d.fin) : c = d := by
  cases c; cases d
  simp only at *
  rw [bytes_ext h2, h3, h4, h5]
theorem co_ext {c d : Co} (h1 : c.name.toList = d.name.toList) (h2 : c.cell.val.toList = d.cell.val.toList) (h3 : c.cell.dead = d.cell.dead) (h4 : c.cell.at_ = d.cell.at_) (h5 : c.cell.fin = d.cell.fin) : c = d := by
  have := cl_ext h2 h3 h4 h5
  cases c; cases d
  simp only at *
  rw [bytes_ext h1, this]
end Go.Proofs.Ytfagnbofnaoncaa

/- The reference's Same of any cells, columns, rows, lists of rows, partitions. -/
namespace Go.Proofs.Ytfagnbofnaoncaa
open Go Go.RowKit
attribute [local go_sem] yields yUpon ro8 pa3

theorem eqB_bool {α : Type} {a b : α} {c : Bool} (h : c = true ↔ a = b) : eqB a b = c := by
  cases c with
  | true => exact eqB_true (h.1 rfl)
  | false => exact eqB_false fun e => by have := h.2 e; cases this
theorem toList_eq {a b : ByteArray} : (a.toList == b.toList) = true ↔ a = b := by
  constructor
  · intro h; exact bytes_ext (by simpa using h)
  · rintro rfl; simp
theorem clB_eq (c d : Cl) : ((c.val.toList == d.val.toList) && (c.dead == d.dead) && (c.at_ == d.at_) && (c.fin == d.fin)) = true ↔ c = d := by
  rw [Bool.and_eq_true, Bool.and_eq_true, Bool.and_eq_true, toList_eq]
  obtain ⟨a1, a2, a3, a4⟩ := c
  obtain ⟨b1, b2, b3, b4⟩ := d
  simp [and_assoc]

set_option maxHeartbeats 1000000 in
theorem same6_any (c d : Cl) (w : World) : Calls Try.prog 55 #[(.agg #[.string c.val, .bool c.dead, .int .i64 c.at_, .int .i64 c.fin]), (.agg #[.string d.val, .bool d.dead, .int .i64 d.at_, .int .i64 d.fin])] w fun e w' => e = .returned (.bool (eqB c d)) ∧ Ext w w' := by
  rw [eqB_bool (clB_eq c d)]
  cases e1 : (c.val.toList == d.val.toList)
  · go_enter Try.func55, Try.ntmps55
    go_wp2
    go_ret
    exact ⟨rfl, ((Ext.refl w).alloc _).alloc _⟩
  · cases e2 : (c.dead == d.dead)
    · go_enter Try.func55, Try.ntmps55
      go_wp2
      go_ret
      exact ⟨rfl, ((Ext.refl w).alloc _).alloc _⟩
    · cases e3 : (c.at_ == d.at_)
      · go_enter Try.func55, Try.ntmps55
        go_wp2
        go_ret
        exact ⟨rfl, ((Ext.refl w).alloc _).alloc _⟩
      · go_enter Try.func55, Try.ntmps55
        go_wp2
        go_ret
        exact ⟨ret_bool (by simp), ((Ext.refl w).alloc _).alloc _⟩

theorem list_split {α : Type} {l l' : List α} {k : Nat} (h : l.take k = l'.take k) (hk : k < l.length) (hk' : k < l'.length) (he : l[k] = l'[k]) : l.take (k + 1) = l'.take (k + 1) := by
  rw [List.take_succ_eq_append_getElem hk, List.take_succ_eq_append_getElem hk', h, he]

set_option maxRecDepth 100000 in
set_option maxHeartbeats 2000000 in
theorem sameCols_any (v v' : Value) (l l' : List Co) (w : World) (hin : ColsIn w v l) (hin' : ColsIn w v' l') :
    Calls Try.prog 56 #[v, v'] w fun e w' => e = .returned (.bool (eqB l l')) ∧ Ext w w' := by
  obtain ⟨a, c, rfl, hc, hcm, hcell⟩ := hin.get
  obtain ⟨a', c', rfl, hc', hcm', hcell'⟩ := hin'.get
  have HC := Lib.hid hcell
  have HC' := Lib.hid hcell'
  clear hcell hin hcell' hin'
  obtain ⟨R, hR⟩ : ∃ R, R = eqB l l' := ⟨_, rfl⟩
  rw [← hR]
  have HR := Lib.hid hR
  obtain ⟨n, hn⟩ : ∃ n, n = l.length := ⟨_, rfl⟩
  obtain ⟨n', hn'⟩ : ∃ n, n = l'.length := ⟨_, rfl⟩
  rw [← hn] at hc ⊢
  rw [← hn'] at hc' ⊢
  have HN := Lib.hid hn
  have HN' := Lib.hid hn'
  clear hR hn hn'
  by_cases hnn : n = n'
  · subst hnn
    go_enter Try.func56, Try.ntmps56
    go_wp2
    go_loopw [5] (fun i wr => ∃ k : Nat, k ≤ n ∧ i = .int .i64 k ∧ Ext w wr ∧ Hid (l.take k = l'.take k)) (fun i _ => n - (intOf i).toNat)
    case atStart => exact ⟨0, Nat.zero_le _, rfl, Ext.refl w, by show _ = _; rw [List.take_zero, List.take_zero]⟩
    case round =>
      obtain ⟨k, hk, rfl, hE, HK⟩ := hrel
      by_cases hlt : k < n
      · have hkl : k < l.length := by rw [← HN.out]; exact hlt
        have hkl' : k < l'.length := by rw [← HN'.out]; exact hlt
        obtain ⟨b, o, rfl, hco⟩ := HC.out k hkl
        obtain ⟨b', o', rfl, hco'⟩ := HC'.out k hkl'
        obtain ⟨M, hM⟩ : ∃ M, M = l[k] := ⟨_, rfl⟩
        obtain ⟨N, hN⟩ : ∃ N, N = l'[k] := ⟨_, rfl⟩
        rw [← hM] at hco
        rw [← hN] at hco'
        have HM := Lib.hid hM
        have HMN := Lib.hid hN
        clear hM hN
        have hne : M ≠ N → Hid (R = false) := fun h => by
          show R = false
          rw [HR.out]
          exact eqB_false fun e => h (by rw [HM.out, HMN.out]; simp only [e])
        obtain ⟨g0, g1, g2, g3, g4⟩ := hco.ext hE
        obtain ⟨y0, y1, y2, y3, y4⟩ := hco'.ext hE
        clear hco hco'
        have hki : decide ((k : Int) < (n : Int)) = true := by simpa using hlt
        obtain ⟨B, hB⟩ : ∃ B, B = eqB M.cell N.cell := ⟨_, rfl⟩
        have HB := Lib.hid hB
        clear hB
        cases e1 : (M.name.toList == N.name.toList)
        · have HF := hne fun e => by rw [e] at e1; simp at e1
          clear hne
          go_wp2_with fail
          refine wp_region_tab 25 [] (by kernel_rfl) (by kernel_rfl) (by kernel_rfl) trivial ?_
          replace g0 := held g0
          replace y0 := held y0
          refine rg_quiet rfl rfl rfl rfl ?_; intro K hK; go_big_quiet_op; go_big_quiet_on
          refine rg_quiet rfl rfl rfl rfl ?_; intro K hK; go_big_quiet_op; go_big_quiet_on
          refine rg_quiet rfl rfl rfl rfl ?_; intro K hK; go_big_quiet_op; go_big_quiet_on
          refine rg_quiet rfl rfl rfl rfl ?_; intro K hK; go_big_quiet_op; go_big_quiet_on
          refine rg_quiet rfl rfl rfl rfl ?_; intro K hK; go_big_quiet_op; go_big_quiet_on
          refine rg_quiet rfl rfl rfl rfl ?_; intro K hK; go_big_quiet_op; go_big_quiet_on
          refine rg_quiet rfl rfl rfl rfl ?_; intro K hK; go_big_quiet_op; go_big_quiet_on
          refine rg_quiet rfl rfl rfl rfl ?_; intro K hK; go_big_quiet_op; go_big_quiet_on
          refine rg_quiet rfl rfl rfl rfl ?_; intro K hK; go_big_quiet_op; go_big_quiet_on
          refine rg_quiet rfl rfl rfl rfl ?_; intro K hK; go_big_quiet_op; go_big_quiet_on
          refine rg_quiet rfl rfl rfl rfl ?_; intro K hK; go_big_quiet_op; go_big_quiet_on
          refine rg_quiet rfl rfl rfl rfl ?_; intro K hK; go_big_quiet_op; go_big_quiet_on
          refine rel_skip rfl rfl ?_
          simp only [Act.put, List.setIfInBounds_toArray, List.set_cons_zero, List.set_cons_succ]
          refine rel_skip rfl rfl ?_
          simp only [Act.put, List.setIfInBounds_toArray, List.set_cons_zero, List.set_cons_succ]
          refine rel_skip rfl rfl ?_
          simp only [Act.put, List.setIfInBounds_toArray, List.set_cons_zero, List.set_cons_succ]
          refine rel_skip rfl rfl ?_
          simp only [Act.put, List.setIfInBounds_toArray, List.set_cons_zero, List.set_cons_succ]
          refine rel_skip rfl rfl ?_
          simp only [Act.put, List.setIfInBounds_toArray, List.set_cons_zero, List.set_cons_succ]
          refine rel_skip rfl rfl ?_
          simp only [Act.put, List.setIfInBounds_toArray, List.set_cons_zero, List.set_cons_succ]
          refine rel_skip rfl rfl ?_
          simp only [Act.put, List.setIfInBounds_toArray, List.set_cons_zero, List.set_cons_succ]
          refine rel_skip rfl rfl ?_
          simp only [Act.put, List.setIfInBounds_toArray, List.set_cons_zero, List.set_cons_succ]
          refine rel_skip rfl rfl ?_
          simp only [Act.put, List.setIfInBounds_toArray, List.set_cons_zero, List.set_cons_succ]
          refine rel_skip rfl rfl ?_
          simp only [Act.put, List.setIfInBounds_toArray, List.set_cons_zero, List.set_cons_succ]
          refine rel_skip rfl rfl ?_
          simp only [Act.put, List.setIfInBounds_toArray, List.set_cons_zero, List.set_cons_succ]
          refine rel_skip rfl rfl ?_
          simp only [Act.put, List.setIfInBounds_toArray, List.set_cons_zero, List.set_cons_succ]
          refine rg_quiet rfl rfl rfl rfl ?_; intro K hK; go_big_quiet_op; go_big_quiet_on
          refine rel_nil fun w5 hE5 _ => ?_
          clear g0 g1 g2 g3 g4 y0 y1 y2 y3 y4
          go_wp2_with fail
          go_ret
          exact ⟨ret_bool HF.out.symm, hE.trans hE5⟩
        · have en : M.name = N.name := toList_eq.1 e1
          have HEN := Lib.hid en
          clear en
          go_wp2_with fail
          refine wp_region_tab 25 [(22, fun v _ => v = .bool B)] (by kernel_rfl) (by kernel_rfl) (by kernel_rfl) ⟨stays_eq _, trivial⟩ ?_
          replace g0 := held g0
          replace g1 := held g1
          replace g2 := held g2
          replace g3 := held g3
          replace g4 := held g4
          replace y0 := held y0
          replace y1 := held y1
          replace y2 := held y2
          replace y3 := held y3
          replace y4 := held y4
          refine rg_quiet rfl rfl rfl rfl ?_; intro K hK; go_big_quiet_op; go_big_quiet_on
          refine rg_quiet rfl rfl rfl rfl ?_; intro K hK; go_big_quiet_op; go_big_quiet_on
          refine rg_quiet rfl rfl rfl rfl ?_; intro K hK; go_big_quiet_op; go_big_quiet_on
          refine rg_quiet rfl rfl rfl rfl ?_; intro K hK; go_big_quiet_op; go_big_quiet_on
          refine rg_quiet rfl rfl rfl rfl ?_; intro K hK; go_big_quiet_op; go_big_quiet_on
          refine rg_quiet rfl rfl rfl rfl ?_; intro K hK; go_big_quiet_op; go_big_quiet_on
          refine rg_quiet rfl rfl rfl rfl ?_; intro K hK; go_big_quiet_op; go_big_quiet_on
          refine rg_quiet rfl rfl rfl rfl ?_; intro K hK; go_big_quiet_op; go_big_quiet_on
          refine rg_quiet rfl rfl rfl rfl ?_; intro K hK; go_big_quiet_op; go_big_quiet_on
          refine rg_quiet rfl rfl rfl rfl ?_; intro K hK; go_big_quiet_op; go_big_quiet_on
          refine rg_quiet rfl rfl rfl rfl ?_; intro K hK; go_big_quiet_op; go_big_quiet_on
          refine rg_quiet rfl rfl rfl rfl ?_; intro K hK; go_big_quiet_op; go_big_quiet_on
          refine rg_quiet rfl rfl rfl rfl ?_; intro K hK; go_big_quiet_op; go_big_quiet_on
          refine rg_quiet rfl rfl rfl rfl ?_; intro K hK; go_big_quiet_op; go_big_quiet_on
          refine rg_quiet rfl rfl rfl rfl ?_; intro K hK; go_big_quiet_op; go_big_quiet_on
          refine rg_quiet rfl rfl rfl rfl ?_; intro K hK; go_big_quiet_op; go_big_quiet_on
          refine rg_quiet rfl rfl rfl rfl ?_; intro K hK; go_big_quiet_op; go_big_quiet_on
          refine rg_quiet rfl rfl rfl rfl ?_; intro K hK; go_big_quiet_op; go_big_quiet_on
          refine rg_quiet rfl rfl rfl rfl ?_; intro K hK; go_big_quiet_op; go_big_quiet_on
          refine rg_quiet rfl rfl rfl rfl ?_; intro K hK; go_big_quiet_op; go_big_quiet_on
          refine rg_quiet rfl rfl rfl rfl ?_; intro K hK; go_big_quiet_op; go_big_quiet_on
          refine rg_quiet rfl rfl rfl rfl ?_; intro K hK; go_big_quiet_op; go_big_quiet_on
          refine rg_val [] rfl rfl rfl (by kernel_rfl) (fun w1 hE hf => ?_) ?_
          · go_simp
            exact (same6_any M.cell N.cell w1).mono fun e w' ⟨he, hw⟩ => ⟨_, he, rg_done hE hw (by rw [HB.out])⟩
          simp only [Act.put, List.setIfInBounds_toArray, List.set_cons_zero, List.set_cons_succ]
          cases B
          · have HF := hne fun e => by
              have := HB.out
              rw [e, eqB_true rfl] at this
              cases this
            clear hne
            refine rg_quiet rfl rfl rfl rfl ?_; intro K hK; go_big_quiet_op; go_big_quiet_on
            refine rg_quiet rfl rfl rfl rfl ?_; intro K hK; go_big_quiet_op; go_big_quiet_on
            refine rel_nil fun w5 hE5 _ => ?_
            clear g0 g1 g2 g3 g4 y0 y1 y2 y3 y4
            go_wp2_with fail
            go_ret
            exact ⟨ret_bool HF.out.symm, hE.trans hE5⟩
          · clear hne
            refine rg_quiet rfl rfl rfl rfl ?_; intro K hK; go_big_quiet_op; go_big_quiet_on
            refine rg_quiet rfl rfl rfl rfl ?_; intro K hK; go_big_quiet_op; go_big_quiet_on
            refine rel_nil fun w5 hE5 _ => ?_
            clear g0 g1 g2 g3 g4 y0 y1 y2 y3 y4
            go_wp2_with fail
            go_roundw
            case rel =>
              refine ⟨k + 1, by omega, by go_num, hE.trans hE5, list_split HK.out hkl hkl' ?_⟩
              rw [← HM.out, ← HMN.out]
              have hc := eqB_iff.1 HB.out.symm
              have hn := HEN.out
              obtain ⟨m1, m2⟩ := M
              obtain ⟨n1, n2⟩ := N
              simp only at hc hn
              rw [hc, hn]
            case measure => simp [intOf] <;> omega
      · obtain rfl : k = n := by omega
        have HT : Hid (R = true) := by
          show R = true
          rw [HR.out]
          refine eqB_true ?_
          have := HK.out
          rwa [List.take_of_length_le (by rw [← HN.out]; exact Nat.le_refl _), List.take_of_length_le (by rw [← HN'.out]; exact Nat.le_refl _)] at this
        go_wp2_with fail
        go_ret
        exact ⟨ret_bool HT.out.symm, hE⟩
  · have HF : Hid (R = false) := by
      show R = false
      rw [HR.out]
      exact eqB_false fun e => hnn (by rw [HN.out, HN'.out, e])
    have t1 : ((n : Int) == (n' : Int)) = false := by simp; omega
    go_enter Try.func56, Try.ntmps56
    go_wp2
    go_ret
    exact ⟨ret_bool HF.out.symm, Ext.refl w⟩

theorem roB_eq (a b : Ro) : ((a.key.toList == b.key.toList) && eqB a.live b.live && (a.gone == b.gone) && (a.shade == b.shade) && eqB a.cols b.cols) = true ↔ a = b := by
  rw [Bool.and_eq_true, Bool.and_eq_true, Bool.and_eq_true, Bool.and_eq_true, toList_eq, eqB_iff, eqB_iff]
  obtain ⟨a1, a2, a3, a4, a5⟩ := a
  obtain ⟨b1, b2, b3, b4, b5⟩ := b
  simp [and_assoc]

set_option maxRecDepth 100000 in
set_option maxHeartbeats 2000000 in
theorem same7_any (r t : Ro) (v v' : Value) (w : World) (hin : ColsIn w v r.cols) (hin' : ColsIn w v' t.cols) :
    Calls Try.prog 48 #[(.agg #[.string r.key, .string r.live.val, .bool r.live.dead, .int .i64 r.live.at_, .int .i64 r.live.fin, .int .i64 r.gone, .int .i64 r.shade, v]), (.agg #[.string t.key, .string t.live.val, .bool t.live.dead, .int .i64 t.live.at_, .int .i64 t.live.fin, .int .i64 t.gone, .int .i64 t.shade, v'])] w fun e w' => e = .returned (.bool (eqB r t)) ∧ Ext w w' := by
  obtain ⟨a0, a1, hE⟩ := boxes2 w (ro8 r v) (ro8 t v') 48 48
  have hin1 := hin.ext hE
  have hin1' := hin'.ext hE
  obtain ⟨B1, hB1⟩ : ∃ B, B = eqB r.live t.live := ⟨_, rfl⟩
  obtain ⟨B2, hB2⟩ : ∃ B, B = eqB r.cols t.cols := ⟨_, rfl⟩
  have hR := eqB_bool (roB_eq r t)
  rw [← hB1, ← hB2] at hR
  rw [hR]
  have HB1 := Lib.hid hB1
  have HB2 := Lib.hid hB2
  clear hB1 hB2 hR
  cases e1 : (r.key.toList == t.key.toList)
  · go_enter Try.func48, Try.ntmps48
    go_wp2_with fail
    go_ret
    exact ⟨rfl, hE⟩
  · cases B1
    · go_enter Try.func48, Try.ntmps48
      go_wp2_with fail
      refine (same6_any r.live t.live _).mono ?_
      rw [← HB1.out]
      rintro e w1 ⟨rfl, hE1⟩
      go_wp2_with fail
      go_ret
      exact ⟨rfl, hE.trans hE1⟩
    · cases e2 : (r.gone == t.gone)
      · go_enter Try.func48, Try.ntmps48
        go_wp2_with fail
        refine (same6_any r.live t.live _).mono ?_
        rw [← HB1.out]
        rintro e w1 ⟨rfl, hE1⟩
        have y0 : ∀ i, w1.cell? ⟨w.heap.size, i, none⟩ = (ro8 r v)[i]? := fun i => (a0.ext hE1).cell i
        have y1 : ∀ i, w1.cell? ⟨w.heap.size + 1, i, none⟩ = (ro8 t v')[i]? := fun i => (a1.ext hE1).cell i
        go_wp2_with fail
        go_ret
        exact ⟨rfl, hE.trans hE1⟩
      · cases e3 : (r.shade == t.shade)
        · go_enter Try.func48, Try.ntmps48
          go_wp2_with fail
          refine (same6_any r.live t.live _).mono ?_
          rw [← HB1.out]
          rintro e w1 ⟨rfl, hE1⟩
          have y0 : ∀ i, w1.cell? ⟨w.heap.size, i, none⟩ = (ro8 r v)[i]? := fun i => (a0.ext hE1).cell i
          have y1 : ∀ i, w1.cell? ⟨w.heap.size + 1, i, none⟩ = (ro8 t v')[i]? := fun i => (a1.ext hE1).cell i
          go_wp2_with fail
          go_ret
          exact ⟨rfl, hE.trans hE1⟩
        · go_enter Try.func48, Try.ntmps48
          go_wp2_with fail
          refine (same6_any r.live t.live _).mono ?_
          rw [← HB1.out]
          rintro e w1 ⟨rfl, hE1⟩
          replace hE := hE.trans hE1
          replace hin1 := hin1.ext hE1
          replace hin1' := hin1'.ext hE1
          have y0 : ∀ i, w1.cell? ⟨w.heap.size, i, none⟩ = (ro8 r v)[i]? := fun i => (a0.ext hE1).cell i
          have y1 : ∀ i, w1.cell? ⟨w.heap.size + 1, i, none⟩ = (ro8 t v')[i]? := fun i => (a1.ext hE1).cell i
          clear hE1 hin hin' a0 a1
          go_wp2_with fail
          refine (sameCols_any v v' r.cols t.cols _ hin1 hin1').mono ?_
          rw [← HB2.out]
          rintro e w2 ⟨rfl, hE2⟩
          clear HB1 HB2 hin1 hin1' y0 y1
          go_wp2
          go_ret
          exact ⟨ret_bool (by simp), hE.trans hE2⟩

set_option maxRecDepth 100000 in
set_option maxHeartbeats 2000000 in
theorem sameRows_any (v v' : Value) (ps ps' : List (Ro × Value)) (w : World) (hin : RowsIn w v ps) (hin' : RowsIn w v' ps') :
    Calls Try.prog 33 #[v, v'] w fun e w' => e = .returned (.bool (eqB (ps.map (·.1)) (ps'.map (·.1)))) ∧ Ext w w' := by
  obtain ⟨a, c, rfl, hc, hcm, hcell⟩ := hin.get
  obtain ⟨a', c', rfl, hc', hcm', hcell'⟩ := hin'.get
  have HC := Lib.hid hcell
  have HC' := Lib.hid hcell'
  have HU := Lib.hid hin.cols
  have HU' := Lib.hid hin'.cols
  clear hcell hin hcell' hin'
  obtain ⟨R, hR⟩ : ∃ R, R = eqB (ps.map (·.1)) (ps'.map (·.1)) := ⟨_, rfl⟩
  rw [← hR]
  have HR := Lib.hid hR
  obtain ⟨n, hn⟩ : ∃ n, n = ps.length := ⟨_, rfl⟩
  obtain ⟨n', hn'⟩ : ∃ n, n = ps'.length := ⟨_, rfl⟩
  rw [← hn] at hc ⊢
  rw [← hn'] at hc' ⊢
  have HN := Lib.hid hn
  have HN' := Lib.hid hn'
  clear hR hn hn'
  by_cases hnn : n = n'
  · subst hnn
    go_enter Try.func33, Try.ntmps33
    go_wp2
    go_loopw [5] (fun i wr => ∃ k : Nat, k ≤ n ∧ i = .int .i64 k ∧ Ext w wr ∧ Hid ((ps.map (·.1)).take k = (ps'.map (·.1)).take k)) (fun i _ => n - (intOf i).toNat)
    case atStart => exact ⟨0, Nat.zero_le _, rfl, Ext.refl w, by show _ = _; rw [List.take_zero, List.take_zero]⟩
    case round =>
      obtain ⟨k, hk, rfl, hE, HK⟩ := hrel
      by_cases hlt : k < n
      · have hkl : k < ps.length := by rw [← HN.out]; exact hlt
        have hkl' : k < ps'.length := by rw [← HN'.out]; exact hlt
        obtain ⟨b, o, rfl, hco⟩ := HC.out k hkl
        obtain ⟨b', o', rfl, hco'⟩ := HC'.out k hkl'
        have hcu := (HU.out _ (List.getElem_mem hkl)).ext hE
        have hcu' := (HU'.out _ (List.getElem_mem hkl')).ext hE
        obtain ⟨M, hM⟩ : ∃ M, M = ps[k].1 := ⟨_, rfl⟩
        obtain ⟨N, hN⟩ : ∃ N, N = ps'[k].1 := ⟨_, rfl⟩
        rw [← hM] at hco hcu
        rw [← hN] at hco' hcu'
        obtain ⟨u, hu⟩ : ∃ u, u = ps[k].2 := ⟨_, rfl⟩
        obtain ⟨u', hu'⟩ : ∃ u, u = ps'[k].2 := ⟨_, rfl⟩
        rw [← hu] at hco hcu
        rw [← hu'] at hco' hcu'
        have HM := Lib.hid hM
        have HMN := Lib.hid hN
        clear hM hN hu hu'
        have hne : M ≠ N → Hid (R = false) := fun h => by
          show R = false
          rw [HR.out]
          refine eqB_false fun e => h ?_
          have h1 : (ps.map (·.1))[k]? = (ps'.map (·.1))[k]? := by rw [e]
          simp [hkl, hkl'] at h1
          rw [HM.out, HMN.out, h1]
        obtain ⟨g0, g1, g2, g3, g4, g5, g6, g7⟩ := hco.ext hE
        obtain ⟨y0, y1, y2, y3, y4, y5, y6, y7⟩ := hco'.ext hE
        clear hco hco'
        have hki : decide ((k : Int) < (n : Int)) = true := by simpa using hlt
        obtain ⟨B, hB⟩ : ∃ B, B = eqB M N := ⟨_, rfl⟩
        have HB := Lib.hid hB
        clear hB
        replace g0 := held g0
        replace g1 := held g1
        replace g2 := held g2
        replace g3 := held g3
        replace g4 := held g4
        replace g5 := held g5
        replace g6 := held g6
        replace g7 := held g7
        replace y0 := held y0
        replace y1 := held y1
        replace y2 := held y2
        replace y3 := held y3
        replace y4 := held y4
        replace y5 := held y5
        replace y6 := held y6
        replace y7 := held y7
        go_wp2_with fail
        refine wp_region_tab 10 [(8, fun v _ => v = .bool B)] (by kernel_rfl) (by kernel_rfl) (by kernel_rfl) ⟨stays_eq _, trivial⟩ ?_
        refine rg_quiet rfl rfl rfl rfl ?_; intro K hK; go_big_quiet_op; go_big_quiet_on
        refine rg_quiet rfl rfl rfl rfl ?_; intro K hK; go_big_quiet_op; go_big_quiet_on
        refine rg_quiet rfl rfl rfl rfl ?_; intro K hK; go_big_quiet_op; go_big_quiet_on
        refine rg_quiet rfl rfl rfl rfl ?_; intro K hK; go_big_quiet_op; go_big_quiet_on
        refine rg_quiet rfl rfl rfl rfl ?_; intro K hK; go_big_quiet_op; go_big_quiet_on
        refine rg_quiet rfl rfl rfl rfl ?_; intro K hK; go_big_quiet_op; go_big_quiet_on
        refine rg_quiet rfl rfl rfl rfl ?_; intro K hK; go_big_quiet_op; go_big_quiet_on
        refine rg_quiet rfl rfl rfl rfl ?_; intro K hK; go_big_quiet_op; go_big_quiet_on
        refine rg_val [] rfl rfl rfl (by kernel_rfl) (fun w1 hE hf => ?_) ?_
        · go_simp
          exact (same7_any M N u u' w1 (hcu.ext hE) (hcu'.ext hE)).mono fun e w' ⟨he, hw⟩ => ⟨_, he, rg_done hE hw (by rw [HB.out])⟩
        simp only [Act.put, List.setIfInBounds_toArray, List.set_cons_zero, List.set_cons_succ]
        cases B
        · have HF := hne fun e => by
            have := HB.out
            rw [e, eqB_true rfl] at this
            cases this
          clear hne
          refine rg_quiet rfl rfl rfl rfl ?_; intro K hK; go_big_quiet_op; go_big_quiet_on
          refine rel_nil fun w5 hE5 _ => ?_
          clear g0 g1 g2 g3 g4 g5 g6 g7 y0 y1 y2 y3 y4 y5 y6 y7
          go_wp2_with fail
          go_ret
          exact ⟨ret_bool HF.out.symm, hE.trans hE5⟩
        · clear hne
          refine rg_quiet rfl rfl rfl rfl ?_; intro K hK; go_big_quiet_op; go_big_quiet_on
          refine rel_nil fun w5 hE5 _ => ?_
          clear g0 g1 g2 g3 g4 g5 g6 g7 y0 y1 y2 y3 y4 y5 y6 y7
          go_wp2_with fail
          go_roundw
          case rel =>
            refine ⟨k + 1, by omega, by go_num, hE.trans hE5, list_split HK.out (by simpa using hkl) (by simpa using hkl') ?_⟩
            rw [List.getElem_map, List.getElem_map, ← HM.out, ← HMN.out]
            exact eqB_iff.1 HB.out.symm
          case measure => simp [intOf] <;> omega
      · obtain rfl : k = n := by omega
        have HT : Hid (R = true) := by
          show R = true
          rw [HR.out]
          refine eqB_true ?_
          have := HK.out
          rwa [List.take_of_length_le (by rw [List.length_map, ← HN.out]; exact Nat.le_refl _), List.take_of_length_le (by rw [List.length_map, ← HN'.out]; exact Nat.le_refl _)] at this
        go_wp2_with fail
        go_ret
        exact ⟨ret_bool HT.out.symm, hE⟩
  · have HF : Hid (R = false) := by
      show R = false
      rw [HR.out]
      exact eqB_false fun e => hnn (by rw [HN.out, HN'.out]; have := congrArg List.length e; simpa using this)
    have t1 : ((n : Int) == (n' : Int)) = false := by simp; omega
    go_enter Try.func33, Try.ntmps33
    go_wp2
    go_ret
    exact ⟨ret_bool HF.out.symm, Ext.refl w⟩

set_option maxRecDepth 100000 in
set_option maxHeartbeats 2000000 in
theorem same8_any (k k' : ByteArray) (g g' : Int) (v v' : Value) (ps ps' : List (Ro × Value)) (w : World) (hin : RowsIn w v ps) (hin' : RowsIn w v' ps') :
    Calls Try.prog 15 #[.agg #[.string k, .int .i64 g, v], .agg #[.string k', .int .i64 g', v']] w fun e w' => e = .returned (.bool ((k.toList == k'.toList) && (g == g') && eqB (ps.map (·.1)) (ps'.map (·.1)))) ∧ Ext w w' := by
  obtain ⟨a0, a1, hE⟩ := boxes2 w (pa3 k g v) (pa3 k' g' v') 27 27
  have hin1 := hin.ext hE
  have hin1' := hin'.ext hE
  obtain ⟨B, hB⟩ : ∃ B, B = eqB (ps.map (·.1)) (ps'.map (·.1)) := ⟨_, rfl⟩
  rw [← hB]
  have HB := Lib.hid hB
  clear a0 a1 hB
  cases e1 : (k.toList == k'.toList)
  · go_enter Try.func15, Try.ntmps15
    go_wp2_with fail
    go_ret
    exact ⟨rfl, hE⟩
  · cases e2 : (g == g')
    · go_enter Try.func15, Try.ntmps15
      go_wp2_with fail
      go_ret
      exact ⟨rfl, hE⟩
    · go_enter Try.func15, Try.ntmps15
      go_wp2_with fail
      refine (sameRows_any v v' ps ps' _ hin1 hin1').mono ?_
      rw [← HB.out]
      rintro e w1 ⟨rfl, hE1⟩
      go_wp2
      go_ret
      exact ⟨ret_bool (by simp), hE.trans hE1⟩
end Go.Proofs.Ytfagnbofnaoncaa
