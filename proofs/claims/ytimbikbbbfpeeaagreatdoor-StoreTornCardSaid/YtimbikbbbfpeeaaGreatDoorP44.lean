/- Plain laws: cells, columns, rows, partitions: what is put is got; what is got is put as the same bytes. -/
import Derived.Test.YtimbikbbbfpeeaaGreatDoorP43
import Derived.Test.YtimbikbbbfpeeaaGreatDoorP31
import Derived.Test.YtimbikbbbfpeeaaGreatDoorP42
set_option linter.unusedSimpArgs false
set_option linter.unusedVariables false
namespace Go.Proofs.YtimbikbbbfpeeaaGreatDoor
open Go Go.RowKit

/-! ### Cells -/
def cellA (n : Nat) : Rdr Cl := if n = 0 then pureR zeroCl else seqR truR fun d => if d = true then pureR ⟨⟨#[]⟩, true, n, 0⟩ else seqR txtR fun t => seqR numR fun e => pureR ⟨t, false, n, (e : Int)⟩
theorem cellR_eq (B : List UInt8) (s : Nat × Int) : cellR B s = seqR numR cellA B s := by
  unfold cellR seqR cellA
  split
  · rfl
  · unfold seqR
    split
    · rename_i h2
      simp only [h2, if_true]
      rfl
    · rename_i h2
      simp only [h2]
      rfl
theorem ok_cellA (n : Nat) : OkRd (cellA n) :=
  OkRd.ite (OkRd.pure _) (ok_tru.bind fun _ => OkRd.ite (OkRd.pure _) (ok_txt.bind fun _ => ok_num.bind fun _ => OkRd.pure _))
theorem ok_cell : OkRd cellR := (ok_num.bind ok_cellA).congr cellR_eq
theorem empty_of_list {s : ByteArray} (h : s.toList = []) : s = ⟨#[]⟩ := by
  rw [ByteArray.toList_eq] at h
  rw [← str_back s, h]; rfl
theorem check_shape {c : Cl} (h : checkC c.val c.dead c.at_ c.fin = true) :
    c = zeroCl ∨ (∃ n : Nat, 0 < n ∧ n ≤ 1099511627776 ∧ c = ⟨⟨#[]⟩, true, n, 0⟩) ∨ (∃ n m : Nat, 0 < n ∧ n ≤ 1099511627776 ∧ m ≤ 1099511627776 ∧ c.val.size ≤ 100 ∧ c = ⟨c.val, false, n, m⟩) := by
  obtain ⟨val, dead, at_, fin⟩ := c
  unfold checkC at h
  simp only [Bool.and_eq_true] at h ⊢
  obtain ⟨⟨h1, h2⟩, h3⟩ := h
  have a := stampB_le h1
  have b := stampB_le h2
  obtain ⟨n, rfl⟩ : ∃ n : Nat, at_ = n := ⟨at_.toNat, by omega⟩
  obtain ⟨m, rfl⟩ : ∃ m : Nat, fin = m := ⟨fin.toNat, by omega⟩
  split at h3
  · rename_i h0
    left
    simp only [Bool.and_eq_true, Bool.not_eq_true', beq_iff_eq] at h3
    obtain ⟨⟨h4, h5⟩, h6⟩ := h3
    rw [empty_of_list h4, h5, h6, h0]; rfl
  · rename_i h0
    right
    split at h3
    · rename_i hd
      left
      simp only [Bool.and_eq_true, beq_iff_eq] at h3
      exact ⟨n, by omega, by omega, by rw [empty_of_list h3.1, hd, h3.2]⟩
    · rename_i hd
      right
      refine ⟨n, m, by omega, by omega, by omega, of_decide_eq_true h3, ?_⟩
      rw [show dead = false by simpa using hd]
theorem rd_cl {c : Cl} (h : checkC c.val c.dead c.at_ c.fin = true) : Rd cellR c (cellP c) := by
  refine Rd.congr ?_ (fun B i => cellR_eq B (i, 0))
  rcases check_shape h with rfl | ⟨n, h0, h1, rfl⟩ | ⟨n, m, h0, h1, h2, h3, h4⟩
  · exact (rd_num (x := 0) (by omega)).bind (g := cellA) (Rd.pure _) ok_cellA
  · have e : cellP ⟨⟨#[]⟩, true, (n : Int), 0⟩ = num n ++ ([if true then 1 else 0] ++ []) := by
      unfold cellP
      simp only
      rw [if_neg (by omega), if_pos trivial]; rfl
    rw [e]
    refine (rd_num h1).bind (g := cellA) ?_ ok_cellA
    unfold cellA
    rw [if_neg (by omega)]
    refine (rd_tru true).bind ?_ (fun d => OkRd.ite (OkRd.pure _) (ok_txt.bind fun _ => ok_num.bind fun _ => OkRd.pure _))
    rw [if_pos rfl]
    exact Rd.pure _
  · obtain ⟨val, dead, at_, fin⟩ := c
    simp only at h3 h4
    cases h4
    have e : cellP ⟨val, false, (n : Int), (m : Int)⟩ = num n ++ ([if false then 1 else 0] ++ (txtE val ++ (num m ++ []))) := by
      unfold cellP txtE
      simp only
      rw [if_neg (by omega), if_neg (by simp)]
      simp only [Int.toNat_natCast, List.append_assoc, List.append_nil, Bool.false_eq_true, if_false]
    rw [e]
    refine (rd_num h1).bind (g := cellA) ?_ ok_cellA
    unfold cellA
    rw [if_neg (by omega)]
    refine (rd_tru false).bind ?_ (fun d => OkRd.ite (OkRd.pure _) (ok_txt.bind fun _ => ok_num.bind fun _ => OkRd.pure _))
    rw [if_neg (by simp)]
    refine (rd_txt (by omega)).bind ?_ (fun d => ok_num.bind fun _ => OkRd.pure _)
    refine (rd_num h2).bind ?_ (fun d => OkRd.pure _)
    exact Rd.pure _
theorem bk_cellA (n : Nat) : Bk (cellA n) (fun c F => num n ++ F = cellP c) := by
  unfold cellA
  by_cases h : n = 0
  · rw [if_pos h]
    refine (Bk.pure _).mono fun x E hx => ?_
    obtain ⟨rfl, rfl⟩ := hx
    rw [h]; rfl
  · rw [if_neg h]
    refine (Bk.bind (Q := fun d c F => num n ++ ([if d then 1 else 0] ++ F) = cellP c) bk_tru ok_tru fun d => ?_).mono fun c G hG => ?_
    · by_cases hd : d = true
      · subst hd
        rw [if_pos rfl]
        refine (Bk.pure _).mono fun x E hx => ?_
        obtain ⟨rfl, rfl⟩ := hx
        unfold cellP
        simp only
        rw [if_neg (show ¬ (n : Int) = 0 by omega)]; rfl
      · obtain rfl : d = false := by simpa using hd
        rw [if_neg hd]
        refine (Bk.bind (Q := fun t c F => ∃ e : Nat, c = ⟨t, false, (n : Int), (e : Int)⟩ ∧ F = num e) bk_txt ok_txt fun t => ?_).mono fun c G hG => ?_
        · refine (Bk.bind (Q := fun (e : Nat) c F => c = ⟨t, false, (n : Int), (e : Int)⟩ ∧ F = []) bk_num ok_num fun e => Bk.pure _).mono fun c G hG => ?_
          obtain ⟨e, E, F, ⟨rfl, _⟩, ⟨rfl, rfl⟩, rfl⟩ := hG
          exact ⟨e, rfl, by rw [List.append_nil]⟩
        · obtain ⟨t, E, F, rfl, ⟨e, rfl, rfl⟩, rfl⟩ := hG
          unfold cellP txtE
          simp only
          rw [if_neg (show ¬ (n : Int) = 0 by omega)]
          simp only [Int.toNat_natCast, List.append_assoc, Bool.false_eq_true, if_false]
    · obtain ⟨d, E, F, rfl, h2, rfl⟩ := hG
      exact h2
theorem bk_cl : Bk cellR (fun c E => E = cellP c) := by
  refine Bk.congr ?_ cellR_eq
  refine (Bk.bind (Q := fun n c F => num n ++ F = cellP c) bk_num ok_num bk_cellA).mono fun c G hG => ?_
  obtain ⟨n, E, F, ⟨rfl, _⟩, h2, rfl⟩ := hG
  exact h2

/-! ### Lists -/
section
variable {α : Type} {one : Rdr α} {enc : α → List UInt8}
def manyF {α : Type} (one : Rdr α) (n : Nat) : Rdr (List α) := fun B s => manyR (one B) n s
def listF {α : Type} (one : Rdr α) : Rdr (List α) := fun B s => listR B (one B) s
theorem ok_many (h : OkRd one) : ∀ n, OkRd (manyF one n)
  | 0 => ⟨fun _ _ _ => rfl, fun _ _ h => h, fun _ _ _ h => h⟩
  | n + 1 => by
    have ih := ok_many h n
    refine ⟨fun B s hs => ?_, fun B s hs => ?_, fun B s hs he => ?_⟩
    · show (manyR (one B) (n + 1) s).2 = s
      rw [manyR_stop _ _ _ (.inr hs)]
    · show (manyR (one B) (n + 1) s).2.1 ≤ B.length
      by_cases h0 : s.2 = 0
      · rw [manyR_step _ _ _ h0]; exact ih.le B _ (h.le B s hs)
      · rw [manyR_stop _ _ _ (.inr h0)]; exact hs
    · show Er (manyR (one B) (n + 1) s).2.2
      by_cases h0 : s.2 = 0
      · rw [manyR_step _ _ _ h0]; exact ih.er B _ (h.le B s hs) (h.er B s hs he)
      · rw [manyR_stop _ _ _ (.inr h0)]; exact he
theorem ok_list (h : OkRd one) : OkRd (listF one) := ok_cnt.bind fun n => ok_many h n
theorem rd_many (ho : OkRd one) : ∀ l : List α, (∀ x ∈ l, Rd one x (enc x)) → Rd (manyF one l.length) l (l.flatMap enc)
  | [], _ => ⟨fun _ _ _ _ _ => rfl, fun _ _ T _ h hT => absurd (List.append_eq_nil_iff.1 h).2 hT⟩
  | x :: l, h => by
    have ih := rd_many ho l fun y hy => h y (List.mem_cons_of_mem _ hy)
    rw [List.flatMap_cons]
    refine Rd.congr (f := seqR one fun x => seqR (manyF one l.length) fun l => pureR (x :: l)) ?_ (fun B i => manyR_step _ _ _ rfl)
    refine (h x (List.mem_cons_self ..)).bind ?_ (fun _ => (ok_many ho _).bind fun _ => OkRd.pure _)
    have := ih.bind (Rd.pure (x :: l)) (g := fun l => pureR (x :: l)) (fun _ => OkRd.pure _)
    rw [List.append_nil] at this
    exact this
theorem flat_ge : ∀ {l : List α}, (∀ x ∈ l, 1 ≤ (enc x).length) → l.length ≤ (l.flatMap enc).length
  | [], _ => Nat.le_refl _
  | x :: l, h => by
    have h1 := h x (List.mem_cons_self ..)
    have h2 := flat_ge (l := l) fun y hy => h y (List.mem_cons_of_mem _ hy)
    rw [List.flatMap_cons, List.length_append, List.length_cons]
    omega
theorem rd_list (ho : OkRd one) {l : List α} (hn : l.length < 18446744073709551616) (h : ∀ x ∈ l, Rd one x (enc x)) (h1 : ∀ x ∈ l, 1 ≤ (enc x).length) : Rd (listF one) l (num l.length ++ l.flatMap enc) := by
  have hm := rd_many ho l h
  have hg := flat_ge h1
  constructor
  · intro B i R hi hd
    rw [List.append_assoc] at hd
    have h2 := drop_step hi hd
    have h3 := cnt_fwd hn hi hd (by rw [List.length_append]; omega)
    show manyF one (cntR B (i, 0)).1 B (cntR B (i, 0)).2 = _
    rw [h3]
    simp only
    rw [hm.fwd B _ R h2.2 h2.1, List.length_append, Nat.add_assoc]
  · intro B i T hi hd hT
    show (manyF one (cntR B (i, 0)).1 B (cntR B (i, 0)).2).2.2 = 8
    rcases List.append_eq_append_iff.1 hd with ⟨a, e1, e2⟩ | ⟨c, e1, e2⟩
    · by_cases ha : a = []
      · subst ha
        have hd' : B.drop i = num l.length ++ [] := by rw [List.append_nil] at e1 ⊢; exact e1.symm
        by_cases hz : l.length ≤ 0
        · have : l = [] := List.eq_nil_of_length_eq_zero (by omega)
          subst this
          rw [List.flatMap_nil, List.nil_append] at e2
          exact absurd e2 hT
        · have h3 := cnt_few hn hi hd' (by simp only [List.length_nil]; omega)
          rw [h3.1]
          exact h3.2
      · have h3 := cnt_short hn hi e1.symm ha
        rw [h3.1]
        exact h3.2
    · by_cases hc : l.length ≤ c.length
      · have h2 := drop_step hi e1
        have h3 := cnt_fwd hn hi e1 hc
        rw [h3]
        simp only
        refine hm.cut B _ T h2.2 ?_ hT
        rw [h2.1, e2]
      · have h3 := cnt_few hn hi e1 (by omega)
        rw [h3.1]
        exact h3.2
theorem bk_many (hb : Bk one (fun x E => E = enc x)) (ho : OkRd one) : ∀ n, Bk (manyF one n) (fun l E => l.length = n ∧ E = l.flatMap enc)
  | 0 => fun _ _ _ h => ⟨h, [], ⟨rfl, rfl⟩, rfl⟩
  | n + 1 => fun B s hs h => by
    have ih := bk_many hb ho n
    change (manyR (one B) (n + 1) s).2.2 = 0 at h
    show s.2 = 0 ∧ ∃ E, ((manyR (one B) (n + 1) s).1.length = n + 1 ∧ E = (manyR (one B) (n + 1) s).1.flatMap enc) ∧ B.drop s.1 = E ++ B.drop (manyR (one B) (n + 1) s).2.1
    by_cases h0 : s.2 = 0
    · rw [manyR_step _ _ _ h0] at h ⊢
      simp only at h ⊢
      obtain ⟨a, F, ⟨b1, b2⟩, c⟩ := ih B (one B s).2 (ho.le B s hs) h
      obtain ⟨_, E, d, e⟩ := hb B s hs a
      change (manyR (one B) n (one B s).2).1.length = n at b1
      change F = (manyR (one B) n (one B s).2).1.flatMap enc at b2
      change B.drop (one B s).2.1 = F ++ B.drop (manyR (one B) n (one B s).2).2.1 at c
      refine ⟨h0, E ++ F, ⟨by rw [List.length_cons, b1], by rw [List.flatMap_cons, d, b2]⟩, ?_⟩
      rw [e, c, List.append_assoc]
    · rw [manyR_stop _ _ _ (.inr h0)] at h
      exact absurd h h0
theorem bk_list (hb : Bk one (fun x E => E = enc x)) (ho : OkRd one) : Bk (listF one) (fun l E => E = num l.length ++ l.flatMap enc) := by
  refine (Bk.bind (g := fun n => manyF one n) bk_cnt ok_cnt fun n => bk_many hb ho n).mono fun l G hG => ?_
  obtain ⟨n, E, F, rfl, ⟨rfl, rfl⟩, rfl⟩ := hG
  rfl
end

/-! ### Columns, rows, partitions -/
theorem colR_eq (B : List UInt8) (s : Nat × Int) : colR B s = seqR txtR (fun t => seqR cellR fun c => pureR ⟨t, c⟩) B s := rfl
theorem ok_col : OkRd colR := (ok_txt.bind fun t => ok_cell.bind fun c => OkRd.pure (⟨t, c⟩ : Co)).congr colR_eq
theorem rd_co {c : Co} (hn : c.name.size ≤ 1000) (h : checkC c.cell.val c.cell.dead c.cell.at_ c.cell.fin = true) : Rd colR c (colP c) := by
  refine Rd.congr ?_ (fun B i => colR_eq B (i, 0))
  have e : colP c = txtE c.name ++ (cellP c.cell ++ []) := by unfold colP txtE; simp only [List.append_assoc, List.append_nil]
  rw [e]
  exact (rd_txt (by omega)).bind ((rd_cl h).bind (Rd.pure _) fun c => OkRd.pure _) fun t => ok_cell.bind fun c => OkRd.pure _
theorem bk_co : Bk colR (fun c E => E = colP c) := by
  refine Bk.congr ?_ colR_eq
  refine (Bk.bind (Q := fun t (c : Co) F => c.name = t ∧ F = cellP c.cell) bk_txt ok_txt fun t => (Bk.bind (Q := fun cl (c : Co) F => c = ⟨t, cl⟩ ∧ F = []) bk_cl ok_cell fun cl => Bk.pure _).mono fun c G hG => ?_).mono fun c G hG => ?_
  · obtain ⟨cl, E, F, rfl, ⟨rfl, rfl⟩, rfl⟩ := hG
    exact ⟨rfl, by rw [List.append_nil]⟩
  · obtain ⟨t, E, F, rfl, ⟨rfl, rfl⟩, rfl⟩ := hG
    unfold colP txtE
    simp only [List.append_assoc]
theorem num_ge (n : Nat) : 1 ≤ (num n).length := by rw [num_len]; omega
theorem colP_ge (c : Co) : 1 ≤ (colP c).length := by have := num_ge c.name.size; unfold colP; simp only [List.length_append]; omega
theorem rowP_ge (r : Ro) : 1 ≤ (rowP r).length := by have := num_ge r.key.size; unfold rowP; simp only [List.length_append]; omega
def rowF : Rdr Ro := seqR txtR fun k => seqR cellR fun l => seqR numR fun g => seqR numR fun h => seqR (listF colR) fun cs => pureR ⟨k, l, (g : Int), (h : Int), cs⟩
theorem rowR_eq (B : List UInt8) (s : Nat × Int) : rowR B s = rowF B s := rfl
theorem ok_row : OkRd rowR := OkRd.congr (f := rowF) (ok_txt.bind fun _ => ok_cell.bind fun _ => ok_num.bind fun _ => ok_num.bind fun _ => (ok_list ok_col).bind fun _ => OkRd.pure _) rowR_eq
theorem rd_ro {r : Ro} (h : rwB r = true) : Rd rowR r (rowP r) := by
  have hok := rwB_ok h
  unfold rwB at h
  simp only [Bool.and_eq_true] at h
  obtain ⟨_, hl, _, _, hg, hs, _⟩ := hdB_parts h.1
  have hcs := csB_ok h.2
  obtain ⟨key, live, gone, shade, cols⟩ := r
  obtain ⟨h1, _, h3, h4, h5, h6, h7, h8⟩ := hok
  simp only at h1 h3 h4 h5 h6 h7 h8 hl hcs
  obtain ⟨g, rfl⟩ : ∃ g : Nat, gone = g := ⟨gone.toNat, by omega⟩
  obtain ⟨t, rfl⟩ : ∃ g : Nat, shade = g := ⟨shade.toNat, by omega⟩
  refine Rd.congr ?_ (fun B i => rowR_eq B (i, 0))
  have e : rowP ⟨key, live, (g : Int), (t : Int), cols⟩ = txtE key ++ (cellP live ++ (num g ++ (num t ++ ((num cols.length ++ cols.flatMap colP) ++ [])))) := by
    unfold rowP txtE
    simp only [Int.toNat_natCast, List.append_assoc, List.append_nil]
  rw [e]
  unfold rowF
  refine (rd_txt (by omega)).bind ?_ (fun _ => ok_cell.bind fun _ => ok_num.bind fun _ => ok_num.bind fun _ => (ok_list ok_col).bind fun _ => OkRd.pure _)
  refine (rd_cl hl).bind ?_ (fun _ => ok_num.bind fun _ => ok_num.bind fun _ => (ok_list ok_col).bind fun _ => OkRd.pure _)
  refine (rd_num (by omega)).bind ?_ (fun _ => ok_num.bind fun _ => (ok_list ok_col).bind fun _ => OkRd.pure _)
  refine (rd_num (by omega)).bind ?_ (fun _ => (ok_list ok_col).bind fun _ => OkRd.pure _)
  exact (rd_list ok_col (by omega) (fun c hc => rd_co (h8 c hc).name (hcs c hc).2.2.1) (fun c _ => colP_ge c)).bind (Rd.pure _) (fun _ => OkRd.pure _)
theorem bk_ro : Bk rowR (fun r E => E = rowP r) := by
  refine Bk.congr ?_ rowR_eq
  unfold rowF
  refine (Bk.bind (Q := fun k (r : Ro) F => r.key = k ∧ F = cellP r.live ++ num r.gone.toNat ++ num r.shade.toNat ++ num r.cols.length ++ r.cols.flatMap colP) bk_txt ok_txt fun k => ?_).mono fun c G hG => ?_
  · refine (Bk.bind (Q := fun l (r : Ro) F => r.key = k ∧ r.live = l ∧ F = num r.gone.toNat ++ num r.shade.toNat ++ num r.cols.length ++ r.cols.flatMap colP) bk_cl ok_cell fun l => ?_).mono fun c G hG => ?_
    · refine (Bk.bind (Q := fun (g : Nat) (r : Ro) F => r.key = k ∧ r.live = l ∧ r.gone = (g : Int) ∧ F = num r.shade.toNat ++ num r.cols.length ++ r.cols.flatMap colP) bk_num ok_num fun g => ?_).mono fun c G hG => ?_
      · refine (Bk.bind (Q := fun (h : Nat) (r : Ro) F => r.key = k ∧ r.live = l ∧ r.gone = (g : Int) ∧ r.shade = (h : Int) ∧ F = num r.cols.length ++ r.cols.flatMap colP) bk_num ok_num fun h => ?_).mono fun c G hG => ?_
        · refine (Bk.bind (Q := fun cs (r : Ro) F => r = ⟨k, l, (g : Int), (h : Int), cs⟩ ∧ F = []) (bk_list bk_co ok_col) (ok_list ok_col) fun cs => Bk.pure _).mono fun c G hG => ?_
          obtain ⟨cs, E, F, rfl, ⟨rfl, rfl⟩, rfl⟩ := hG
          exact ⟨rfl, rfl, rfl, rfl, by rw [List.append_nil]⟩
        · obtain ⟨h, E, F, ⟨rfl, _⟩, ⟨e1, e2, e3, e4, rfl⟩, rfl⟩ := hG
          exact ⟨e1, e2, e3, by rw [e4, Int.toNat_natCast]; simp only [List.append_assoc]⟩
      · obtain ⟨g, E, F, ⟨rfl, _⟩, ⟨e1, e2, e3, rfl⟩, rfl⟩ := hG
        exact ⟨e1, e2, by rw [e3, Int.toNat_natCast]; simp only [List.append_assoc]⟩
    · obtain ⟨l, E, F, rfl, ⟨e1, e2, rfl⟩, rfl⟩ := hG
      exact ⟨e1, by rw [e2]; simp only [List.append_assoc]⟩
  · obtain ⟨k, E, F, rfl, ⟨e1, rfl⟩, rfl⟩ := hG
    unfold rowP txtE
    rw [e1]
    simp only [List.append_assoc]
def prtF : Rdr Pt := seqR txtR fun k => seqR numR fun g => seqR (listF rowR) fun rs => pureR ⟨k, (g : Int), rs⟩
theorem prtR_eq (B : List UInt8) (s : Nat × Int) : prtR B s = ((prtF B s).1, endR B (prtF B s).2) := rfl
theorem ok_prt : OkRd prtF := ok_txt.bind fun _ => ok_num.bind fun _ => (ok_list ok_row).bind fun _ => OkRd.pure _
theorem rd_prt {k : ByteArray} {g : Int} {rs : List Ro} (h : ptB k g rs = true) : Rd prtF ⟨k, g, rs⟩ (wholeP k g rs) := by
  have hok := ptB_ok h
  obtain ⟨h1, h2, h3, h4, h5⟩ := hok
  unfold ptB at h
  simp only [Bool.and_eq_true] at h
  have hrs := rsB_ok h.2
  obtain ⟨g, rfl⟩ : ∃ n : Nat, g = n := ⟨g.toNat, by omega⟩
  have e : wholeP k (g : Int) rs = txtE k ++ (num g ++ ((num rs.length ++ rs.flatMap rowP) ++ [])) := by
    unfold wholeP txtE
    simp only [Int.toNat_natCast, List.append_assoc, List.append_nil]
  rw [e]
  unfold prtF
  refine (rd_txt (by omega)).bind ?_ (fun _ => ok_num.bind fun _ => (ok_list ok_row).bind fun _ => OkRd.pure _)
  refine (rd_num (by omega)).bind ?_ (fun _ => (ok_list ok_row).bind fun _ => OkRd.pure _)
  exact (rd_list ok_row (by omega) (fun c hc => rd_ro (hrs c hc)) (fun c _ => rowP_ge c)).bind (Rd.pure _) (fun _ => OkRd.pure _)
theorem bk_prt : Bk prtF (fun p E => E = wholeP p.key p.gone p.rows) := by
  unfold prtF
  refine (Bk.bind (Q := fun k (r : Pt) F => r.key = k ∧ F = num r.gone.toNat ++ num r.rows.length ++ r.rows.flatMap rowP) bk_txt ok_txt fun k => ?_).mono fun c G hG => ?_
  · refine (Bk.bind (Q := fun (g : Nat) (r : Pt) F => r.key = k ∧ r.gone = (g : Int) ∧ F = num r.rows.length ++ r.rows.flatMap rowP) bk_num ok_num fun g => ?_).mono fun c G hG => ?_
    · refine (Bk.bind (Q := fun cs (r : Pt) F => r = ⟨k, (g : Int), cs⟩ ∧ F = []) (bk_list bk_ro ok_row) (ok_list ok_row) fun cs => Bk.pure _).mono fun c G hG => ?_
      obtain ⟨cs, E, F, rfl, ⟨rfl, rfl⟩, rfl⟩ := hG
      exact ⟨rfl, rfl, by rw [List.append_nil]⟩
    · obtain ⟨g, E, F, ⟨rfl, _⟩, ⟨e1, e2, rfl⟩, rfl⟩ := hG
      exact ⟨e1, by rw [e2, Int.toNat_natCast]; simp only [List.append_assoc]⟩
  · obtain ⟨k, E, F, rfl, ⟨e1, rfl⟩, rfl⟩ := hG
    unfold wholeP txtE
    rw [e1]
    simp only [List.append_assoc]

/-! ### A partition that is alone -/
theorem endR_full (B : List UInt8) (s : Nat × Int) (h : B.length ≤ s.1) : endR B s = s := if_neg (by omega)
theorem prtR_put {B : List UInt8} {k : ByteArray} {g : Int} {rs : List Ro} (h : ptB k g rs = true) (hB : B = wholeP k g rs) : prtR B (0, 0) = (⟨k, g, rs⟩, (B.length, 0)) := by
  have := (rd_prt h).fwd B 0 [] (Nat.zero_le _) (by rw [List.drop_zero, List.append_nil, hB])
  rw [prtR_eq, this]
  simp only
  rw [endR_full _ _ (by rw [hB]; simp), Nat.zero_add, ← hB]
theorem prtR_cut {k : ByteArray} {g : Int} {rs : List Ro} (h : ptB k g rs = true) {j : Nat} (hj : j < (wholeP k g rs).length) : (prtR ((wholeP k g rs).take j) (0, 0)).2.2 = 8 := by
  have := (rd_prt h).cut ((wholeP k g rs).take j) 0 ((wholeP k g rs).drop j) (Nat.zero_le _) (by rw [List.drop_zero, List.take_append_drop]) (by rw [ne_eq, List.drop_eq_nil_iff]; omega)
  rw [prtR_eq]
  simp only
  unfold endR failR
  split
  · rw [if_neg (by rw [this]; decide)]; exact this
  · exact this
theorem prtR_more {k : ByteArray} {g : Int} {rs : List Ro} (h : ptB k g rs = true) {R : List UInt8} (hR : R ≠ []) : (prtR (wholeP k g rs ++ R) (0, 0)).2.2 = 6 := by
  have := (rd_prt h).fwd (wholeP k g rs ++ R) 0 R (Nat.zero_le _) (by rw [List.drop_zero])
  have hl : 0 < R.length := List.length_pos_iff.2 hR
  rw [prtR_eq, this]
  simp only
  unfold endR
  rw [if_pos (by rw [List.length_append]; omega)]
  rfl
theorem prtR_back {B : List UInt8} {s : Nat × Int} (hs : s.1 ≤ B.length) (h : (prtR B s).2.2 = 0) : s.2 = 0 ∧ B.drop s.1 = wholeP (prtR B s).1.key (prtR B s).1.gone (prtR B s).1.rows := by
  rw [prtR_eq] at h ⊢
  simp only at h ⊢
  have hle := ok_prt.le B s hs
  unfold endR at h
  split at h
  · exact absurd h (failR_ne (by decide) _)
  · rename_i h1
    obtain ⟨a, E, rfl, c⟩ := bk_prt B s hs h
    refine ⟨a, ?_⟩
    rw [c, List.drop_eq_nil_of_le (show B.length ≤ (prtF B s).2.1 by omega), List.append_nil]
theorem prtR_er {B : List UInt8} {s : Nat × Int} (hs : s.1 ≤ B.length) (h : Er s.2) : Er (prtR B s).2.2 := by
  rw [prtR_eq]
  simp only
  have := ok_prt.er B s hs h
  unfold endR
  split
  · exact failR_er (.inr (.inl rfl)) this
  · exact this
theorem prtR_stick {B : List UInt8} {s : Nat × Int} (h : s.2 ≠ 0) : (prtR B s).2 = s := by
  rw [prtR_eq]
  simp only
  rw [ok_prt.stick B s h]
  unfold endR failR
  rw [if_neg h]
  split <;> rfl
theorem gp_put {B : List UInt8} {k : ByteArray} {g : Int} {rs : List Ro} (h : ptB k g rs = true) (hB : B = wholeP k g rs) (hl : B.length ≤ 262144) : gpErr B = 0 ∧ gpPt B = ⟨k, g, rs⟩ := by
  have e : getR B = (⟨k, g, rs⟩, (B.length, 0)) := by unfold getR; rw [if_pos hl]; exact prtR_put h hB
  have e1 : gpErr B = 0 := by unfold gpErr; rw [e]; simp [h]
  exact ⟨e1, by unfold gpPt; rw [if_pos e1, e]⟩
theorem gp_cut {k : ByteArray} {g : Int} {rs : List Ro} (h : ptB k g rs = true) (hl : (wholeP k g rs).length ≤ 262144) {j : Nat} (hj : j < (wholeP k g rs).length) : gpErr ((wholeP k g rs).take j) = 8 := by
  have e : (getR ((wholeP k g rs).take j)).2.2 = 8 := by unfold getR; rw [if_pos (by rw [List.length_take]; omega)]; exact prtR_cut h hj
  unfold gpErr
  rw [e]; rfl
theorem gp_more {k : ByteArray} {g : Int} {rs : List Ro} (h : ptB k g rs = true) {R : List UInt8} (hR : R ≠ []) (hl : (wholeP k g rs ++ R).length ≤ 262144) : gpErr (wholeP k g rs ++ R) = 6 := by
  have e : (getR (wholeP k g rs ++ R)).2.2 = 6 := by unfold getR; rw [if_pos hl]; exact prtR_more h hR
  unfold gpErr
  rw [e]; rfl
theorem gp_back {B : List UInt8} (h : gpErr B = 0) : ptB (gpPt B).key (gpPt B).gone (gpPt B).rows = true ∧ wholeP (gpPt B).key (gpPt B).gone (gpPt B).rows = B ∧ B.length ≤ 262144 := by
  have hp : gpPt B = (getR B).1 := if_pos h
  unfold gpErr at h
  split at h
  · rename_i h1
    split at h
    · rename_i h2
      have hl : B.length ≤ 262144 := by
        by_cases h3 : B.length ≤ 262144
        · exact h3
        · exfalso
          unfold getR at h1
          rw [if_neg h3, prtR_stick (by decide)] at h1
          cases h1
      rw [hp]
      have h5 := h1
      unfold getR at h5
      have := prtR_back (B := B) (Nat.zero_le _) h5
      rw [List.drop_zero] at this
      exact ⟨h2, this.2.symm, hl⟩
    · cases h
  · rename_i h1
    exact absurd h h1
theorem gp_er {B : List UInt8} (hl : B.length ≤ 262144) : gpErr B = 0 ∨ gpErr B = 1 ∨ gpErr B = 6 ∨ gpErr B = 8 := by
  have : Er (getR B).2.2 := by unfold getR; rw [if_pos hl]; exact prtR_er (Nat.zero_le _) (.inl rfl)
  unfold gpErr
  split
  · split
    · exact .inl rfl
    · exact .inr (.inl rfl)
  · rename_i h
    rcases this with h1 | h1 | h1
    · exact absurd h1 h
    · exact .inr (.inr (.inl h1))
    · exact .inr (.inr (.inr h1))
theorem gp_none {B : List UInt8} (h : gpErr B ≠ 0) : gpPt B = ⟨⟨#[]⟩, 0, []⟩ := if_neg h
end Go.Proofs.YtimbikbbbfpeeaaGreatDoor

/- Plain laws: batches: what is put is got; what is got is put as the same bytes. -/
namespace Go.Proofs.YtimbikbbbfpeeaaGreatDoor
open Go Go.RowKit

/-- A partition within a text. -/
def inR (t b : ByteArray) : Rdr Mq := fun _ s => (⟨t, (prtR b.data.toList (0, s.2)).1⟩, failR (prtR b.data.toList (0, s.2)).2.2 s)
theorem mutR_eq (B : List UInt8) (s : Nat × Int) : mutR B s = seqR txtR (fun t => seqR txtR fun b => inR t b) B s := rfl
theorem failR_stick {k : Int} {s : Nat × Int} (h : s.2 ≠ 0) : failR k s = s := if_neg h
theorem ok_in (t b : ByteArray) : OkRd (inR t b) :=
  ⟨fun _ s h => failR_stick h, fun _ s h => by unfold inR; simp only [failR_one]; exact h, fun _ s _ he => failR_er (prtR_er (Nat.zero_le _) he) he⟩
theorem ok_mut : OkRd mutR := (ok_txt.bind fun t => ok_txt.bind fun b => ok_in t b).congr mutR_eq
theorem rd_in {t b : ByteArray} {x : Mq} (ht : x.table = t) (h : ptB x.pt.key x.pt.gone x.pt.rows = true) (hb : b.data.toList = wholeP x.pt.key x.pt.gone x.pt.rows) : Rd (inR t b) x [] := by
  refine ⟨fun _ i _ _ _ => ?_, fun _ _ T _ h hT => absurd (List.append_eq_nil_iff.1 h).2 hT⟩
  unfold inR
  simp only
  rw [prtR_put h hb, ← ht]
  rfl
theorem rd_mut {x : Mq} (h : okMq x = true) : Rd mutR x (mutE x) := by
  unfold okMq at h
  simp only [Bool.and_eq_true] at h
  have hn := nameB_size h.1
  have hw := wholeP_le8 h.2
  refine Rd.congr ?_ (fun B i => mutR_eq B (i, 0))
  have e : mutE x = txtE x.table ++ (txtE (str (wholeP x.pt.key x.pt.gone x.pt.rows)) ++ []) := by
    unfold mutE mutQ txtE
    simp only [List.append_assoc, List.append_nil, str_size, str_toList]
  rw [e]
  refine (rd_txt (by omega)).bind ?_ fun t => ok_txt.bind fun b => ok_in t b
  exact (rd_txt (by rw [str_size]; omega)).bind (rd_in rfl h.2 rfl) fun b => ok_in _ b
theorem bk_in (t b : ByteArray) : Bk (inR t b) (fun x E => E = [] ∧ x.table = t ∧ b.data.toList = wholeP x.pt.key x.pt.gone x.pt.rows) := fun B s hs h => by
  unfold inR at h ⊢
  simp only at h ⊢
  by_cases h0 : s.2 = 0
  · unfold failR at h
    rw [if_pos h0] at h
    simp only at h
    have := prtR_back (Nat.zero_le _) h
    rw [List.drop_zero] at this
    exact ⟨h0, [], ⟨rfl, trivial, this.2⟩, by rw [failR_one]; rfl⟩
  · rw [failR_stick h0] at h
    exact absurd h h0
theorem bk_mut : Bk mutR (fun x E => E = mutE x) := by
  refine Bk.congr ?_ mutR_eq
  refine (Bk.bind (Q := fun t (x : Mq) F => x.table = t ∧ F = txtE (str (wholeP x.pt.key x.pt.gone x.pt.rows))) bk_txt ok_txt fun t => (Bk.bind (Q := fun b (x : Mq) F => F = [] ∧ x.table = t ∧ b.data.toList = wholeP x.pt.key x.pt.gone x.pt.rows) bk_txt ok_txt fun b => bk_in t b).mono fun x G hG => ?_).mono fun x G hG => ?_
  · obtain ⟨b, E, F, rfl, ⟨rfl, h1, h2⟩, rfl⟩ := hG
    refine ⟨h1, ?_⟩
    rw [← h2, str_back, List.append_nil]
  · obtain ⟨t, E, F, rfl, ⟨rfl, rfl⟩, rfl⟩ := hG
    unfold mutE mutQ txtE
    simp only [List.append_assoc, str_size, str_toList]
theorem noteR_eq (B : List UInt8) (s : Nat × Int) : noteR B s = seqR numR (fun n => seqR txtR fun t => pureR (⟨(n : Int), t⟩ : Nt)) B s := rfl
theorem ok_note : OkRd noteR := OkRd.congr (ok_num.bind fun n => ok_txt.bind fun t => OkRd.pure (⟨(n : Int), t⟩ : Nt)) noteR_eq
theorem rd_note {x : Nt} (h : okNt x = true) : Rd noteR x (notP x) := by
  unfold okNt idB at h
  simp only [Bool.and_eq_true, decide_eq_true_eq] at h
  obtain ⟨id, body⟩ := x
  simp only at h
  obtain ⟨n, rfl⟩ : ∃ n : Nat, id = n := ⟨id.toNat, by omega⟩
  refine Rd.congr ?_ (fun B i => noteR_eq B (i, 0))
  have e : notP ⟨(n : Int), body⟩ = num n ++ (txtE body ++ []) := by
    unfold notP txtE
    simp only [List.append_assoc, List.append_nil, Int.toNat_natCast]
  rw [e]
  refine (rd_num (by omega)).bind ?_ fun n => ok_txt.bind fun t => OkRd.pure _
  exact (rd_txt (by omega)).bind (Rd.pure _) fun b => OkRd.pure _
theorem bk_note : Bk noteR (fun x E => E = notP x) := by
  refine Bk.congr ?_ noteR_eq
  refine (Bk.bind (Q := fun (n : Nat) (x : Nt) F => x.id = (n : Int) ∧ F = txtE x.body) bk_num ok_num fun n => (Bk.bind (Q := fun t (x : Nt) F => x = ⟨(n : Int), t⟩ ∧ F = []) bk_txt ok_txt fun t => Bk.pure _).mono fun x G hG => ?_).mono fun x G hG => ?_
  · obtain ⟨t, E, F, rfl, ⟨rfl, rfl⟩, rfl⟩ := hG
    exact ⟨rfl, by rw [List.append_nil]⟩
  · obtain ⟨n, E, F, ⟨rfl, _⟩, ⟨h1, rfl⟩, rfl⟩ := hG
    unfold notP txtE
    rw [h1, Int.toNat_natCast]
    simp only [List.append_assoc]
theorem numIR_eq (B : List UInt8) (s : Nat × Int) : numIR B s = seqR numR (fun n => pureR (n : Int)) B s := rfl
theorem ok_numI : OkRd numIR := OkRd.congr (ok_num.bind fun n => OkRd.pure (n : Int)) numIR_eq
theorem rd_numI {x : Int} (h : idB x = true) : Rd numIR x (num x.toNat) := by
  unfold idB at h
  simp only [Bool.and_eq_true, decide_eq_true_eq] at h
  obtain ⟨n, rfl⟩ : ∃ n : Nat, x = n := ⟨x.toNat, by omega⟩
  refine Rd.congr ?_ (fun B i => numIR_eq B (i, 0))
  have := (rd_num (x := n) (by omega)).bind (g := fun n : Nat => pureR (n : Int)) (Rd.pure (n : Int)) fun n => OkRd.pure (n : Int)
  rw [List.append_nil] at this
  exact this
theorem bk_numI : Bk numIR (fun x E => E = num x.toNat) := by
  refine Bk.congr ?_ numIR_eq
  refine (Bk.bind (Q := fun (n : Nat) (x : Int) F => x = (n : Int) ∧ F = []) bk_num ok_num fun n => Bk.pure _).mono fun x G hG => ?_
  obtain ⟨n, E, F, ⟨rfl, _⟩, ⟨rfl, rfl⟩, rfl⟩ := hG
  rw [List.append_nil, Int.toNat_natCast]
theorem mutE_ge (x : Mq) : 1 ≤ (mutE x).length := by have := num_ge x.table.size; unfold mutE mutQ; simp only [List.length_append]; omega
theorem notP_ge (x : Nt) : 1 ≤ (notP x).length := by have := num_ge x.id.toNat; unfold notP; simp only [List.length_append]; omega
def btF : Rdr Bt := seqR (listF mutR) fun M => seqR (listF noteR) fun A => seqR (listF numIR) fun D => pureR ⟨M, A, D⟩
theorem btR_eq (B : List UInt8) (s : Nat × Int) : btR B s = ((btF B s).1, endR B (btF B s).2) := rfl
theorem ok_bt : OkRd btF := (ok_list ok_mut).bind fun _ => (ok_list ok_note).bind fun _ => (ok_list ok_numI).bind fun _ => OkRd.pure _
theorem rd_bt {b : Bt} (h : cbQ b = true) : Rd btF b (batQ b) := by
  unfold cbQ at h
  simp only [Bool.and_eq_true, decide_eq_true_eq, List.all_eq_true] at h
  obtain ⟨⟨⟨⟨⟨z1, z2⟩, z3⟩, hM⟩, hA⟩, hD⟩ := h
  obtain ⟨M, A, D⟩ := b
  simp only at z1 z2 z3 hM hA hD
  have e : batQ ⟨M, A, D⟩ = (num M.length ++ M.flatMap mutE) ++ ((num A.length ++ A.flatMap notP) ++ ((num D.length ++ D.flatMap fun d => num d.toNat) ++ [])) := by
    unfold batQ
    simp only [List.append_assoc, List.append_nil]
  rw [e]
  unfold btF
  refine (rd_list ok_mut (by omega) (fun x hx => rd_mut (hM x hx)) fun x _ => mutE_ge x).bind ?_ fun _ => (ok_list ok_note).bind fun _ => (ok_list ok_numI).bind fun _ => OkRd.pure _
  refine (rd_list ok_note (by omega) (fun x hx => rd_note (hA x hx)) fun x _ => notP_ge x).bind ?_ fun _ => (ok_list ok_numI).bind fun _ => OkRd.pure _
  exact (rd_list ok_numI (by omega) (fun x hx => rd_numI (hD x hx)) fun x _ => num_ge _).bind (Rd.pure _) fun _ => OkRd.pure _
theorem bk_bt : Bk btF (fun b E => E = batQ b) := by
  unfold btF
  refine (Bk.bind (Q := fun M (b : Bt) F => b.muts = M ∧ F = num b.add.length ++ b.add.flatMap notP ++ num b.drop.length ++ b.drop.flatMap fun d => num d.toNat) (bk_list bk_mut ok_mut) (ok_list ok_mut) fun M => ?_).mono fun c G hG => ?_
  · refine (Bk.bind (Q := fun A (b : Bt) F => b.muts = M ∧ b.add = A ∧ F = num b.drop.length ++ b.drop.flatMap fun d => num d.toNat) (bk_list bk_note ok_note) (ok_list ok_note) fun A => ?_).mono fun c G hG => ?_
    · refine (Bk.bind (Q := fun D (b : Bt) F => b = ⟨M, A, D⟩ ∧ F = []) (bk_list bk_numI ok_numI) (ok_list ok_numI) fun D => Bk.pure _).mono fun c G hG => ?_
      obtain ⟨D, E, F, rfl, ⟨rfl, rfl⟩, rfl⟩ := hG
      exact ⟨rfl, rfl, by rw [List.append_nil]⟩
    · obtain ⟨A, E, F, rfl, ⟨h1, rfl, rfl⟩, rfl⟩ := hG
      exact ⟨h1, by simp only [List.append_assoc]⟩
  · obtain ⟨M, E, F, rfl, ⟨rfl, rfl⟩, rfl⟩ := hG
    unfold batQ
    simp only [List.append_assoc]
theorem btR_put {B : List UInt8} {b : Bt} (h : cbQ b = true) (hB : B = batQ b) : btR B (0, 0) = (b, (B.length, 0)) := by
  have := (rd_bt h).fwd B 0 [] (Nat.zero_le _) (by rw [List.drop_zero, List.append_nil, hB])
  rw [btR_eq, this]
  simp only
  rw [endR_full _ _ (by rw [hB]; simp), Nat.zero_add, ← hB]
theorem btR_back {B : List UInt8} {s : Nat × Int} (hs : s.1 ≤ B.length) (h : (btR B s).2.2 = 0) : s.2 = 0 ∧ B.drop s.1 = batQ (btR B s).1 := by
  rw [btR_eq] at h ⊢
  simp only at h ⊢
  have hle := ok_bt.le B s hs
  unfold endR at h
  split at h
  · exact absurd h (failR_ne (by decide) _)
  · rename_i h1
    obtain ⟨a, E, rfl, c⟩ := bk_bt B s hs h
    refine ⟨a, ?_⟩
    rw [c, List.drop_eq_nil_of_le (show B.length ≤ (btF B s).2.1 by omega), List.append_nil]
theorem btR_stick {B : List UInt8} {s : Nat × Int} (h : s.2 ≠ 0) : (btR B s).2 = s := by
  rw [btR_eq]
  simp only
  rw [ok_bt.stick B s h]
  unfold endR failR
  rw [if_neg h]
  split <;> rfl
theorem gb_put {B : List UInt8} {b : Bt} (h : cbQ b = true) (hB : B = batQ b) (hl : B.length ≤ 262144) : gbErr B = 0 ∧ gbBt B = b := by
  have e : gB B = (b, (B.length, 0)) := by unfold gB; rw [if_pos hl]; exact btR_put h hB
  have e1 : gbErr B = 0 := by unfold gbErr; rw [e]; simp [h]
  exact ⟨e1, by unfold gbBt; rw [if_pos e1, e]⟩
theorem gb_back {B : List UInt8} (h : gbErr B = 0) : cbQ (gbBt B) = true ∧ batQ (gbBt B) = B ∧ B.length ≤ 262144 := by
  have hp : gbBt B = (gB B).1 := if_pos h
  unfold gbErr at h
  split at h
  · rename_i h1
    split at h
    · rename_i h2
      have hl : B.length ≤ 262144 := by
        by_cases h3 : B.length ≤ 262144
        · exact h3
        · exfalso
          unfold gB at h1
          rw [if_neg h3, btR_stick (by decide)] at h1
          cases h1
      rw [hp]
      have h5 := h1
      unfold gB at h5
      have := btR_back (B := B) (Nat.zero_le _) h5
      rw [List.drop_zero] at this
      exact ⟨h2, this.2.symm, hl⟩
    · cases h
  · rename_i h1
    exact absurd h h1
theorem gb_none {B : List UInt8} (h : gbErr B ≠ 0) : gbBt B = ⟨[], [], []⟩ := if_neg h
end Go.Proofs.YtimbikbbbfpeeaaGreatDoor

/- store: (*Store).replay: a log's records, as far as they go. -/
namespace Go.Proofs.YtimbikbbbfpeeaaGreatDoor
open Go Go.RowKit
attribute [local go_sem] yields yUpon

/-- Texts in memory stay while maps and tables turn. -/
theorem strs_touch {W0 w w' : World} {C : Nat} {s : Sto} (h : StoAt W0 w C s) {v : Value} {l : List (List UInt8)} (hs : StrsIn w v l) (hT : Touch w w' (s.tbl ++ [s.mn])) : StrsIn w' v l := by
  obtain ⟨a, c, e, h1, h2, h3, hc⟩ := hs
  refine ⟨a, c, e, h1, h2, h3, fun j u hj => ?_⟩
  obtain ⟨b, o, e2, hx⟩ := hc j u hj
  refine ⟨b, o, e2, hT.cell hx fun hb => ?_⟩
  have hu : ∃ x, u = .string x := by
    unfold scells at hj
    rw [List.getElem?_map] at hj
    obtain ⟨x, _, e3⟩ := Option.map_eq_some_iff.1 hj
    exact ⟨_, e3.symm⟩
  obtain ⟨x, rfl⟩ := hu
  have hmap : ∀ m (es : Array MapEntry) (ck : Nat), w.heap[m]? = some (.map es ck) → m ≠ b := fun m es ck hm hmb => by
    subst hmb
    unfold World.cell? at hx
    rw [hm] at hx
    simp at hx
  rcases List.mem_append.1 hb with hb | hb
  · unfold Sto.tbl at hb
    rcases List.mem_cons.1 hb with hb | hb
    · obtain ⟨es, ck, hm⟩ := h.tabs.map.isMap
      exact hmap _ _ _ hm hb.symm
    · obtain ⟨t, ht, hb⟩ := mem_blocksT.1 hb
      have hat := h.tabs.tabs t ht
      simp only [Tb.blocks, List.mem_cons, List.not_mem_nil, or_false] at hb
      rcases hb with hb | hb | hb
      · subst hb
        rw [hat.box.cell] at hx
        rcases j' : (o + j) with _ | _ | n <;> rw [j'] at hx <;> simp at hx
      · obtain ⟨es, ck, hm⟩ := hat.pm.isMap
        exact hmap _ _ _ hm hb.symm
      · obtain ⟨es, ck, hm⟩ := hat.sm.isMap
        exact hmap _ _ _ hm hb.symm
  · obtain ⟨⟨es, ck, hm, _⟩, _⟩ := h.notes.files
    exact hmap _ _ _ hm (List.mem_singleton.1 hb).symm
/-- What replay makes of a store. -/
def stRe (s : Sq) (log : List UInt8) : Sq × List (List UInt8) := stReplay s (scan log 0).1
theorem goes_snoc {σ β : Type} {ok : σ → β → Bool} {next : σ → β → σ} {s : σ} {l : List β} {x : β} (h : (goes ok next s l).2 = l) (hx : ok (goes ok next s l).1 x = true) : goes ok next s (l ++ [x]) = (next (goes ok next s l).1 x, l ++ [x]) := by
  rw [goes_append s l [x] h, goes_one hx]
theorem goes_stop {σ β : Type} {ok : σ → β → Bool} {next : σ → β → σ} {s : σ} {l : List β} {x : β} {r : List β} (h : (goes ok next s l).2 = l) (hx : ok (goes ok next s l).1 x = false) : goes ok next s (l ++ x :: r) = goes ok next s l := by
  rw [goes_append s l (x :: r) h]
  have e : goes ok next (goes ok next s l).1 (x :: r) = ((goes ok next s l).1, []) := by simp [goes, hx]
  rw [e, List.append_nil]
  exact Prod.ext rfl h.symm
theorem scan_cut {log : List UInt8} {k : Nat} (hk : k ≤ (scan log 0).1.length) : (puts 0 ((scan log 0).1.take k)).length ≤ log.length ∧ log.take (puts 0 ((scan log 0).1.take k)).length = puts 0 ((scan log 0).1.take k) := by
  obtain ⟨h1, h2⟩ := scan_take log
  have h3 := (scan_le log _ 0 (Nat.le_refl _) (Nat.zero_le _)).1
  have e : puts 0 (scan log 0).1 = puts 0 ((scan log 0).1.take k) ++ puts (0 + (puts 0 ((scan log 0).1.take k)).length) ((scan log 0).1.drop k) := by
    rw [← puts_append, List.take_append_drop]
  have hl : (puts 0 ((scan log 0).1.take k)).length ≤ (puts 0 (scan log 0).1).length := by rw [e, List.length_append]; omega
  refine ⟨by omega, ?_⟩
  have : log.take (puts 0 ((scan log 0).1.take k)).length = (log.take (scan log 0).2).take (puts 0 ((scan log 0).1.take k)).length := by rw [List.take_take, Nat.min_eq_left (by omega)]
  rw [this, h1, e, List.take_left]

theorem puts_mem : ∀ {l : List (List UInt8)} {n : Nat} {x : List UInt8}, x ∈ l → x.length ≤ (puts n l).length
  | [], _, _, h => by cases h
  | y :: l, n, x, h => by
    simp only [puts, List.length_append]
    rcases List.mem_cons.1 h with rfl | h
    · have := sput_pos false n x; omega
    · have := puts_mem (n := n + (sput false n y).length) h; omega
theorem bt_eta (b : Bt) {M : List Mq} (h : M = b.muts) : (⟨M, b.add, b.drop⟩ : Bt) = b := by subst h; rfl

set_option maxRecDepth 100000 in
set_option maxHeartbeats 8000000 in
theorem replay_any (W0 w : World) (C n : Nat) (s : Sto) (h : StoAt W0 w C s) (hn : (scan s.log.data.toList 0).1.length = n) (hC : C + 512 * n ≤ 390000) :
    Calls Tryz.prog 32 #[.pointer (some ⟨s.ps, 0, none⟩)] w fun e w' => e = .returned (.tuple #[]) ∧ ∃ ts N, StoAt W0 w' (C + 512 * n) { s with log := s.log.extract 0 (puts 0 (stRe s.q s.log.data.toList).2).length, good := (puts 0 (stRe s.q s.log.data.toList).2).length, ts := ts, N := N } ∧ (⟨ts.map Tb.q, N⟩ : Sq) = (stRe s.q s.log.data.toList).1 ∧ Turned w w' s { s with log := s.log.extract 0 (puts 0 (stRe s.q s.log.data.toList).2).length, good := (puts 0 (stRe s.q s.log.data.toList).2).length, ts := ts, N := N } := by
  have hll : s.log.data.toList.length = s.log.size := by rw [Array.length_toList]; rfl
  have hp0 : w.cell? ⟨s.ps, 0, none⟩ = some (.pointer (some ⟨s.pd, 0, none⟩)) := by rw [h.box.cell]; rfl
  have hls := h.shelf.log_le
  obtain ⟨bs, hbs⟩ : ∃ l, l = (scan s.log.data.toList 0).1 := ⟨_, rfl⟩
  obtain ⟨R, hR⟩ : ∃ R, R = stRe s.q s.log.data.toList := ⟨_, rfl⟩
  have hRR : R = goes stOk stNext s.q bs := by rw [hR, hbs]; rfl
  rw [← hbs] at hn
  rw [← hR]
  have hcut : ∀ k, k ≤ bs.length → (puts 0 (bs.take k)).length ≤ s.log.size := fun k hk => by
    rw [hbs] at hk ⊢
    rw [← hll]
    exact (scan_cut hk).1
  have hxl : ∀ x ∈ bs, x.length ≤ 262144 := fun x hx => by
    have h1 := puts_mem (n := 0) hx
    have h2 := hcut bs.length (Nat.le_refl _)
    rw [List.take_length] at h2
    omega
  have K1 : ∀ v w', BytesIn w' v s.log.data.toList → Calls Tryz.prog 66 #[v] w' fun e w'' => ∃ v' g, e = .returned (.tuple #[v', .int .i64 g]) ∧ Ext w' w'' ∧ StrsIn w'' v' bs := fun v w' hv => by
    have := scan_any v s.log.data.toList (by rw [hll]; omega) w' hv
    rw [← hbs] at this
    exact this.mono fun e w'' ⟨v', ⟨he, hx⟩, hs⟩ => ⟨v', _, he, hx, hs⟩
  have HK1 := Lib.hid K1
  have HRR := far hRR
  have HCUT := Lib.hid hcut
  have HXL := Lib.hid hxl
  have HN := Lib.hid hn
  have HH := Lib.hid h
  have HR2 := Lib.hid hR
  have hlog := sh_log w h.shelf
  clear K1 hRR hcut hxl hn hbs hR hll h
  go_enter Tryz.func32, Tryz.ntmps32
  go_wp2_with (first
    | (go_at_call 13; go_must (refine hlog.mono ?_); rintro e w1 ⟨rfl, rfl⟩)
    | ((guard_target =~ wpList _ _ _ (Oper.mk (some 15) _ _ _ _ _ :: _) _ _); go_must (refine wpList_strB (by rfl) (.tmp 14) rfl rfl (by unfold maxLen; omega) ?_); intro c2 w2 hby hE2 hsz2)
    | (go_at_call 66; go_must (refine (HK1.out _ w2 hby).mono ?_); rintro e w3 ⟨v3, g3, rfl, hE3, hs3⟩; obtain ⟨a3, c3, rfl, hc3, hcm3, _⟩ := id hs3; unfold maxLen at hcm3))
  rw [HN.out] at hs3 ⊢
  have hst := HH.out.ext (hE2.trans hE3)
  have hT3 : Turned w w3 s s := Turned.ext (hE2.trans hE3) s
  have hnn : n ≤ 262144 := by
    have h1 := HCUT.out bs.length (Nat.le_refl _)
    have h2 : ∀ (l : List (List UInt8)) (m : Nat), l.length ≤ (puts m l).length := by
      intro l
      induction l with
      | nil => intro m; simp
      | cons x l ih => intro m; have := ih (m + (sput false m x).length); have := sput_pos false m x; simp only [puts, List.length_append, List.length_cons]; omega
    have h3 := h2 bs 0
    rw [List.take_length] at h1
    rw [← HN.out]; omega
  clear hby hE2 hsz2 hE3 hp0 hlog hc3
  go_loopw [4, 21] (fun vb i wr => ∃ (k : Nat) (ts : List Tb) (N : Fl), k ≤ n ∧ i = .int .i64 (k : Int) ∧ TIn wr 5 vb (puts 0 (bs.take k)).length (bcells (puts 0 (bs.take k))) ∧ StoAt W0 wr (C + 512 * k) { s with ts := ts, N := N } ∧ Hid (goes stOk stNext s.q (bs.take k) = (⟨ts.map Tb.q, N⟩, bs.take k)) ∧ StrsIn wr (.slice a3 n c3) bs ∧ Turned w wr s { s with ts := ts, N := N }) (fun _ i _ => n - (intOf i).toNat)
  case atStart => exact ⟨0, s.ts, s.N, Nat.zero_le _, rfl, TIn.nil _ _, hst, Lib.hid rfl, hs3, hT3⟩
  case round =>
    obtain ⟨k, ts, N, hk, rfl, htb, hS, HGO0, hsk, hTu⟩ := hrel
    have HGO := far HGO0.out
    clear HGO0
    clear hst hT3 hs3
    obtain ⟨ln, hln⟩ : ∃ n, n = (puts 0 (bs.take k)).length := ⟨_, rfl⟩
    have htb0 := htb
    rw [← hln] at htb0
    obtain ⟨av, cv, rfl⟩ := htb0.shape
    clear htb0
    have HLN := far hln
    clear hln
    by_cases hlt : k < n
    · have hkF : k < bs.length := by rw [HN.out]; exact hlt
      obtain ⟨_, _, ee, _, _, _, hget⟩ := id hsk
      injection ee with ea en ec
      subst ea
      clear en ec
      obtain ⟨b, o, e1, g0⟩ := hget k (.string (str bs[k])) (by unfold scells; rw [List.getElem?_map, List.getElem?_eq_getElem hkF]; rfl)
      subst e1
      clear hget
      have hxb := HXL.out _ (List.getElem_mem hkF)
      have hput := puts_take hkF
      have hdr : bs = bs.take k ++ bs[k] :: bs.drop (k + 1) := by rw [← List.drop_eq_getElem_cons hkF, List.take_append_drop]
      have htk : bs.take (k + 1) = bs.take k ++ [bs[k]] := List.take_succ_eq_append_getElem hkF
      obtain ⟨x, hx⟩ : ∃ x, x = bs[k] := ⟨_, rfl⟩
      rw [← hx] at g0 hxb hput hdr htk
      clear hx
      have hxs : (str x).size = x.length := str_size x
      have HXS := Lib.hid hxs
      have HPT := Lib.hid hput
      have HDR := Lib.hid hdr
      have HTK := Lib.hid htk
      clear hput hdr htk hxs
      have t1 : decide ((k : Int) < (n : Int)) = true := by simp; omega
      have hk5 : C + 512 * k + 512 ≤ 400000 := by have := Nat.mul_le_mul_left 512 hk; omega
      obtain ⟨xs, hxs⟩ : ∃ xs, xs = str x := ⟨_, rfl⟩
      have hxd : xs.data.toList = x := by rw [hxs]; exact str_data' x
      have hxz : xs.size ≤ 262144 := by rw [hxs, HXS.out]; exact hxb
      rw [← hxs] at g0
      have HXD := Lib.hid hxd
      have HXE := Lib.hid hxs
      clear hxs hxd
      obtain ⟨er, her⟩ : ∃ e, e = gbErr x := ⟨_, rfl⟩
      obtain ⟨bt, hbt⟩ : ∃ e, e = gbBt x := ⟨_, rfl⟩
      have K2 : ∀ w' v, BytesIn w' v x → (∀ b o k c, v = .slice (some ⟨b, o, none⟩) k c → b < w'.heap.size) → TabU w' → Calls Tryz.prog 67 #[v] w' fun e w'' => ∃ vm va vd ms, e = .returned (.tuple #[.agg #[vm, va, vd], .int .i64 er]) ∧ Got w'' vm va vd ms bt.add bt.drop ∧ ms.map Mt.q = bt.muts ∧ Ext w' w'' := fun w' v hv hl hT => by
        rw [her, hbt]
        exact pk_getbatch v x w' hv (by omega) hl hT
      have hokk : stOk ⟨ts.map Tb.q, N⟩ x = (decide (er = 0) && stFits ⟨ts.map Tb.q, N⟩ bt) := by rw [her, hbt]; rfl
      have hnext : stNext ⟨ts.map Tb.q, N⟩ x = stPut ⟨ts.map Tb.q, N⟩ bt := by rw [hbt]; rfl
      have hcb : er = 0 → cbQ bt = true := fun h => by rw [hbt]; exact (gb_back (by rw [← her]; exact h)).1
      have HK2 := Lib.hid K2
      have HOKK := far hokk
      have HNX := far hnext
      have HCB := Lib.hid hcb
      clear her hbt K2 hokk hnext hcb
      have hTab := hS.tabU
      by_cases her : er = 0
      · subst her
        obtain ⟨bf, hbf⟩ : ∃ b, b = stFits ⟨ts.map Tb.q, N⟩ bt := ⟨_, rfl⟩
        have hok2 : stOk ⟨ts.map Tb.q, N⟩ x = bf := by rw [HOKK (), ← hbf]; rfl
        have K3 : ∀ w' vm va vd ms, Ext wr w' → Got w' vm va vd ms bt.add bt.drop → ms.map Mt.q = bt.muts → Calls Tryz.prog 38 #[.pointer (some ⟨s.ps, 0, none⟩), .agg #[vm, va, vd]] w' fun e w'' => e = .returned (.bool bf) ∧ Ext w' w'' := fun w' vm va vd ms hx hg hq => by
          have e1 : (⟨ms.map Mt.q, bt.add, bt.drop⟩ : Bt) = bt := bt_eta bt hq
          obtain ⟨n1, n2⟩ := cbQ_names (ms := ms) (A := bt.add) (D := bt.drop) (by rw [e1]; exact HCB.out rfl)
          have := stfits_any W0 w' (C + 512 * k) _ (hS.ext hx) vm va vd ms bt.add bt.drop hg hk5 n1 n2
          rw [e1] at this
          rw [hbf]
          exact this
        have K4 : ∀ w' vm va vd ms, Ext wr w' → Got w' vm va vd ms bt.add bt.drop → ms.map Mt.q = bt.muts → bf = true → Calls Tryz.prog 40 #[.pointer (some ⟨s.ps, 0, none⟩), .agg #[vm, va, vd]] w' fun e w'' => e = .returned (.tuple #[]) ∧ ∃ ts' N', StoAt W0 w'' (C + 512 * (k + 1)) { s with ts := ts', N := N' } ∧ (⟨ts'.map Tb.q, N'⟩ : Sq) = stPut ⟨ts.map Tb.q, N⟩ bt ∧ Turned w w'' s { s with ts := ts', N := N' } ∧ Touch w' w'' (({ s with ts := ts, N := N } : Sto).tbl ++ [s.mn]) := fun w' vm va vd ms hx hg hq hb => by
          have e1 : (⟨ms.map Mt.q, bt.add, bt.drop⟩ : Bt) = bt := bt_eta bt hq
          have := stput_any W0 w' (C + 512 * k) _ (hS.ext hx) vm va vd ms bt.add bt.drop hg hk5 (by rw [e1]; rw [hbf] at hb; exact hb)
          rw [e1] at this
          exact this.mono fun e w'' ⟨he, ts', N', h1, h2, h3, h4⟩ => ⟨he, ts', N', h1.mono (by omega), h2, (hTu.trans (Turned.ext hx _)).trans h3, h4⟩
        have K5 : ∀ w' v, TIn w' 5 v (puts 0 (bs.take k)).length (bcells (puts 0 (bs.take k))) → Calls Tryz.prog 68 #[v, .string xs] w' fun e w'' => ∃ v', e = .returned v' ∧ Ext w' w'' ∧ TIn w'' 5 v' (puts 0 (bs.take (k + 1))).length (bcells (puts 0 (bs.take (k + 1)))) := fun w' v hv => by
          have hle := HCUT.out k (by rw [HN.out]; exact hk)
          refine (put_gen v (puts 0 (bs.take k)) (by omega) xs (by omega) w' hv.slice).mono ?_
          rintro e w'' ⟨v', ⟨he, hx⟩, ho⟩
          rw [HXD.out, HPT.out] at ho
          exact ⟨v', he, hx, TIn.own ho⟩
        have HK3 := Lib.hid K3
        have HK4 := Lib.hid K4
        have HK5 := Lib.hid K5
        have HOK2 := far hok2
        clear hok2 K3 K4 K5 hbf
        cases bf
        · have hRk : goes stOk stNext s.q bs = goes stOk stNext s.q (bs.take k) := by
            have h1 := goes_stop (ok := stOk) (next := stNext) (s := s.q) (l := bs.take k) (x := x) (r := bs.drop (k + 1)) (by rw [HGO ()]) (by rw [HGO ()]; exact HOK2 ())
            rw [← HDR.out] at h1
            exact h1
          clear HK4 HK5
          have hcn : cutN ((puts 0 (bs.take k)).length : Int) s.log.size = (puts 0 (bs.take k)).length := by
            have := HCUT.out k (by rw [HN.out]; exact hk)
            unfold cutN; omega
          have HSC : Hid (∀ w', Ext wr w' → Calls Tryz.prog 42 #[.pointer (some ⟨s.pd, 0, none⟩), .int .i64 (ln : Int)] w' fun e w'' => (e = .returned (.tuple #[]) ∧ Touch w' w'' [s.pd]) ∧ ShelfAt w'' s.pd s.mf (s.log.extract 0 ln) ln s.F s.man) := Lib.hid fun w' hx => by
            have := sh_cut ((puts 0 (bs.take k)).length : Int) w' (hS.ext hx).shelf
            simp only [hcn] at this
            rw [← HLN ()] at this
            exact this
          have HFIN : Hid (∀ w0 w', Ext wr w0 → Touch w0 w' [s.pd] → ShelfAt w' s.pd s.mf (s.log.extract 0 ln) ln s.F s.man → ∃ ts N, StoAt W0 w' (C + 512 * n) { s with log := s.log.extract 0 (puts 0 R.2).length, good := (puts 0 R.2).length, ts := ts, N := N } ∧ (⟨ts.map Tb.q, N⟩ : Sq) = R.1 ∧ Turned w w' s { s with log := s.log.extract 0 (puts 0 R.2).length, good := (puts 0 R.2).length, ts := ts, N := N }) := Lib.hid fun w0 w' hx ht hs' => by
            have hGO := HGO ()
            have e2 : R.2 = bs.take k := by rw [HRR (), hRk, hGO]
            have e1 : R.1 = ⟨ts.map Tb.q, N⟩ := by rw [HRR (), hRk, hGO]
            rw [e2, ← HLN (), e1]
            refine ⟨ts, N, (((hS.ext hx).mono (by have := Nat.mul_le_mul_left 512 hk; omega)).shelfT (ht.mono (by simp)) hs'), rfl, ?_⟩
            refine (hTu.trans (Turned.ext hx _)).trans ⟨ht.mono fun b hb _ => ?_, fun b hb => .inl hb⟩
            rw [List.mem_singleton.1 hb]
            exact Sto.pd_mem _
          have p0 : ∀ w', Ext wr w' → w'.cell? ⟨s.ps, 0, none⟩ = some (.pointer (some ⟨s.pd, 0, none⟩)) := fun w' hx => by rw [(hS.ext hx).box.cell]; rfl
          have HP0 := Lib.hid p0
          clear hcn p0 hRk
          clear hS hTu hsk htb
          go_wp2_with (first
          | ((guard_target =~ wpList _ _ _ (Oper.mk (some 27) _ _ _ _ _ :: _) _ _); go_must (refine wpList_strB (by rfl) (.tmp 26) rfl rfl (by unfold maxLen; omega) ?_); intro c5 w5 hby5 hE5 hsz5; rw [HXD.out] at hby5; have hlow5 : ∀ b o k c, Value.slice (some ⟨wr.heap.size, 0, none⟩) xs.size c5 = .slice (some ⟨b, o, none⟩) k c → b < w5.heap.size := (fun b o k c e => by cases e; omega); have hTab5 := hTab.ext hE5)
          | (go_at_call 67; go_must (refine (HK2.out w5 _ hby5 hlow5 hTab5).mono ?_); rintro e w6 ⟨vm, va, vd, ms, rfl, hg6, hq6, hE6⟩; obtain ⟨am, cm, rfl⟩ := hg6.mt.shape; obtain ⟨aa, ca, rfl⟩ := hg6.nt.shape; obtain ⟨ad, cd, rfl⟩ := hg6.it.shape; have hEa := ((hE5.trans hE6).alloc (.cells #[.slice am ms.length cm, .slice aa bt.add.length ca, .slice ad bt.drop.length cd] 37)); have hga := hg6.ext ((Ext.refl w6).alloc (.cells #[.slice am ms.length cm, .slice aa bt.add.length ca, .slice ad bt.drop.length cd] 37)); have hba := BoxAt.made w6 #[.slice am ms.length cm, .slice aa bt.add.length ca, .slice ad bt.drop.length cd] 37)
          | (go_at_call 38; go_must (refine (HK3.out _ _ _ _ ms hEa hga hq6).mono ?_); rintro e w7 ⟨rfl, hE7⟩; have hEb := hEa.trans hE7; have hgb := hga.ext hE7; have hbb := hba.ext hE7; obtain ⟨y0, y1, y2⟩ := BoxAt.bt hbb; have q0 : w7.cell? ⟨s.ps, 0, none⟩ = some (.pointer (some ⟨s.pd, 0, none⟩)) := HP0.out _ hEb)
          | (go_at_call 42; go_must (refine (HSC.out _ hEb).mono ?_); rintro e w9 ⟨⟨rfl, ht9⟩, hs9⟩))
          go_end0
          exact ⟨rfl, HFIN.out _ w9 hEb ht9 hs9⟩
        · have hnb : ∀ w', Ext wr w' → NoBox w' (({ s with ts := ts, N := N } : Sto).tbl ++ [s.mn]) 5 := fun w' hx => ((hS.ext hx).noBox (by decide) (by decide) (by decide) (by decide)).sub fun b hb => by
            rcases List.mem_append.1 hb with hb | hb
            · exact StoAt.tbl_sub hb
            · rw [List.mem_singleton.1 hb]; simp [Sto.blocks]
          have HAF : Hid (∀ w' w'', Ext wr w' → Touch w' w'' (({ s with ts := ts, N := N } : Sto).tbl ++ [s.mn]) → TIn w'' 5 (.slice av ln cv) (puts 0 (bs.take k)).length (bcells (puts 0 (bs.take k))) ∧ StrsIn w'' (.slice (some ⟨b, o, none⟩) n c3) bs) := Lib.hid fun w' w'' hx ht =>
            ⟨ht.tin (hnb w' hx) (htb.ext hx), strs_touch (hS.ext hx) (hsk.ext hx) ht⟩
          have hgs : goes stOk stNext s.q (bs.take (k + 1)) = (stPut ⟨ts.map Tb.q, N⟩ bt, bs.take (k + 1)) := by
            rw [HTK.out, goes_snoc (by rw [HGO ()]) (by rw [HGO ()]; exact HOK2 ()), HGO ()]
            exact Prod.ext (HNX ()) rfl
          have HGS := far hgs
          clear hS hTu hsk htb hnb hgs
          go_wp2_with (first
          | ((guard_target =~ wpList _ _ _ (Oper.mk (some 27) _ _ _ _ _ :: _) _ _); go_must (refine wpList_strB (by rfl) (.tmp 26) rfl rfl (by unfold maxLen; omega) ?_); intro c5 w5 hby5 hE5 hsz5; rw [HXD.out] at hby5; have hlow5 : ∀ b o k c, Value.slice (some ⟨wr.heap.size, 0, none⟩) xs.size c5 = .slice (some ⟨b, o, none⟩) k c → b < w5.heap.size := (fun b o k c e => by cases e; omega); have hTab5 := hTab.ext hE5)
          | (go_at_call 67; go_must (refine (HK2.out w5 _ hby5 hlow5 hTab5).mono ?_); rintro e w6 ⟨vm, va, vd, ms, rfl, hg6, hq6, hE6⟩; obtain ⟨am, cm, rfl⟩ := hg6.mt.shape; obtain ⟨aa, ca, rfl⟩ := hg6.nt.shape; obtain ⟨ad, cd, rfl⟩ := hg6.it.shape; have hEa := ((hE5.trans hE6).alloc (.cells #[.slice am ms.length cm, .slice aa bt.add.length ca, .slice ad bt.drop.length cd] 37)); have hga := hg6.ext ((Ext.refl w6).alloc (.cells #[.slice am ms.length cm, .slice aa bt.add.length ca, .slice ad bt.drop.length cd] 37)); have hba := BoxAt.made w6 #[.slice am ms.length cm, .slice aa bt.add.length ca, .slice ad bt.drop.length cd] 37)
          | (go_at_call 38; go_must (refine (HK3.out _ _ _ _ ms hEa hga hq6).mono ?_); rintro e w7 ⟨rfl, hE7⟩; have hEb := hEa.trans hE7; have hgb := hga.ext hE7; have hbb := hba.ext hE7; obtain ⟨y0, y1, y2⟩ := BoxAt.bt hbb)
          | (go_at_call 40; go_must (refine (HK4.out _ _ _ _ ms hEb hgb hq6 trivial).mono ?_); rintro e w8 ⟨rfl, ts', N', hS8, hq8, hT8, ht8⟩; obtain ⟨htb8, hsk8⟩ := HAF.out _ w8 hEb ht8)
          | (go_at_call 68; go_must (refine (HK5.out w8 _ htb8).mono ?_); rintro e w9 ⟨v9, rfl, hE9, htb9⟩))
          go_roundw
          case rel => exact ⟨k + 1, ts', N', by omega, by go_num, htb9, hS8.ext hE9, Lib.hid (by rw [HGS (), hq8]), hsk8.ext hE9, hT8.trans (Turned.ext hE9 _)⟩
          case measure => simp [intOf]; omega
      · have hstop : goes stOk stNext s.q bs = goes stOk stNext s.q (bs.take k) := by
          have h1 := goes_stop (ok := stOk) (next := stNext) (s := s.q) (l := bs.take k) (x := x) (r := bs.drop (k + 1)) (by rw [HGO ()]) (by rw [HGO ()]; rw [show stOk (⟨ts.map Tb.q, N⟩ : Sq) x = _ from HOKK ()]; simp [her])
          rw [← HDR.out] at h1
          exact h1
        have hRk := hstop
        have HER := Lib.hid her
        clear hstop her
        have hcn : cutN ((puts 0 (bs.take k)).length : Int) s.log.size = (puts 0 (bs.take k)).length := by
          have := HCUT.out k (by rw [HN.out]; exact hk)
          unfold cutN; omega
        have HSC : Hid (∀ w', Ext wr w' → Calls Tryz.prog 42 #[.pointer (some ⟨s.pd, 0, none⟩), .int .i64 (ln : Int)] w' fun e w'' => (e = .returned (.tuple #[]) ∧ Touch w' w'' [s.pd]) ∧ ShelfAt w'' s.pd s.mf (s.log.extract 0 ln) ln s.F s.man) := Lib.hid fun w' hx => by
          have := sh_cut ((puts 0 (bs.take k)).length : Int) w' (hS.ext hx).shelf
          simp only [hcn] at this
          rw [← HLN ()] at this
          exact this
        have HFIN : Hid (∀ w0 w', Ext wr w0 → Touch w0 w' [s.pd] → ShelfAt w' s.pd s.mf (s.log.extract 0 ln) ln s.F s.man → ∃ ts N, StoAt W0 w' (C + 512 * n) { s with log := s.log.extract 0 (puts 0 R.2).length, good := (puts 0 R.2).length, ts := ts, N := N } ∧ (⟨ts.map Tb.q, N⟩ : Sq) = R.1 ∧ Turned w w' s { s with log := s.log.extract 0 (puts 0 R.2).length, good := (puts 0 R.2).length, ts := ts, N := N }) := Lib.hid fun w0 w' hx ht hs' => by
          have hGO := HGO ()
          have e2 : R.2 = bs.take k := by rw [HRR (), hRk, hGO]
          have e1 : R.1 = ⟨ts.map Tb.q, N⟩ := by rw [HRR (), hRk, hGO]
          rw [e2, ← HLN (), e1]
          refine ⟨ts, N, (((hS.ext hx).mono (by have := Nat.mul_le_mul_left 512 hk; omega)).shelfT (ht.mono (by simp)) hs'), rfl, ?_⟩
          refine (hTu.trans (Turned.ext hx _)).trans ⟨ht.mono fun b hb _ => ?_, fun b hb => .inl hb⟩
          rw [List.mem_singleton.1 hb]
          exact Sto.pd_mem _
        have p0 : ∀ w', Ext wr w' → w'.cell? ⟨s.ps, 0, none⟩ = some (.pointer (some ⟨s.pd, 0, none⟩)) := fun w' hx => by rw [(hS.ext hx).box.cell]; rfl
        have HP0 := Lib.hid p0
        clear hcn p0 hRk
        clear hS hTu hsk htb
        go_wp2_with (first
          | ((guard_target =~ wpList _ _ _ (Oper.mk (some 27) _ _ _ _ _ :: _) _ _); go_must (refine wpList_strB (by rfl) (.tmp 26) rfl rfl (by unfold maxLen; omega) ?_); intro c5 w5 hby5 hE5 hsz5; rw [HXD.out] at hby5; have hlow5 : ∀ b o k c, Value.slice (some ⟨wr.heap.size, 0, none⟩) xs.size c5 = .slice (some ⟨b, o, none⟩) k c → b < w5.heap.size := (fun b o k c e => by cases e; omega); have hTab5 := hTab.ext hE5)
          | (go_at_call 67; go_must (refine (HK2.out w5 _ hby5 hlow5 hTab5).mono ?_); rintro e w6 ⟨vm, va, vd, ms, rfl, hg6, hq6, hE6⟩; obtain ⟨am, cm, rfl⟩ := hg6.mt.shape; obtain ⟨aa, ca, rfl⟩ := hg6.nt.shape; obtain ⟨ad, cd, rfl⟩ := hg6.it.shape; have her := HER.out; have q0 : ∀ o, (w6.alloc o).cell? ⟨s.ps, 0, none⟩ = some (.pointer (some ⟨s.pd, 0, none⟩)) := (fun o => HP0.out _ ((hE5.trans hE6).alloc o)))
          | (go_at_call 42; go_must (refine (HSC.out _ ((hE5.trans hE6).alloc _)).mono ?_); rintro e w9 ⟨⟨rfl, ht9⟩, hs9⟩))
        go_end0
        exact ⟨rfl, HFIN.out _ w9 ((hE5.trans hE6).alloc _) ht9 hs9⟩
    · obtain rfl : k = n := by omega
      have hRk : goes stOk stNext s.q bs = goes stOk stNext s.q (bs.take k) := by rw [List.take_of_length_le (by rw [HN.out]; exact Nat.le_refl _)]
      have hcn : cutN ((puts 0 (bs.take k)).length : Int) s.log.size = (puts 0 (bs.take k)).length := by
        have := HCUT.out k (by rw [HN.out]; exact hk)
        unfold cutN; omega
      have HSC : Hid (∀ w', Ext wr w' → Calls Tryz.prog 42 #[.pointer (some ⟨s.pd, 0, none⟩), .int .i64 (ln : Int)] w' fun e w'' => (e = .returned (.tuple #[]) ∧ Touch w' w'' [s.pd]) ∧ ShelfAt w'' s.pd s.mf (s.log.extract 0 ln) ln s.F s.man) := Lib.hid fun w' hx => by
        have := sh_cut ((puts 0 (bs.take k)).length : Int) w' (hS.ext hx).shelf
        simp only [hcn] at this
        rw [← HLN ()] at this
        exact this
      have HFIN : Hid (∀ w0 w', Ext wr w0 → Touch w0 w' [s.pd] → ShelfAt w' s.pd s.mf (s.log.extract 0 ln) ln s.F s.man → ∃ ts N, StoAt W0 w' (C + 512 * k) { s with log := s.log.extract 0 (puts 0 R.2).length, good := (puts 0 R.2).length, ts := ts, N := N } ∧ (⟨ts.map Tb.q, N⟩ : Sq) = R.1 ∧ Turned w w' s { s with log := s.log.extract 0 (puts 0 R.2).length, good := (puts 0 R.2).length, ts := ts, N := N }) := Lib.hid fun w0 w' hx ht hs' => by
        have hGO := HGO ()
        have e2 : R.2 = bs.take k := by rw [HRR (), hRk, hGO]
        have e1 : R.1 = ⟨ts.map Tb.q, N⟩ := by rw [HRR (), hRk, hGO]
        rw [e2, ← HLN (), e1]
        refine ⟨ts, N, (((hS.ext hx).mono (by have := Nat.mul_le_mul_left 512 hk; omega)).shelfT (ht.mono (by simp)) hs'), rfl, ?_⟩
        refine (hTu.trans (Turned.ext hx _)).trans ⟨ht.mono fun b hb _ => ?_, fun b hb => .inl hb⟩
        rw [List.mem_singleton.1 hb]
        exact Sto.pd_mem _
      have p0 : ∀ w', Ext wr w' → w'.cell? ⟨s.ps, 0, none⟩ = some (.pointer (some ⟨s.pd, 0, none⟩)) := fun w' hx => by rw [(hS.ext hx).box.cell]; rfl
      have HP0 := Lib.hid p0
      clear hcn p0 hRk
      have q0 := HP0.out wr (Ext.refl wr)
      clear hS hTu hsk hlt htb
      go_wp2_with (go_at_call 42; go_must (refine (HSC.out wr (Ext.refl wr)).mono ?_); rintro e w9 ⟨⟨rfl, ht9⟩, hs9⟩)
      go_end0
      exact ⟨rfl, HFIN.out wr w9 (Ext.refl wr) ht9 hs9⟩
end Go.Proofs.YtimbikbbbfpeeaaGreatDoor
