/- Plain laws: cells, columns, rows, partitions: what is put is got; what is got is put as the same bytes. -/
import Derived.Test.YtfagnbofnaoncaaGreatDoorP16
import Derived.Test.YtfagnbofnaoncaaGreatDoorP10
import Derived.Test.YtfagnbofnaoncaaGreatDoorP15
set_option linter.unusedSimpArgs false
set_option linter.unusedVariables false
namespace Go.Proofs.YtfagnbofnaoncaaGreatDoor
open Go Go.RowKit

/-! ### Cells -/
def cellA (n : Nat) : Rdr Cl := if n = 0 then pureR zeroCl else seqR truR fun d => if d = true then pureR ⟨⟨#[]⟩, true, n, 0⟩ else seqR txtR fun t => seqR numR fun e => pureR ⟨t, false, n, (e : Int)⟩
theorem cellR_eq (B : List UInt8) (s : Nat × Int) : cellR B s = seqR numR cellA B s := by
  unfold cellR seqR cellA
  split
  · rfl
  · unfold seqR
    split
    · rename_i h2
      simp only [h2, if_true]
      rfl
    · rename_i h2
      simp only [h2]
      rfl
theorem ok_cellA (n : Nat) : OkRd (cellA n) :=
  OkRd.ite (OkRd.pure _) (ok_tru.bind fun _ => OkRd.ite (OkRd.pure _) (ok_txt.bind fun _ => ok_num.bind fun _ => OkRd.pure _))
theorem ok_cell : OkRd cellR := (ok_num.bind ok_cellA).congr cellR_eq
theorem empty_of_list {s : ByteArray} (h : s.toList = []) : s = ⟨#[]⟩ := by
  rw [ByteArray.toList_eq] at h
  rw [← str_back s, h]; rfl
theorem check_shape {c : Cl} (h : checkC c.val c.dead c.at_ c.fin = true) :
    c = zeroCl ∨ (∃ n : Nat, 0 < n ∧ n ≤ 1099511627776 ∧ c = ⟨⟨#[]⟩, true, n, 0⟩) ∨ (∃ n m : Nat, 0 < n ∧ n ≤ 1099511627776 ∧ m ≤ 1099511627776 ∧ c.val.size ≤ 100 ∧ c = ⟨c.val, false, n, m⟩) := by
  obtain ⟨val, dead, at_, fin⟩ := c
  unfold checkC at h
  simp only [Bool.and_eq_true] at h ⊢
  obtain ⟨⟨h1, h2⟩, h3⟩ := h
  have a := stampB_le h1
  have b := stampB_le h2
  obtain ⟨n, rfl⟩ : ∃ n : Nat, at_ = n := ⟨at_.toNat, by omega⟩
  obtain ⟨m, rfl⟩ : ∃ m : Nat, fin = m := ⟨fin.toNat, by omega⟩
  split at h3
  · rename_i h0
    left
    simp only [Bool.and_eq_true, Bool.not_eq_true', beq_iff_eq] at h3
    obtain ⟨⟨h4, h5⟩, h6⟩ := h3
    rw [empty_of_list h4, h5, h6, h0]; rfl
  · rename_i h0
    right
    split at h3
    · rename_i hd
      left
      simp only [Bool.and_eq_true, beq_iff_eq] at h3
      exact ⟨n, by omega, by omega, by rw [empty_of_list h3.1, hd, h3.2]⟩
    · rename_i hd
      right
      refine ⟨n, m, by omega, by omega, by omega, of_decide_eq_true h3, ?_⟩
      rw [show dead = false by simpa using hd]
theorem rd_cl {c : Cl} (h : checkC c.val c.dead c.at_ c.fin = true) : Rd cellR c (cellP c) := by
  refine Rd.congr ?_ (fun B i => cellR_eq B (i, 0))
  rcases check_shape h with rfl | ⟨n, h0, h1, rfl⟩ | ⟨n, m, h0, h1, h2, h3, h4⟩
  · exact (rd_num (x := 0) (by omega)).bind (g := cellA) (Rd.pure _) ok_cellA
  · have e : cellP ⟨⟨#[]⟩, true, (n : Int), 0⟩ = num n ++ ([if true then 1 else 0] ++ []) := by
      unfold cellP
      simp only
      rw [if_neg (by omega), if_pos trivial]; rfl
    rw [e]
    refine (rd_num h1).bind (g := cellA) ?_ ok_cellA
    unfold cellA
    rw [if_neg (by omega)]
    refine (rd_tru true).bind ?_ (fun d => OkRd.ite (OkRd.pure _) (ok_txt.bind fun _ => ok_num.bind fun _ => OkRd.pure _))
    rw [if_pos rfl]
    exact Rd.pure _
  · obtain ⟨val, dead, at_, fin⟩ := c
    simp only at h3 h4
    cases h4
    have e : cellP ⟨val, false, (n : Int), (m : Int)⟩ = num n ++ ([if false then 1 else 0] ++ (txtE val ++ (num m ++ []))) := by
      unfold cellP txtE
      simp only
      rw [if_neg (by omega), if_neg (by simp)]
      simp only [Int.toNat_natCast, List.append_assoc, List.append_nil, Bool.false_eq_true, if_false]
    rw [e]
    refine (rd_num h1).bind (g := cellA) ?_ ok_cellA
    unfold cellA
    rw [if_neg (by omega)]
    refine (rd_tru false).bind ?_ (fun d => OkRd.ite (OkRd.pure _) (ok_txt.bind fun _ => ok_num.bind fun _ => OkRd.pure _))
    rw [if_neg (by simp)]
    refine (rd_txt (by omega)).bind ?_ (fun d => ok_num.bind fun _ => OkRd.pure _)
    refine (rd_num h2).bind ?_ (fun d => OkRd.pure _)
    exact Rd.pure _
theorem bk_cellA (n : Nat) : Bk (cellA n) (fun c F => num n ++ F = cellP c) := by
  unfold cellA
  by_cases h : n = 0
  · rw [if_pos h]
    refine (Bk.pure _).mono fun x E hx => ?_
    obtain ⟨rfl, rfl⟩ := hx
    rw [h]; rfl
  · rw [if_neg h]
    refine (Bk.bind (Q := fun d c F => num n ++ ([if d then 1 else 0] ++ F) = cellP c) bk_tru ok_tru fun d => ?_).mono fun c G hG => ?_
    · by_cases hd : d = true
      · subst hd
        rw [if_pos rfl]
        refine (Bk.pure _).mono fun x E hx => ?_
        obtain ⟨rfl, rfl⟩ := hx
        unfold cellP
        simp only
        rw [if_neg (show ¬ (n : Int) = 0 by omega)]; rfl
      · obtain rfl : d = false := by simpa using hd
        rw [if_neg hd]
        refine (Bk.bind (Q := fun t c F => ∃ e : Nat, c = ⟨t, false, (n : Int), (e : Int)⟩ ∧ F = num e) bk_txt ok_txt fun t => ?_).mono fun c G hG => ?_
        · refine (Bk.bind (Q := fun (e : Nat) c F => c = ⟨t, false, (n : Int), (e : Int)⟩ ∧ F = []) bk_num ok_num fun e => Bk.pure _).mono fun c G hG => ?_
          obtain ⟨e, E, F, ⟨rfl, _⟩, ⟨rfl, rfl⟩, rfl⟩ := hG
          exact ⟨e, rfl, by rw [List.append_nil]⟩
        · obtain ⟨t, E, F, rfl, ⟨e, rfl, rfl⟩, rfl⟩ := hG
          unfold cellP txtE
          simp only
          rw [if_neg (show ¬ (n : Int) = 0 by omega)]
          simp only [Int.toNat_natCast, List.append_assoc, Bool.false_eq_true, if_false]
    · obtain ⟨d, E, F, rfl, h2, rfl⟩ := hG
      exact h2
theorem bk_cl : Bk cellR (fun c E => E = cellP c) := by
  refine Bk.congr ?_ cellR_eq
  refine (Bk.bind (Q := fun n c F => num n ++ F = cellP c) bk_num ok_num bk_cellA).mono fun c G hG => ?_
  obtain ⟨n, E, F, ⟨rfl, _⟩, h2, rfl⟩ := hG
  exact h2

/-! ### Lists -/
section
variable {α : Type} {one : Rdr α} {enc : α → List UInt8}
def manyF {α : Type} (one : Rdr α) (n : Nat) : Rdr (List α) := fun B s => manyR (one B) n s
def listF {α : Type} (one : Rdr α) : Rdr (List α) := fun B s => listR B (one B) s
theorem ok_many (h : OkRd one) : ∀ n, OkRd (manyF one n)
  | 0 => ⟨fun _ _ _ => rfl, fun _ _ h => h, fun _ _ _ h => h⟩
  | n + 1 => by
    have ih := ok_many h n
    refine ⟨fun B s hs => ?_, fun B s hs => ?_, fun B s hs he => ?_⟩
    · show (manyR (one B) (n + 1) s).2 = s
      rw [manyR_stop _ _ _ (.inr hs)]
    · show (manyR (one B) (n + 1) s).2.1 ≤ B.length
      by_cases h0 : s.2 = 0
      · rw [manyR_step _ _ _ h0]; exact ih.le B _ (h.le B s hs)
      · rw [manyR_stop _ _ _ (.inr h0)]; exact hs
    · show Er (manyR (one B) (n + 1) s).2.2
      by_cases h0 : s.2 = 0
      · rw [manyR_step _ _ _ h0]; exact ih.er B _ (h.le B s hs) (h.er B s hs he)
      · rw [manyR_stop _ _ _ (.inr h0)]; exact he
theorem ok_list (h : OkRd one) : OkRd (listF one) := ok_cnt.bind fun n => ok_many h n
theorem rd_many (ho : OkRd one) : ∀ l : List α, (∀ x ∈ l, Rd one x (enc x)) → Rd (manyF one l.length) l (l.flatMap enc)
  | [], _ => ⟨fun _ _ _ _ _ => rfl, fun _ _ T _ h hT => absurd (List.append_eq_nil_iff.1 h).2 hT⟩
  | x :: l, h => by
    have ih := rd_many ho l fun y hy => h y (List.mem_cons_of_mem _ hy)
    rw [List.flatMap_cons]
    refine Rd.congr (f := seqR one fun x => seqR (manyF one l.length) fun l => pureR (x :: l)) ?_ (fun B i => manyR_step _ _ _ rfl)
    refine (h x (List.mem_cons_self ..)).bind ?_ (fun _ => (ok_many ho _).bind fun _ => OkRd.pure _)
    have := ih.bind (Rd.pure (x :: l)) (g := fun l => pureR (x :: l)) (fun _ => OkRd.pure _)
    rw [List.append_nil] at this
    exact this
theorem flat_ge : ∀ {l : List α}, (∀ x ∈ l, 1 ≤ (enc x).length) → l.length ≤ (l.flatMap enc).length
  | [], _ => Nat.le_refl _
  | x :: l, h => by
    have h1 := h x (List.mem_cons_self ..)
    have h2 := flat_ge (l := l) fun y hy => h y (List.mem_cons_of_mem _ hy)
    rw [List.flatMap_cons, List.length_append, List.length_cons]
    omega
theorem rd_list (ho : OkRd one) {l : List α} (hn : l.length < 18446744073709551616) (h : ∀ x ∈ l, Rd one x (enc x)) (h1 : ∀ x ∈ l, 1 ≤ (enc x).length) : Rd (listF one) l (num l.length ++ l.flatMap enc) := by
  have hm := rd_many ho l h
  have hg := flat_ge h1
  constructor
  · intro B i R hi hd
    rw [List.append_assoc] at hd
    have h2 := drop_step hi hd
    have h3 := cnt_fwd hn hi hd (by rw [List.length_append]; omega)
    show manyF one (cntR B (i, 0)).1 B (cntR B (i, 0)).2 = _
    rw [h3]
    simp only
    rw [hm.fwd B _ R h2.2 h2.1, List.length_append, Nat.add_assoc]
  · intro B i T hi hd hT
    show (manyF one (cntR B (i, 0)).1 B (cntR B (i, 0)).2).2.2 = 8
    rcases List.append_eq_append_iff.1 hd with ⟨a, e1, e2⟩ | ⟨c, e1, e2⟩
    · by_cases ha : a = []
      · subst ha
        have hd' : B.drop i = num l.length ++ [] := by rw [List.append_nil] at e1 ⊢; exact e1.symm
        by_cases hz : l.length ≤ 0
        · have : l = [] := List.eq_nil_of_length_eq_zero (by omega)
          subst this
          rw [List.flatMap_nil, List.nil_append] at e2
          exact absurd e2 hT
        · have h3 := cnt_few hn hi hd' (by simp only [List.length_nil]; omega)
          rw [h3.1]
          exact h3.2
      · have h3 := cnt_short hn hi e1.symm ha
        rw [h3.1]
        exact h3.2
    · by_cases hc : l.length ≤ c.length
      · have h2 := drop_step hi e1
        have h3 := cnt_fwd hn hi e1 hc
        rw [h3]
        simp only
        refine hm.cut B _ T h2.2 ?_ hT
        rw [h2.1, e2]
      · have h3 := cnt_few hn hi e1 (by omega)
        rw [h3.1]
        exact h3.2
theorem bk_many (hb : Bk one (fun x E => E = enc x)) (ho : OkRd one) : ∀ n, Bk (manyF one n) (fun l E => l.length = n ∧ E = l.flatMap enc)
  | 0 => fun _ _ _ h => ⟨h, [], ⟨rfl, rfl⟩, rfl⟩
  | n + 1 => fun B s hs h => by
    have ih := bk_many hb ho n
    change (manyR (one B) (n + 1) s).2.2 = 0 at h
    show s.2 = 0 ∧ ∃ E, ((manyR (one B) (n + 1) s).1.length = n + 1 ∧ E = (manyR (one B) (n + 1) s).1.flatMap enc) ∧ B.drop s.1 = E ++ B.drop (manyR (one B) (n + 1) s).2.1
    by_cases h0 : s.2 = 0
    · rw [manyR_step _ _ _ h0] at h ⊢
      simp only at h ⊢
      obtain ⟨a, F, ⟨b1, b2⟩, c⟩ := ih B (one B s).2 (ho.le B s hs) h
      obtain ⟨_, E, d, e⟩ := hb B s hs a
      change (manyR (one B) n (one B s).2).1.length = n at b1
      change F = (manyR (one B) n (one B s).2).1.flatMap enc at b2
      change B.drop (one B s).2.1 = F ++ B.drop (manyR (one B) n (one B s).2).2.1 at c
      refine ⟨h0, E ++ F, ⟨by rw [List.length_cons, b1], by rw [List.flatMap_cons, d, b2]⟩, ?_⟩
      rw [e, c, List.append_assoc]
    · rw [manyR_stop _ _ _ (.inr h0)] at h
      exact absurd h h0
theorem bk_list (hb : Bk one (fun x E => E = enc x)) (ho : OkRd one) : Bk (listF one) (fun l E => E = num l.length ++ l.flatMap enc) := by
  refine (Bk.bind (g := fun n => manyF one n) bk_cnt ok_cnt fun n => bk_many hb ho n).mono fun l G hG => ?_
  obtain ⟨n, E, F, rfl, ⟨rfl, rfl⟩, rfl⟩ := hG
  rfl
end

/-! ### Columns, rows, partitions -/
theorem colR_eq (B : List UInt8) (s : Nat × Int) : colR B s = seqR txtR (fun t => seqR cellR fun c => pureR ⟨t, c⟩) B s := rfl
theorem ok_col : OkRd colR := (ok_txt.bind fun t => ok_cell.bind fun c => OkRd.pure (⟨t, c⟩ : Co)).congr colR_eq
theorem rd_co {c : Co} (hn : c.name.size ≤ 1000) (h : checkC c.cell.val c.cell.dead c.cell.at_ c.cell.fin = true) : Rd colR c (colP c) := by
  refine Rd.congr ?_ (fun B i => colR_eq B (i, 0))
  have e : colP c = txtE c.name ++ (cellP c.cell ++ []) := by unfold colP txtE; simp only [List.append_assoc, List.append_nil]
  rw [e]
  exact (rd_txt (by omega)).bind ((rd_cl h).bind (Rd.pure _) fun c => OkRd.pure _) fun t => ok_cell.bind fun c => OkRd.pure _
theorem bk_co : Bk colR (fun c E => E = colP c) := by
  refine Bk.congr ?_ colR_eq
  refine (Bk.bind (Q := fun t (c : Co) F => c.name = t ∧ F = cellP c.cell) bk_txt ok_txt fun t => (Bk.bind (Q := fun cl (c : Co) F => c = ⟨t, cl⟩ ∧ F = []) bk_cl ok_cell fun cl => Bk.pure _).mono fun c G hG => ?_).mono fun c G hG => ?_
  · obtain ⟨cl, E, F, rfl, ⟨rfl, rfl⟩, rfl⟩ := hG
    exact ⟨rfl, by rw [List.append_nil]⟩
  · obtain ⟨t, E, F, rfl, ⟨rfl, rfl⟩, rfl⟩ := hG
    unfold colP txtE
    simp only [List.append_assoc]
theorem num_ge (n : Nat) : 1 ≤ (num n).length := by rw [num_len]; omega
theorem colP_ge (c : Co) : 1 ≤ (colP c).length := by have := num_ge c.name.size; unfold colP; simp only [List.length_append]; omega
theorem rowP_ge (r : Ro) : 1 ≤ (rowP r).length := by have := num_ge r.key.size; unfold rowP; simp only [List.length_append]; omega
def rowF : Rdr Ro := seqR txtR fun k => seqR cellR fun l => seqR numR fun g => seqR numR fun h => seqR (listF colR) fun cs => pureR ⟨k, l, (g : Int), (h : Int), cs⟩
theorem rowR_eq (B : List UInt8) (s : Nat × Int) : rowR B s = rowF B s := rfl
theorem ok_row : OkRd rowR := OkRd.congr (f := rowF) (ok_txt.bind fun _ => ok_cell.bind fun _ => ok_num.bind fun _ => ok_num.bind fun _ => (ok_list ok_col).bind fun _ => OkRd.pure _) rowR_eq
theorem rd_ro {r : Ro} (h : rwB r = true) : Rd rowR r (rowP r) := by
  have hok := rwB_ok h
  unfold rwB at h
  simp only [Bool.and_eq_true] at h
  obtain ⟨_, hl, _, _, hg, hs, _⟩ := hdB_parts h.1
  have hcs := csB_ok h.2
  obtain ⟨key, live, gone, shade, cols⟩ := r
  obtain ⟨h1, _, h3, h4, h5, h6, h7, h8⟩ := hok
  simp only at h1 h3 h4 h5 h6 h7 h8 hl hcs
  obtain ⟨g, rfl⟩ : ∃ g : Nat, gone = g := ⟨gone.toNat, by omega⟩
  obtain ⟨t, rfl⟩ : ∃ g : Nat, shade = g := ⟨shade.toNat, by omega⟩
  refine Rd.congr ?_ (fun B i => rowR_eq B (i, 0))
  have e : rowP ⟨key, live, (g : Int), (t : Int), cols⟩ = txtE key ++ (cellP live ++ (num g ++ (num t ++ ((num cols.length ++ cols.flatMap colP) ++ [])))) := by
    unfold rowP txtE
    simp only [Int.toNat_natCast, List.append_assoc, List.append_nil]
  rw [e]
  unfold rowF
  refine (rd_txt (by omega)).bind ?_ (fun _ => ok_cell.bind fun _ => ok_num.bind fun _ => ok_num.bind fun _ => (ok_list ok_col).bind fun _ => OkRd.pure _)
  refine (rd_cl hl).bind ?_ (fun _ => ok_num.bind fun _ => ok_num.bind fun _ => (ok_list ok_col).bind fun _ => OkRd.pure _)
  refine (rd_num (by omega)).bind ?_ (fun _ => ok_num.bind fun _ => (ok_list ok_col).bind fun _ => OkRd.pure _)
  refine (rd_num (by omega)).bind ?_ (fun _ => (ok_list ok_col).bind fun _ => OkRd.pure _)
  exact (rd_list ok_col (by omega) (fun c hc => rd_co (h8 c hc).name (hcs c hc).2.2.1) (fun c _ => colP_ge c)).bind (Rd.pure _) (fun _ => OkRd.pure _)
theorem bk_ro : Bk rowR (fun r E => E = rowP r) := by
  refine Bk.congr ?_ rowR_eq
  unfold rowF
  refine (Bk.bind (Q := fun k (r : Ro) F => r.key = k ∧ F = cellP r.live ++ num r.gone.toNat ++ num r.shade.toNat ++ num r.cols.length ++ r.cols.flatMap colP) bk_txt ok_txt fun k => ?_).mono fun c G hG => ?_
  · refine (Bk.bind (Q := fun l (r : Ro) F => r.key = k ∧ r.live = l ∧ F = num r.gone.toNat ++ num r.shade.toNat ++ num r.cols.length ++ r.cols.flatMap colP) bk_cl ok_cell fun l => ?_).mono fun c G hG => ?_
    · refine (Bk.bind (Q := fun (g : Nat) (r : Ro) F => r.key = k ∧ r.live = l ∧ r.gone = (g : Int) ∧ F = num r.shade.toNat ++ num r.cols.length ++ r.cols.flatMap colP) bk_num ok_num fun g => ?_).mono fun c G hG => ?_
      · refine (Bk.bind (Q := fun (h : Nat) (r : Ro) F => r.key = k ∧ r.live = l ∧ r.gone = (g : Int) ∧ r.shade = (h : Int) ∧ F = num r.cols.length ++ r.cols.flatMap colP) bk_num ok_num fun h => ?_).mono fun c G hG => ?_
        · refine (Bk.bind (Q := fun cs (r : Ro) F => r = ⟨k, l, (g : Int), (h : Int), cs⟩ ∧ F = []) (bk_list bk_co ok_col) (ok_list ok_col) fun cs => Bk.pure _).mono fun c G hG => ?_
          obtain ⟨cs, E, F, rfl, ⟨rfl, rfl⟩, rfl⟩ := hG
          exact ⟨rfl, rfl, rfl, rfl, by rw [List.append_nil]⟩
        · obtain ⟨h, E, F, ⟨rfl, _⟩, ⟨e1, e2, e3, e4, rfl⟩, rfl⟩ := hG
          exact ⟨e1, e2, e3, by rw [e4, Int.toNat_natCast]; simp only [List.append_assoc]⟩
      · obtain ⟨g, E, F, ⟨rfl, _⟩, ⟨e1, e2, e3, rfl⟩, rfl⟩ := hG
        exact ⟨e1, e2, by rw [e3, Int.toNat_natCast]; simp only [List.append_assoc]⟩
    · obtain ⟨l, E, F, rfl, ⟨e1, e2, rfl⟩, rfl⟩ := hG
      exact ⟨e1, by rw [e2]; simp only [List.append_assoc]⟩
  · obtain ⟨k, E, F, rfl, ⟨e1, rfl⟩, rfl⟩ := hG
    unfold rowP txtE
    rw [e1]
    simp only [List.append_assoc]
def prtF : Rdr Pt := seqR txtR fun k => seqR numR fun g => seqR (listF rowR) fun rs => pureR ⟨k, (g : Int), rs⟩
theorem prtR_eq (B : List UInt8) (s : Nat × Int) : prtR B s = ((prtF B s).1, endR B (prtF B s).2) := rfl
theorem ok_prt : OkRd prtF := ok_txt.bind fun _ => ok_num.bind fun _ => (ok_list ok_row).bind fun _ => OkRd.pure _
theorem rd_prt {k : ByteArray} {g : Int} {rs : List Ro} (h : ptB k g rs = true) : Rd prtF ⟨k, g, rs⟩ (wholeP k g rs) := by
  have hok := ptB_ok h
  obtain ⟨h1, h2, h3, h4, h5⟩ := hok
  unfold ptB at h
  simp only [Bool.and_eq_true] at h
  have hrs := rsB_ok h.2
  obtain ⟨g, rfl⟩ : ∃ n : Nat, g = n := ⟨g.toNat, by omega⟩
  have e : wholeP k (g : Int) rs = txtE k ++ (num g ++ ((num rs.length ++ rs.flatMap rowP) ++ [])) := by
    unfold wholeP txtE
    simp only [Int.toNat_natCast, List.append_assoc, List.append_nil]
  rw [e]
  unfold prtF
  refine (rd_txt (by omega)).bind ?_ (fun _ => ok_num.bind fun _ => (ok_list ok_row).bind fun _ => OkRd.pure _)
  refine (rd_num (by omega)).bind ?_ (fun _ => (ok_list ok_row).bind fun _ => OkRd.pure _)
  exact (rd_list ok_row (by omega) (fun c hc => rd_ro (hrs c hc)) (fun c _ => rowP_ge c)).bind (Rd.pure _) (fun _ => OkRd.pure _)
theorem bk_prt : Bk prtF (fun p E => E = wholeP p.key p.gone p.rows) := by
  unfold prtF
  refine (Bk.bind (Q := fun k (r : Pt) F => r.key = k ∧ F = num r.gone.toNat ++ num r.rows.length ++ r.rows.flatMap rowP) bk_txt ok_txt fun k => ?_).mono fun c G hG => ?_
  · refine (Bk.bind (Q := fun (g : Nat) (r : Pt) F => r.key = k ∧ r.gone = (g : Int) ∧ F = num r.rows.length ++ r.rows.flatMap rowP) bk_num ok_num fun g => ?_).mono fun c G hG => ?_
    · refine (Bk.bind (Q := fun cs (r : Pt) F => r = ⟨k, (g : Int), cs⟩ ∧ F = []) (bk_list bk_ro ok_row) (ok_list ok_row) fun cs => Bk.pure _).mono fun c G hG => ?_
      obtain ⟨cs, E, F, rfl, ⟨rfl, rfl⟩, rfl⟩ := hG
      exact ⟨rfl, rfl, by rw [List.append_nil]⟩
    · obtain ⟨g, E, F, ⟨rfl, _⟩, ⟨e1, e2, rfl⟩, rfl⟩ := hG
      exact ⟨e1, by rw [e2, Int.toNat_natCast]; simp only [List.append_assoc]⟩
  · obtain ⟨k, E, F, rfl, ⟨e1, rfl⟩, rfl⟩ := hG
    unfold wholeP txtE
    rw [e1]
    simp only [List.append_assoc]

/-! ### A partition that is alone -/
theorem endR_full (B : List UInt8) (s : Nat × Int) (h : B.length ≤ s.1) : endR B s = s := if_neg (by omega)
theorem prtR_put {B : List UInt8} {k : ByteArray} {g : Int} {rs : List Ro} (h : ptB k g rs = true) (hB : B = wholeP k g rs) : prtR B (0, 0) = (⟨k, g, rs⟩, (B.length, 0)) := by
  have := (rd_prt h).fwd B 0 [] (Nat.zero_le _) (by rw [List.drop_zero, List.append_nil, hB])
  rw [prtR_eq, this]
  simp only
  rw [endR_full _ _ (by rw [hB]; simp), Nat.zero_add, ← hB]
theorem prtR_cut {k : ByteArray} {g : Int} {rs : List Ro} (h : ptB k g rs = true) {j : Nat} (hj : j < (wholeP k g rs).length) : (prtR ((wholeP k g rs).take j) (0, 0)).2.2 = 8 := by
  have := (rd_prt h).cut ((wholeP k g rs).take j) 0 ((wholeP k g rs).drop j) (Nat.zero_le _) (by rw [List.drop_zero, List.take_append_drop]) (by rw [ne_eq, List.drop_eq_nil_iff]; omega)
  rw [prtR_eq]
  simp only
  unfold endR failR
  split
  · rw [if_neg (by rw [this]; decide)]; exact this
  · exact this
theorem prtR_more {k : ByteArray} {g : Int} {rs : List Ro} (h : ptB k g rs = true) {R : List UInt8} (hR : R ≠ []) : (prtR (wholeP k g rs ++ R) (0, 0)).2.2 = 6 := by
  have := (rd_prt h).fwd (wholeP k g rs ++ R) 0 R (Nat.zero_le _) (by rw [List.drop_zero])
  have hl : 0 < R.length := List.length_pos_iff.2 hR
  rw [prtR_eq, this]
  simp only
  unfold endR
  rw [if_pos (by rw [List.length_append]; omega)]
  rfl
theorem prtR_back {B : List UInt8} {s : Nat × Int} (hs : s.1 ≤ B.length) (h : (prtR B s).2.2 = 0) : s.2 = 0 ∧ B.drop s.1 = wholeP (prtR B s).1.key (prtR B s).1.gone (prtR B s).1.rows := by
  rw [prtR_eq] at h ⊢
  simp only at h ⊢
  have hle := ok_prt.le B s hs
  unfold endR at h
  split at h
  · exact absurd h (failR_ne (by decide) _)
  · rename_i h1
    obtain ⟨a, E, rfl, c⟩ := bk_prt B s hs h
    refine ⟨a, ?_⟩
    rw [c, List.drop_eq_nil_of_le (show B.length ≤ (prtF B s).2.1 by omega), List.append_nil]
theorem prtR_er {B : List UInt8} {s : Nat × Int} (hs : s.1 ≤ B.length) (h : Er s.2) : Er (prtR B s).2.2 := by
  rw [prtR_eq]
  simp only
  have := ok_prt.er B s hs h
  unfold endR
  split
  · exact failR_er (.inr (.inl rfl)) this
  · exact this
theorem prtR_stick {B : List UInt8} {s : Nat × Int} (h : s.2 ≠ 0) : (prtR B s).2 = s := by
  rw [prtR_eq]
  simp only
  rw [ok_prt.stick B s h]
  unfold endR failR
  rw [if_neg h]
  split <;> rfl
theorem gp_put {B : List UInt8} {k : ByteArray} {g : Int} {rs : List Ro} (h : ptB k g rs = true) (hB : B = wholeP k g rs) (hl : B.length ≤ 262144) : gpErr B = 0 ∧ gpPt B = ⟨k, g, rs⟩ := by
  have e : getR B = (⟨k, g, rs⟩, (B.length, 0)) := by unfold getR; rw [if_pos hl]; exact prtR_put h hB
  have e1 : gpErr B = 0 := by unfold gpErr; rw [e]; simp [h]
  exact ⟨e1, by unfold gpPt; rw [if_pos e1, e]⟩
theorem gp_cut {k : ByteArray} {g : Int} {rs : List Ro} (h : ptB k g rs = true) (hl : (wholeP k g rs).length ≤ 262144) {j : Nat} (hj : j < (wholeP k g rs).length) : gpErr ((wholeP k g rs).take j) = 8 := by
  have e : (getR ((wholeP k g rs).take j)).2.2 = 8 := by unfold getR; rw [if_pos (by rw [List.length_take]; omega)]; exact prtR_cut h hj
  unfold gpErr
  rw [e]; rfl
theorem gp_more {k : ByteArray} {g : Int} {rs : List Ro} (h : ptB k g rs = true) {R : List UInt8} (hR : R ≠ []) (hl : (wholeP k g rs ++ R).length ≤ 262144) : gpErr (wholeP k g rs ++ R) = 6 := by
  have e : (getR (wholeP k g rs ++ R)).2.2 = 6 := by unfold getR; rw [if_pos hl]; exact prtR_more h hR
  unfold gpErr
  rw [e]; rfl
theorem gp_back {B : List UInt8} (h : gpErr B = 0) : ptB (gpPt B).key (gpPt B).gone (gpPt B).rows = true ∧ wholeP (gpPt B).key (gpPt B).gone (gpPt B).rows = B ∧ B.length ≤ 262144 := by
  have hp : gpPt B = (getR B).1 := if_pos h
  unfold gpErr at h
  split at h
  · rename_i h1
    split at h
    · rename_i h2
      have hl : B.length ≤ 262144 := by
        by_cases h3 : B.length ≤ 262144
        · exact h3
        · exfalso
          unfold getR at h1
          rw [if_neg h3, prtR_stick (by decide)] at h1
          cases h1
      rw [hp]
      have h5 := h1
      unfold getR at h5
      have := prtR_back (B := B) (Nat.zero_le _) h5
      rw [List.drop_zero] at this
      exact ⟨h2, this.2.symm, hl⟩
    · cases h
  · rename_i h1
    exact absurd h h1
theorem gp_er {B : List UInt8} (hl : B.length ≤ 262144) : gpErr B = 0 ∨ gpErr B = 1 ∨ gpErr B = 6 ∨ gpErr B = 8 := by
  have : Er (getR B).2.2 := by unfold getR; rw [if_pos hl]; exact prtR_er (Nat.zero_le _) (.inl rfl)
  unfold gpErr
  split
  · split
    · exact .inl rfl
    · exact .inr (.inl rfl)
  · rename_i h
    rcases this with h1 | h1 | h1
    · exact absurd h1 h
    · exact .inr (.inr (.inl h1))
    · exact .inr (.inr (.inr h1))
theorem gp_none {B : List UInt8} (h : gpErr B ≠ 0) : gpPt B = ⟨⟨#[]⟩, 0, []⟩ := if_neg h
end Go.Proofs.YtfagnbofnaoncaaGreatDoor

/- Messages as plain data: what wire's reader makes of bytes; what may be. -/
namespace Go.Proofs.YtfagnbofnaoncaaGreatDoor
open Go Go.RowKit

def mutW (B : List UInt8) (s : Nat × Int) : Mq × (Nat × Int) := (⟨(txtR B s).1, (parW B (txtR B s).2).1⟩, (parW B (txtR B s).2).2)
/-- A message as plain data. -/
structure Mg where
  hd : Hd
  muts : List Mq
  keys : List ByteArray
/-- What piece k reads. -/
def stW (B : List UInt8) (k : Nat) (x : Mg × (Nat × Int)) : Mg × (Nat × Int) :=
  match k with
  | 0 => (⟨⟨((numR B x.2).1 : Int), x.1.hd.from_, x.1.hd.to_, x.1.hd.id, x.1.hd.num⟩, x.1.muts, x.1.keys⟩, (numR B x.2).2)
  | 1 => (⟨⟨x.1.hd.kind, ((numR B x.2).1 : Int), x.1.hd.to_, x.1.hd.id, x.1.hd.num⟩, x.1.muts, x.1.keys⟩, (numR B x.2).2)
  | 2 => (⟨⟨x.1.hd.kind, x.1.hd.from_, ((numR B x.2).1 : Int), x.1.hd.id, x.1.hd.num⟩, x.1.muts, x.1.keys⟩, (numR B x.2).2)
  | 3 => (⟨⟨x.1.hd.kind, x.1.hd.from_, x.1.hd.to_, ((numR B x.2).1 : Int), x.1.hd.num⟩, x.1.muts, x.1.keys⟩, (numR B x.2).2)
  | 4 => (⟨⟨x.1.hd.kind, x.1.hd.from_, x.1.hd.to_, x.1.hd.id, ((numR B x.2).1 : Int)⟩, x.1.muts, x.1.keys⟩, (numR B x.2).2)
  | 5 => (⟨x.1.hd, (listR B (mutW B) x.2).1, x.1.keys⟩, (listR B (mutW B) x.2).2)
  | _ => (⟨x.1.hd, x.1.muts, (listR B (txtR B) x.2).1⟩, (listR B (txtR B) x.2).2)
/-- What the last j pieces make of it. -/
def restW (B : List UInt8) : Nat → Mg × (Nat × Int) → Mg × (Nat × Int)
  | 0, x => x
  | j + 1, x => restW B j (stW B (6 - j) x)
def msgR (B : List UInt8) : Mg × (Nat × Int) := restW B 7 (⟨⟨0, 0, 0, 0, 0⟩, [], []⟩, (0, 0))
/-- May the message be? -/
def msQ (m : Mg) : Bool :=
  (decide (1 ≤ m.hd.kind) && decide (m.hd.kind ≤ 8)) && inB m.hd.from_ 4 && inB m.hd.to_ 4 && inB m.hd.id 1099511627776 && inB m.hd.num 1099511627776 && decide (m.muts.length ≤ 100) && decide (m.keys.length ≤ 40) && !m.keys.any longB && !m.muts.any fun x => !okMq x
theorem msB_q (m : Hd) (ms : List Mt) (ks : List ByteArray) : msB m ms ks = msQ ⟨m, ms.map Mt.q, ks⟩ := by
  unfold msB msQ
  simp only [List.length_map, List.any_map]
  rfl
def mg0 : Mg := ⟨⟨0, 0, 0, 0, 0⟩, [], []⟩
/-- What Get answers. -/
def gwR (B : List UInt8) : Mg × (Nat × Int) := ((msgR B).1, endR B (msgR B).2)
def gwErr (B : List UInt8) : Int := if (gwR B).2.2 = 0 then (if msQ (gwR B).1 then 0 else 1) else (gwR B).2.2
def gwMg (B : List UInt8) : Mg := if gwErr B = 0 then (gwR B).1 else mg0
theorem gw_none {B : List UInt8} (h : gwErr B ≠ 0) : gwMg B = mg0 := if_neg h
theorem parW_low (B : List UInt8) (s : Nat × Int) : ∀ r ∈ (parW B s).1.rows, ∀ c ∈ r.cols, c.name.size ≤ B.length := by
  intro r hr c hc
  unfold parW at hr
  split at hr
  · unfold getR at hr
    have h1 := prtR_low (txtR B s).1.data.toList (0, if (txtR B s).1.data.toList.length ≤ 262144 then 0 else 2) r hr c hc
    have h2 := txtR_size B s
    rw [dat_size] at h1
    omega
  · cases hr
def msgG (one : Rdr Mq) : Rdr Mg := seqR numR fun a => seqR numR fun b => seqR numR fun c => seqR numR fun d => seqR numR fun e => seqR (listF one) fun M => seqR (listF txtR) fun K => pureR ⟨⟨(a : Int), (b : Int), (c : Int), (d : Int), (e : Int)⟩, M, K⟩
theorem msgR_G (B : List UInt8) : msgR B = msgG mutW B (0, 0) := by
  unfold msgR msgG
  simp only [restW, stW, seqR, pureR, listF]
  rfl
theorem msgR_low (B : List UInt8) : (∀ x ∈ (msgR B).1.muts, x.table.size ≤ B.length ∧ ∀ r ∈ x.pt.rows, ∀ c ∈ r.cols, c.name.size ≤ B.length) ∧ ∀ k ∈ (msgR B).1.keys, k.size ≤ B.length := by
  rw [msgR_G]
  unfold msgG
  simp only [seqR, pureR, listF]
  generalize (numR B _).2 = s
  exact ⟨manyR_all (P := fun x : Mq => x.table.size ≤ B.length ∧ ∀ r ∈ x.pt.rows, ∀ c ∈ r.cols, c.name.size ≤ B.length) (one := mutW B) (fun s => ⟨txtR_size B s, parW_low B _⟩) _ _, manyR_all (P := fun k : ByteArray => k.size ≤ B.length) (one := txtR B) (fun s => txtR_size B s) _ _⟩
/-- A message's bytes. -/
def msgE (m : Mg) : List UInt8 := num m.hd.kind.toNat ++ (num m.hd.from_.toNat ++ (num m.hd.to_.toNat ++ (num m.hd.id.toNat ++ (num m.hd.num.toNat ++ ((num m.muts.length ++ m.muts.flatMap mutE) ++ (num m.keys.length ++ m.keys.flatMap fun s => num s.size ++ s.data.toList))))))
end Go.Proofs.YtfagnbofnaoncaaGreatDoor

/- wire.Put of any message. -/
namespace Go.Proofs.YtfagnbofnaoncaaGreatDoor
open Go Go.RowKit
attribute [local go_sem] yields yUpon

/-- A message's bytes, piece by piece. -/
def partsG (m : Hd) (M : List Mt) (ks : List ByteArray) : List (List UInt8) := [num m.kind.toNat, num m.from_.toNat, num m.to_.toNat, num m.id.toNat, num m.num.toNat, num M.length ++ M.flatMap mutP, num ks.length ++ ks.flatMap tb]
def prefG (m : Hd) (M : List Mt) (ks : List ByteArray) (k : Nat) : List UInt8 := ((partsG m M ks).take k).flatten
def bytesG (m : Hd) (M : List Mt) (ks : List ByteArray) : List UInt8 := (partsG m M ks).flatten
theorem bytesG_q (m : Hd) (M : List Mt) (ks : List ByteArray) : bytesG m M ks = msgE ⟨m, M.map Mt.q, ks⟩ := by
  unfold bytesG partsG msgE
  simp only [List.flatten_cons, List.flatten_nil, List.append_nil, List.length_map, List.flatMap_map]
  rfl
theorem msB_parts {m : Hd} {M : List Mt} {ks : List ByteArray} (h : msB m M ks = true) : (1 ≤ m.kind ∧ m.kind ≤ 8) ∧ (0 ≤ m.from_ ∧ m.from_ ≤ 4) ∧ (0 ≤ m.to_ ∧ m.to_ ≤ 4) ∧ (0 ≤ m.id ∧ m.id ≤ 1099511627776) ∧ (0 ≤ m.num ∧ m.num ≤ 1099511627776) ∧ M.length ≤ 100 ∧ ks.length ≤ 40 ∧ (∀ k ∈ ks, k.size ≤ 100) ∧ ∀ x ∈ M, okMt x = true := by
  unfold msB inB at h
  simp only [Bool.and_eq_true, decide_eq_true_eq, Bool.not_eq_true', List.any_eq_false] at h
  obtain ⟨⟨⟨⟨⟨⟨⟨⟨h1, h2⟩, h3⟩, h4⟩, h5⟩, h6⟩, h7⟩, h8⟩, h9⟩ := h
  refine ⟨h1, h2, h3, h4, h5, h6, h7, fun k hk => ?_, fun x hx => ?_⟩
  · have := h8 k hk
    unfold longB at this
    simp at this
    omega
  · have := h9 x hx
    unfold badG at this
    simpa using this
theorem mutP_leW {x : Mt} (h : okMt x = true) (hw : (wholeP x.pa.key x.pa.gone (x.pa.ps.map (·.1))).length ≤ 262144) : (mutP x).length ≤ 262300 := by
  unfold okMt at h
  simp only [Bool.and_eq_true] at h
  have h1 := nameB_size h.1
  have l1 := num_length (x := x.table.size) (by omega)
  have l2 := num_length (x := (wholeP x.pa.key x.pa.gone (x.pa.ps.map (·.1))).length) (by omega)
  unfold mutP mutQ
  simp only [List.length_append, dat_size]
  omega
theorem flat_len {α : Type} {f : α → List UInt8} {n : Nat} : ∀ {l : List α}, (∀ x ∈ l, (f x).length ≤ n) → (l.flatMap f).length ≤ l.length * n
  | [], _ => by simp
  | x :: l, h => by
    have h1 := h x (List.mem_cons_self ..)
    have h2 := flat_len (l := l) fun y hy => h y (List.mem_cons_of_mem _ hy)
    rw [List.flatMap_cons, List.length_append, List.length_cons, Nat.add_mul, Nat.one_mul]
    omega
theorem prefG_le {m : Hd} {M : List Mt} {ks : List ByteArray} (hM : ∀ x ∈ M, okMt x = true ∧ (wholeP x.pa.key x.pa.gone (x.pa.ps.map (·.1))).length ≤ 262144) (hK : ∀ k ∈ ks, k.size ≤ 100) (a1 : 1 ≤ m.kind) (a2 : m.kind ≤ 8) (b1 : 0 ≤ m.from_) (b2 : m.from_ ≤ 4) (c1 : 0 ≤ m.to_) (c2 : m.to_ ≤ 4) (d1 : 0 ≤ m.id) (d2 : m.id ≤ 1099511627776) (e1 : 0 ≤ m.num) (e2 : m.num ≤ 1099511627776) (f1 : M.length ≤ 100) (f2 : ks.length ≤ 40) (k : Nat) : (prefG m M ks k).length ≤ 30000000 ∧ (k ≤ 5 → (prefG m M ks k).length ≤ 45) := by
  have l1 := num_length (x := m.kind.toNat) (by omega)
  have l2 := num_length (x := m.from_.toNat) (by omega)
  have l3 := num_length (x := m.to_.toNat) (by omega)
  have l4 := num_length (x := m.id.toNat) (by omega)
  have l5 := num_length (x := m.num.toNat) (by omega)
  have l6 := num_length (x := M.length) (by omega)
  have l7 := num_length (x := ks.length) (by omega)
  have h1 := flat_len (f := mutP) (n := 262300) (l := M) fun x hx => mutP_leW (hM x hx).1 (hM x hx).2
  have h2 := flat_len (f := tb) (n := 109) (l := ks) fun s hs => by
    have := hK s hs
    have := num_length (x := s.size) (by omega)
    unfold tb
    rw [List.length_append, dat_size]
    omega
  have h5 : ∀ k, k ≤ 5 → (prefG m M ks k).length ≤ 45 := by
    intro k hk
    unfold prefG partsG
    obtain rfl | rfl | rfl | rfl | rfl | rfl : k = 0 ∨ k = 1 ∨ k = 2 ∨ k = 3 ∨ k = 4 ∨ k = 5 := by omega
    all_goals simp <;> omega
  refine ⟨?_, h5 k⟩
  by_cases hk : k ≤ 5
  · have := h5 k hk; omega
  · by_cases h6 : k = 6
    · subst h6
      unfold prefG partsG
      simp only [List.take_succ_cons, List.take_zero, List.flatten_cons, List.flatten_nil, List.length_append, List.length_nil]
      omega
    · unfold prefG partsG
      rw [List.take_of_length_le (by simp; omega)]
      simp only [List.flatten_cons, List.flatten_nil, List.length_append, List.length_nil]
      omega

set_option maxRecDepth 100000 in
set_option maxHeartbeats 2000000 in
theorem wputG_no (m : Hd) (vm vk : Value) (M : List Mt) (ks : List ByteArray) (w : World) (hT : TabU w) (hM : MtsIn w vm M) (hK : TxIn w vk ks) (hMb : ∀ x ∈ M, x.table.size ≤ 1000000 ∧ ∀ p ∈ x.pa.ps, ∀ c ∈ p.1.cols, c.name.size ≤ 1000000) (hKb : ∀ s ∈ ks, s.size ≤ 1000000) (hq : msB m M ks = false) :
    Calls Tryz.prog 7 #[.agg (hd7 m vm vk)] w fun e w' => e = .returned (.tuple #[.string ⟨#[]⟩, .int .i64 1]) ∧ Ext w w' := by
  have hCk := fun (w1 : World) (hE : Ext w w1) => Lib.hid (wcheck_gen m vm vk M ks w1 (hT.ext hE) (hM.ext hE) (hK.ext hE) hMb hKb)
  rw [hq] at hCk
  obtain ⟨kd, fr, to, id, nm⟩ := m
  obtain ⟨am, cm, rfl, _⟩ := hM.get
  obtain ⟨ak, ck, rfl, _⟩ := hK.get
  unfold hd7 at *
  simp only at *
  have hE0 := (Ext.refl w).alloc (.cells #[.int .i64 kd, .int .i64 fr, .int .i64 to, .int .i64 id, .slice am M.length cm, .slice ak ks.length ck, .int .i64 nm] 25)
  clear hMb hKb hq
  go_enter Tryz.func7, Tryz.ntmps7
  go_wp2_with (go_at_call 12; go_must (refine (hCk _ hE0).out.mono ?_); rintro e w1 ⟨rfl, hE1⟩)
  go_ret2
  exact ⟨rfl, hE0.trans hE1⟩

set_option maxRecDepth 100000 in
set_option maxHeartbeats 8000000 in
theorem wputG_ok (m : Hd) (vm vk : Value) (M : List Mt) (ks : List ByteArray) (w : World) (hT : TabU w) (hM : MtsIn w vm M) (hK : TxIn w vk ks) (hWb : ∀ x ∈ M, (wholeP x.pa.key x.pa.gone (x.pa.ps.map (·.1))).length ≤ 262144) (hq : msB m M ks = true) :
    Calls Tryz.prog 7 #[.agg (hd7 m vm vk)] w fun e w' => e = .returned (if (bytesG m M ks).length ≤ 4096 then .tuple #[.string (str (bytesG m M ks)), .int .i64 0] else .tuple #[.string ⟨#[]⟩, .int .i64 2]) ∧ Ext w w' := by
  obtain ⟨⟨a1, a2⟩, ⟨b1, b2⟩, ⟨c1, c2⟩, ⟨d1, d2⟩, ⟨e1, e2⟩, f1, f2, hKb, hMok⟩ := msB_parts hq
  have hMb : ∀ x ∈ M, x.table.size ≤ 1000000 ∧ ∀ p ∈ x.pa.ps, ∀ c ∈ p.1.cols, c.name.size ≤ 1000000 := fun x hx => by
    have h := hMok x hx
    unfold okMt at h
    simp only [Bool.and_eq_true] at h
    have := nameB_size h.1
    refine ⟨by omega, fun p hp c hc => ?_⟩
    have := (((ptB_ok h.2).rows p.1 (List.mem_map_of_mem (f := (·.1)) hp)).cols c hc).name
    omega
  have hCk := fun (w1 : World) (hE : Ext w w1) => Lib.hid (wcheck_gen m vm vk M ks w1 (hT.ext hE) (hM.ext hE) (hK.ext hE) hMb (fun s hs => by have := hKb s hs; omega))
  rw [hq] at hCk
  have hpf := fun (k : Nat) (hk : k ≤ 7) => Lib.hid (prefG_le (m := m) (fun x hx => (⟨hMok x hx, hWb x hx⟩ : okMt x = true ∧ _)) hKb a1 a2 b1 b2 c1 c2 d1 d2 e1 e2 f1 f2 k)
  have HMb := Lib.hid (fun x (hx : x ∈ M) => (⟨hMok x hx, hWb x hx⟩ : okMt x = true ∧ _))
  have HKb := Lib.hid (fun s (hs : s ∈ ks) => (by have := hKb s hs; omega : s.size ≤ 1000))
  obtain ⟨kd, fr, to, id, nm⟩ := m
  simp only at a1 a2 b1 b2 c1 c2 d1 d2 e1 e2
  obtain ⟨am, cm, rfl, _⟩ := hM.get
  obtain ⟨ak, ck, rfl, _⟩ := hK.get
  unfold hd7 at *
  simp only at hCk ⊢
  have hE0 := (Ext.refl w).alloc (.cells #[.int .i64 kd, .int .i64 fr, .int .i64 to, .int .i64 id, .slice am M.length cm, .slice ak ks.length ck, .int .i64 nm] 25)
  have hbx := BoxAt.made w #[.int .i64 kd, .int .i64 fr, .int .i64 to, .int .i64 id, .slice am M.length cm, .slice ak ks.length ck, .int .i64 nm] 25
  obtain ⟨m, hm⟩ : ∃ m : Hd, m = ⟨kd, fr, to, id, nm⟩ := ⟨_, rfl⟩
  rw [← hm] at hpf ⊢
  have HMM := Lib.hid hm
  clear hMb hKb hq hm hMok hWb
  go_enter Tryz.func7, Tryz.ntmps7
  go_wp2_with (first
    | (go_at_call 12; go_must (refine (hCk _ hE0).out.mono ?_); rintro e w1 ⟨rfl, hE1⟩)
    | (go_at_call 32; go_must (refine (pieces_any w.heap.size _).mono ?_); rintro e w2 ⟨pb, ⟨rfl, hE2⟩, hpb⟩))
  have hE12 := (hE0.trans hE1).trans hE2
  have hb2 := hbx.ext (hE1.trans hE2)
  go_loopw [4, 12] (fun o i wr => ∃ k : Nat, k ≤ 7 ∧ i = .int .i64 (k : Int) ∧ OwnB wr w.heap.size o (prefG m M ks k) ∧ Ext w2 wr) (fun _ i _ => 7 - (intOf i).toNat)
  case atStart => exact ⟨0, Nat.zero_le _, rfl, World.ownsRow_nil _ _ _ _, Ext.refl w2⟩
  case round =>
    obtain ⟨k, hk, rfl, hF, hE⟩ := hrel
    have hEw := hE12.trans hE
    have hbr := hb2.ext hE
    have hpr := hpb.ext hE
    have hpl := (hpf k hk).out.1
    have hpl5 := (hpf k hk).out.2
    by_cases hlt : k < 7
    · obtain rfl | rfl | rfl | rfl | rfl | rfl | rfl : k = 0 ∨ k = 1 ∨ k = 2 ∨ k = 3 ∨ k = 4 ∨ k = 5 ∨ k = 6 := by omega
      · have p0 : wr.cell? ⟨pb, 0, none⟩ = some (.iface 145 (.agg #[.pointer (some ⟨w.heap.size, 0, none⟩)])) := hpr.cell 0
        have z : wr.cell? ⟨w.heap.size, 0, none⟩ = some (.int .i64 kd) := hbr.cell 0
        go_wp2_with fail
        refine upon_method 212 (by kernel_rfl) ?_
        go_wp2_with (go_at_call 212; go_must (refine (numput_any w.heap.size 0 kd _ _ (by omega) (by omega) wr z (OwnB.bytes hF) (by omega)).mono ?_); rintro e w5 ⟨v5, rfl, ho5, hE5⟩)
        refine ⟨⟨1, by omega, rfl, ?_, hE.trans hE5⟩, by simp [intOf]⟩
        have e : prefG m M ks 1 = prefG m M ks 0 ++ num kd.toNat := by rw [HMM.out]; simp [prefG, partsG]
        rw [e]
        exact ho5.base hEw.le
      · have p0 : wr.cell? ⟨pb, 1, none⟩ = some (.iface 145 (.agg #[.pointer (some ⟨w.heap.size, 1, none⟩)])) := hpr.cell 1
        have z : wr.cell? ⟨w.heap.size, 1, none⟩ = some (.int .i64 fr) := hbr.cell 1
        go_wp2_with fail
        refine upon_method 212 (by kernel_rfl) ?_
        go_wp2_with (go_at_call 212; go_must (refine (numput_any w.heap.size 1 fr _ _ (by omega) (by omega) wr z (OwnB.bytes hF) (by omega)).mono ?_); rintro e w5 ⟨v5, rfl, ho5, hE5⟩)
        refine ⟨⟨2, by omega, rfl, ?_, hE.trans hE5⟩, by simp [intOf]⟩
        have e : prefG m M ks 2 = prefG m M ks 1 ++ num fr.toNat := by rw [HMM.out]; simp [prefG, partsG]
        rw [e]
        exact ho5.base hEw.le
      · have p0 : wr.cell? ⟨pb, 2, none⟩ = some (.iface 145 (.agg #[.pointer (some ⟨w.heap.size, 2, none⟩)])) := hpr.cell 2
        have z : wr.cell? ⟨w.heap.size, 2, none⟩ = some (.int .i64 to) := hbr.cell 2
        go_wp2_with fail
        refine upon_method 212 (by kernel_rfl) ?_
        go_wp2_with (go_at_call 212; go_must (refine (numput_any w.heap.size 2 to _ _ (by omega) (by omega) wr z (OwnB.bytes hF) (by omega)).mono ?_); rintro e w5 ⟨v5, rfl, ho5, hE5⟩)
        refine ⟨⟨3, by omega, rfl, ?_, hE.trans hE5⟩, by simp [intOf]⟩
        have e : prefG m M ks 3 = prefG m M ks 2 ++ num to.toNat := by rw [HMM.out]; simp [prefG, partsG]
        rw [e]
        exact ho5.base hEw.le
      · have p0 : wr.cell? ⟨pb, 3, none⟩ = some (.iface 145 (.agg #[.pointer (some ⟨w.heap.size, 3, none⟩)])) := hpr.cell 3
        have z : wr.cell? ⟨w.heap.size, 3, none⟩ = some (.int .i64 id) := hbr.cell 3
        go_wp2_with fail
        refine upon_method 212 (by kernel_rfl) ?_
        go_wp2_with (go_at_call 212; go_must (refine (numput_any w.heap.size 3 id _ _ (by omega) (by omega) wr z (OwnB.bytes hF) (by omega)).mono ?_); rintro e w5 ⟨v5, rfl, ho5, hE5⟩)
        refine ⟨⟨4, by omega, rfl, ?_, hE.trans hE5⟩, by simp [intOf]⟩
        have e : prefG m M ks 4 = prefG m M ks 3 ++ num id.toNat := by rw [HMM.out]; simp [prefG, partsG]
        rw [e]
        exact ho5.base hEw.le
      · have p0 : wr.cell? ⟨pb, 4, none⟩ = some (.iface 145 (.agg #[.pointer (some ⟨w.heap.size, 6, none⟩)])) := hpr.cell 4
        have z : wr.cell? ⟨w.heap.size, 6, none⟩ = some (.int .i64 nm) := hbr.cell 6
        go_wp2_with fail
        refine upon_method 212 (by kernel_rfl) ?_
        go_wp2_with (go_at_call 212; go_must (refine (numput_any w.heap.size 6 nm _ _ (by omega) (by omega) wr z (OwnB.bytes hF) (by omega)).mono ?_); rintro e w5 ⟨v5, rfl, ho5, hE5⟩)
        refine ⟨⟨5, by omega, rfl, ?_, hE.trans hE5⟩, by simp [intOf]⟩
        have e : prefG m M ks 5 = prefG m M ks 4 ++ num nm.toNat := by rw [HMM.out]; simp [prefG, partsG]
        rw [e]
        exact ho5.base hEw.le
      · have p0 : wr.cell? ⟨pb, 5, none⟩ = some (.iface 148 (.agg #[.pointer (some ⟨w.heap.size, 4, none⟩)])) := hpr.cell 5
        have z : wr.cell? ⟨w.heap.size, 4, none⟩ = some (.slice am M.length cm) := hbr.cell 4
        go_wp2_with fail
        refine upon_method 218 (by kernel_rfl) ?_
        go_wp2_with (go_at_call 218; go_must (refine (mutsputG w.heap.size 4 _ M _ _ wr z (hT.ext hEw) (hM.ext hEw) HMb.out (by omega) (OwnB.bytes hF) (by omega)).mono ?_); rintro e w5 ⟨v5, rfl, ho5, hE5⟩)
        refine ⟨⟨6, by omega, rfl, ?_, hE.trans hE5⟩, by simp [intOf]⟩
        have e : prefG m M ks 6 = prefG m M ks 5 ++ num M.length ++ M.flatMap mutP := by rw [HMM.out]; simp [prefG, partsG]
        rw [e]
        exact ho5.base hEw.le
      · have p0 : wr.cell? ⟨pb, 6, none⟩ = some (.iface 151 (.agg #[.pointer (some ⟨w.heap.size, 5, none⟩)])) := hpr.cell 6
        have z : wr.cell? ⟨w.heap.size, 5, none⟩ = some (.slice ak ks.length ck) := hbr.cell 5
        go_wp2_with fail
        refine upon_method 245 (by kernel_rfl) ?_
        go_wp2_with (go_at_call 245; go_must (refine (textsputG w.heap.size 5 _ ks _ _ wr z (hK.ext hEw) HKb.out (by omega) (OwnB.bytes hF) (by omega)).mono ?_); rintro e w5 ⟨v5, rfl, ho5, hE5⟩)
        refine ⟨⟨7, by omega, rfl, ?_, hE.trans hE5⟩, by simp [intOf]⟩
        have e : prefG m M ks 7 = prefG m M ks 6 ++ num ks.length ++ ks.flatMap tb := by rw [HMM.out]; simp [prefG, partsG]
        rw [e]
        exact ho5.base hEw.le
    · obtain rfl : k = 7 := by omega
      have e7 : prefG m M ks 7 = bytesG m M ks := rfl
      rw [e7] at hF hpl
      have hF' := hF
      obtain ⟨ao, co, rfl⟩ := ownB_shape hF'
      by_cases hbig : (bytesG m M ks).length ≤ 4096
      · have t1 : ¬ (4096 : Int) < ((bytesG m M ks).length : Int) := by omega
        have HBG := Lib.hid hbig
        clear hbig
        go_wp2_with (refine wpList_convert_bytes rfl 79 9 5 (.tmp 23) rfl und_bytes und_u8 und_string (OwnB.bytes hF) ?_)
        go_ret2
        exact ⟨rfl, hEw⟩
      · have t1 : (4096 : Int) < ((bytesG m M ks).length : Int) := by omega
        have HBG := Lib.hid hbig
        clear hbig
        go_wp2_with fail
        go_ret2
        exact ⟨rfl, hEw⟩
end Go.Proofs.YtfagnbofnaoncaaGreatDoor

/- wire.Put's answer as plain data; clerestorylaw21's awake. -/
namespace Go.Proofs.YtfagnbofnaoncaaGreatDoor
open Go Go.RowKit
attribute [local go_sem] yields yUpon

/-- What Put answers. -/
def putQ (m : Mg) : ByteArray × Int := if msQ m then (if (msgE m).length ≤ 4096 then (str (msgE m), 0) else (⟨#[]⟩, 2)) else (⟨#[]⟩, 1)

set_option maxHeartbeats 1000000 in
theorem wput_any (m : Hd) (vm vk : Value) (M : List Mt) (ks : List ByteArray) (w : World) (hT : TabU w) (hM : MtsIn w vm M) (hK : TxIn w vk ks) (hMb : ∀ x ∈ M, x.table.size ≤ 1000000 ∧ ∀ p ∈ x.pa.ps, ∀ c ∈ p.1.cols, c.name.size ≤ 1000000) (hKb : ∀ s ∈ ks, s.size ≤ 1000000) (hWb : ∀ x ∈ M, okMt x = true → (wholeP x.pa.key x.pa.gone (x.pa.ps.map (·.1))).length ≤ 262144) :
    Calls Tryz.prog 7 #[.agg (hd7 m vm vk)] w fun e w' => e = .returned (.tuple #[.string (putQ ⟨m, M.map Mt.q, ks⟩).1, .int .i64 (putQ ⟨m, M.map Mt.q, ks⟩).2]) ∧ Ext w w' := by
  unfold putQ
  rw [← msB_q, ← bytesG_q]
  cases hq : msB m M ks
  · exact wputG_no m vm vk M ks w hT hM hK hMb hKb hq
  · have hok := (msB_parts hq).2.2.2.2.2.2.2.2
    refine (wputG_ok m vm vk M ks w hT hM hK (fun x hx => hWb x hx (hok x hx)) hq).mono ?_
    rintro e w1 ⟨rfl, hE⟩
    refine ⟨?_, hE⟩
    by_cases hl : (bytesG m M ks).length ≤ 4096
    · simp [hl]
    · simp [hl]
theorem putQ_done : putQ ⟨⟨2, 0, 0, 0, 0⟩, [], []⟩ = (⟨#[1, 2, 0, 0, 0, 0, 0, 0]⟩, 0) := by
  have e : msgE ⟨⟨2, 0, 0, 0, 0⟩, [], []⟩ = [1, 2, 0, 0, 0, 0, 0, 0] := by decide
  have q : msQ ⟨⟨2, 0, 0, 0, 0⟩, [], []⟩ = true := by decide
  unfold putQ
  rw [q, e]
  rfl
set_option maxHeartbeats 2000000 in
theorem awake21_any (w : World) (hT : TabU w) : Calls Tryz.prog 6 #[] w fun e w' => e = .returned (.bool true) ∧ Ext w w' := by
  have hP := Lib.hid putQ_done
  go_enter Tryz.func6, Tryz.ntmps6
  go_wp2_with (go_at_call 7; go_must (refine (wput_any ⟨2, 0, 0, 0, 0⟩ (.slice none 0 0) (.slice none 0 0) [] [] _ hT (MtsIn.nil _) (SliceIn.nil _) nofun nofun nofun).mono ?_); rintro e w1 ⟨rfl, hE1⟩; rw [List.map_nil, hP.out])
  go_ret
  exact ⟨rfl, hE1⟩

/-- What Get answers, of a text. -/
def gxErr (S : ByteArray) : Int := if S.size ≤ 4096 then gwErr S.data.toList else 2
def gxMg (S : ByteArray) : Mg := if S.size ≤ 4096 then gwMg S.data.toList else mg0
/-- What Get hands over. -/
structure GotW (w : World) (vm vk : Value) (ms : List Mt) (m : Mg) : Prop where
  mt : MtsIn w vm ms
  q : ms.map Mt.q = m.muts
  ks : TxIn w vk m.keys
theorem GotW.ext {w w' : World} (hE : Ext w w') {vm vk : Value} {ms : List Mt} {m : Mg} (h : GotW w vm vk ms m) : GotW w' vm vk ms m := ⟨h.mt.ext hE, h.q, h.ks.ext hE⟩
theorem GotW.none (w : World) : GotW w (.slice none 0 0) (.slice none 0 0) [] mg0 := ⟨MtsIn.nil w, rfl, SliceIn.nil w⟩
end Go.Proofs.YtfagnbofnaoncaaGreatDoor
