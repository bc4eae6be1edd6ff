/- Plain laws: batches: what is put is got; what is got is put as the same bytes. -/
import Derived.Test.YtfagnbofnaoncaaGreatDoorP15
import Derived.Test.YtfagnbofnaoncaaGreatDoorP17
set_option linter.unusedSimpArgs false
set_option linter.unusedVariables false
namespace Go.Proofs.YtfagnbofnaoncaaGreatDoor
open Go Go.RowKit

/-- A partition within a text. -/
def inR (t b : ByteArray) : Rdr Mq := fun _ s => (⟨t, (prtR b.data.toList (0, s.2)).1⟩, failR (prtR b.data.toList (0, s.2)).2.2 s)
theorem mutR_eq (B : List UInt8) (s : Nat × Int) : mutR B s = seqR txtR (fun t => seqR txtR fun b => inR t b) B s := rfl
theorem failR_stick {k : Int} {s : Nat × Int} (h : s.2 ≠ 0) : failR k s = s := if_neg h
theorem ok_in (t b : ByteArray) : OkRd (inR t b) :=
  ⟨fun _ s h => failR_stick h, fun _ s h => by unfold inR; simp only [failR_one]; exact h, fun _ s _ he => failR_er (prtR_er (Nat.zero_le _) he) he⟩
theorem ok_mut : OkRd mutR := (ok_txt.bind fun t => ok_txt.bind fun b => ok_in t b).congr mutR_eq
theorem rd_in {t b : ByteArray} {x : Mq} (ht : x.table = t) (h : ptB x.pt.key x.pt.gone x.pt.rows = true) (hb : b.data.toList = wholeP x.pt.key x.pt.gone x.pt.rows) : Rd (inR t b) x [] := by
  refine ⟨fun _ i _ _ _ => ?_, fun _ _ T _ h hT => absurd (List.append_eq_nil_iff.1 h).2 hT⟩
  unfold inR
  simp only
  rw [prtR_put h hb, ← ht]
  rfl
theorem rd_mut {x : Mq} (h : okMq x = true) : Rd mutR x (mutE x) := by
  unfold okMq at h
  simp only [Bool.and_eq_true] at h
  have hn := nameB_size h.1
  have hw := wholeP_le8 h.2
  refine Rd.congr ?_ (fun B i => mutR_eq B (i, 0))
  have e : mutE x = txtE x.table ++ (txtE (str (wholeP x.pt.key x.pt.gone x.pt.rows)) ++ []) := by
    unfold mutE mutQ txtE
    simp only [List.append_assoc, List.append_nil, str_size, str_toList]
  rw [e]
  refine (rd_txt (by omega)).bind ?_ fun t => ok_txt.bind fun b => ok_in t b
  exact (rd_txt (by rw [str_size]; omega)).bind (rd_in rfl h.2 rfl) fun b => ok_in _ b
theorem bk_in (t b : ByteArray) : Bk (inR t b) (fun x E => E = [] ∧ x.table = t ∧ b.data.toList = wholeP x.pt.key x.pt.gone x.pt.rows) := fun B s hs h => by
  unfold inR at h ⊢
  simp only at h ⊢
  by_cases h0 : s.2 = 0
  · unfold failR at h
    rw [if_pos h0] at h
    simp only at h
    have := prtR_back (Nat.zero_le _) h
    rw [List.drop_zero] at this
    exact ⟨h0, [], ⟨rfl, trivial, this.2⟩, by rw [failR_one]; rfl⟩
  · rw [failR_stick h0] at h
    exact absurd h h0
theorem bk_mut : Bk mutR (fun x E => E = mutE x) := by
  refine Bk.congr ?_ mutR_eq
  refine (Bk.bind (Q := fun t (x : Mq) F => x.table = t ∧ F = txtE (str (wholeP x.pt.key x.pt.gone x.pt.rows))) bk_txt ok_txt fun t => (Bk.bind (Q := fun b (x : Mq) F => F = [] ∧ x.table = t ∧ b.data.toList = wholeP x.pt.key x.pt.gone x.pt.rows) bk_txt ok_txt fun b => bk_in t b).mono fun x G hG => ?_).mono fun x G hG => ?_
  · obtain ⟨b, E, F, rfl, ⟨rfl, h1, h2⟩, rfl⟩ := hG
    refine ⟨h1, ?_⟩
    rw [← h2, str_back, List.append_nil]
  · obtain ⟨t, E, F, rfl, ⟨rfl, rfl⟩, rfl⟩ := hG
    unfold mutE mutQ txtE
    simp only [List.append_assoc, str_size, str_toList]
theorem noteR_eq (B : List UInt8) (s : Nat × Int) : noteR B s = seqR numR (fun n => seqR txtR fun t => pureR (⟨(n : Int), t⟩ : Nt)) B s := rfl
theorem ok_note : OkRd noteR := OkRd.congr (ok_num.bind fun n => ok_txt.bind fun t => OkRd.pure (⟨(n : Int), t⟩ : Nt)) noteR_eq
theorem rd_note {x : Nt} (h : okNt x = true) : Rd noteR x (notP x) := by
  unfold okNt idB at h
  simp only [Bool.and_eq_true, decide_eq_true_eq] at h
  obtain ⟨id, body⟩ := x
  simp only at h
  obtain ⟨n, rfl⟩ : ∃ n : Nat, id = n := ⟨id.toNat, by omega⟩
  refine Rd.congr ?_ (fun B i => noteR_eq B (i, 0))
  have e : notP ⟨(n : Int), body⟩ = num n ++ (txtE body ++ []) := by
    unfold notP txtE
    simp only [List.append_assoc, List.append_nil, Int.toNat_natCast]
  rw [e]
  refine (rd_num (by omega)).bind ?_ fun n => ok_txt.bind fun t => OkRd.pure _
  exact (rd_txt (by omega)).bind (Rd.pure _) fun b => OkRd.pure _
theorem bk_note : Bk noteR (fun x E => E = notP x) := by
  refine Bk.congr ?_ noteR_eq
  refine (Bk.bind (Q := fun (n : Nat) (x : Nt) F => x.id = (n : Int) ∧ F = txtE x.body) bk_num ok_num fun n => (Bk.bind (Q := fun t (x : Nt) F => x = ⟨(n : Int), t⟩ ∧ F = []) bk_txt ok_txt fun t => Bk.pure _).mono fun x G hG => ?_).mono fun x G hG => ?_
  · obtain ⟨t, E, F, rfl, ⟨rfl, rfl⟩, rfl⟩ := hG
    exact ⟨rfl, by rw [List.append_nil]⟩
  · obtain ⟨n, E, F, ⟨rfl, _⟩, ⟨h1, rfl⟩, rfl⟩ := hG
    unfold notP txtE
    rw [h1, Int.toNat_natCast]
    simp only [List.append_assoc]
theorem numIR_eq (B : List UInt8) (s : Nat × Int) : numIR B s = seqR numR (fun n => pureR (n : Int)) B s := rfl
theorem ok_numI : OkRd numIR := OkRd.congr (ok_num.bind fun n => OkRd.pure (n : Int)) numIR_eq
theorem rd_numI {x : Int} (h : idB x = true) : Rd numIR x (num x.toNat) := by
  unfold idB at h
  simp only [Bool.and_eq_true, decide_eq_true_eq] at h
  obtain ⟨n, rfl⟩ : ∃ n : Nat, x = n := ⟨x.toNat, by omega⟩
  refine Rd.congr ?_ (fun B i => numIR_eq B (i, 0))
  have := (rd_num (x := n) (by omega)).bind (g := fun n : Nat => pureR (n : Int)) (Rd.pure (n : Int)) fun n => OkRd.pure (n : Int)
  rw [List.append_nil] at this
  exact this
theorem bk_numI : Bk numIR (fun x E => E = num x.toNat) := by
  refine Bk.congr ?_ numIR_eq
  refine (Bk.bind (Q := fun (n : Nat) (x : Int) F => x = (n : Int) ∧ F = []) bk_num ok_num fun n => Bk.pure _).mono fun x G hG => ?_
  obtain ⟨n, E, F, ⟨rfl, _⟩, ⟨rfl, rfl⟩, rfl⟩ := hG
  rw [List.append_nil, Int.toNat_natCast]
theorem mutE_ge (x : Mq) : 1 ≤ (mutE x).length := by have := num_ge x.table.size; unfold mutE mutQ; simp only [List.length_append]; omega
theorem notP_ge (x : Nt) : 1 ≤ (notP x).length := by have := num_ge x.id.toNat; unfold notP; simp only [List.length_append]; omega
def btF : Rdr Bt := seqR (listF mutR) fun M => seqR (listF noteR) fun A => seqR (listF numIR) fun D => pureR ⟨M, A, D⟩
theorem btR_eq (B : List UInt8) (s : Nat × Int) : btR B s = ((btF B s).1, endR B (btF B s).2) := rfl
theorem ok_bt : OkRd btF := (ok_list ok_mut).bind fun _ => (ok_list ok_note).bind fun _ => (ok_list ok_numI).bind fun _ => OkRd.pure _
theorem rd_bt {b : Bt} (h : cbQ b = true) : Rd btF b (batQ b) := by
  unfold cbQ at h
  simp only [Bool.and_eq_true, decide_eq_true_eq, List.all_eq_true] at h
  obtain ⟨⟨⟨⟨⟨z1, z2⟩, z3⟩, hM⟩, hA⟩, hD⟩ := h
  obtain ⟨M, A, D⟩ := b
  simp only at z1 z2 z3 hM hA hD
  have e : batQ ⟨M, A, D⟩ = (num M.length ++ M.flatMap mutE) ++ ((num A.length ++ A.flatMap notP) ++ ((num D.length ++ D.flatMap fun d => num d.toNat) ++ [])) := by
    unfold batQ
    simp only [List.append_assoc, List.append_nil]
  rw [e]
  unfold btF
  refine (rd_list ok_mut (by omega) (fun x hx => rd_mut (hM x hx)) fun x _ => mutE_ge x).bind ?_ fun _ => (ok_list ok_note).bind fun _ => (ok_list ok_numI).bind fun _ => OkRd.pure _
  refine (rd_list ok_note (by omega) (fun x hx => rd_note (hA x hx)) fun x _ => notP_ge x).bind ?_ fun _ => (ok_list ok_numI).bind fun _ => OkRd.pure _
  exact (rd_list ok_numI (by omega) (fun x hx => rd_numI (hD x hx)) fun x _ => num_ge _).bind (Rd.pure _) fun _ => OkRd.pure _
theorem bk_bt : Bk btF (fun b E => E = batQ b) := by
  unfold btF
  refine (Bk.bind (Q := fun M (b : Bt) F => b.muts = M ∧ F = num b.add.length ++ b.add.flatMap notP ++ num b.drop.length ++ b.drop.flatMap fun d => num d.toNat) (bk_list bk_mut ok_mut) (ok_list ok_mut) fun M => ?_).mono fun c G hG => ?_
  · refine (Bk.bind (Q := fun A (b : Bt) F => b.muts = M ∧ b.add = A ∧ F = num b.drop.length ++ b.drop.flatMap fun d => num d.toNat) (bk_list bk_note ok_note) (ok_list ok_note) fun A => ?_).mono fun c G hG => ?_
    · refine (Bk.bind (Q := fun D (b : Bt) F => b = ⟨M, A, D⟩ ∧ F = []) (bk_list bk_numI ok_numI) (ok_list ok_numI) fun D => Bk.pure _).mono fun c G hG => ?_
      obtain ⟨D, E, F, rfl, ⟨rfl, rfl⟩, rfl⟩ := hG
      exact ⟨rfl, rfl, by rw [List.append_nil]⟩
    · obtain ⟨A, E, F, rfl, ⟨h1, rfl, rfl⟩, rfl⟩ := hG
      exact ⟨h1, by simp only [List.append_assoc]⟩
  · obtain ⟨M, E, F, rfl, ⟨rfl, rfl⟩, rfl⟩ := hG
    unfold batQ
    simp only [List.append_assoc]
theorem btR_put {B : List UInt8} {b : Bt} (h : cbQ b = true) (hB : B = batQ b) : btR B (0, 0) = (b, (B.length, 0)) := by
  have := (rd_bt h).fwd B 0 [] (Nat.zero_le _) (by rw [List.drop_zero, List.append_nil, hB])
  rw [btR_eq, this]
  simp only
  rw [endR_full _ _ (by rw [hB]; simp), Nat.zero_add, ← hB]
theorem btR_back {B : List UInt8} {s : Nat × Int} (hs : s.1 ≤ B.length) (h : (btR B s).2.2 = 0) : s.2 = 0 ∧ B.drop s.1 = batQ (btR B s).1 := by
  rw [btR_eq] at h ⊢
  simp only at h ⊢
  have hle := ok_bt.le B s hs
  unfold endR at h
  split at h
  · exact absurd h (failR_ne (by decide) _)
  · rename_i h1
    obtain ⟨a, E, rfl, c⟩ := bk_bt B s hs h
    refine ⟨a, ?_⟩
    rw [c, List.drop_eq_nil_of_le (show B.length ≤ (btF B s).2.1 by omega), List.append_nil]
theorem btR_stick {B : List UInt8} {s : Nat × Int} (h : s.2 ≠ 0) : (btR B s).2 = s := by
  rw [btR_eq]
  simp only
  rw [ok_bt.stick B s h]
  unfold endR failR
  rw [if_neg h]
  split <;> rfl
theorem gb_put {B : List UInt8} {b : Bt} (h : cbQ b = true) (hB : B = batQ b) (hl : B.length ≤ 262144) : gbErr B = 0 ∧ gbBt B = b := by
  have e : gB B = (b, (B.length, 0)) := by unfold gB; rw [if_pos hl]; exact btR_put h hB
  have e1 : gbErr B = 0 := by unfold gbErr; rw [e]; simp [h]
  exact ⟨e1, by unfold gbBt; rw [if_pos e1, e]⟩
theorem gb_back {B : List UInt8} (h : gbErr B = 0) : cbQ (gbBt B) = true ∧ batQ (gbBt B) = B ∧ B.length ≤ 262144 := by
  have hp : gbBt B = (gB B).1 := if_pos h
  unfold gbErr at h
  split at h
  · rename_i h1
    split at h
    · rename_i h2
      have hl : B.length ≤ 262144 := by
        by_cases h3 : B.length ≤ 262144
        · exact h3
        · exfalso
          unfold gB at h1
          rw [if_neg h3, btR_stick (by decide)] at h1
          cases h1
      rw [hp]
      have h5 := h1
      unfold gB at h5
      have := btR_back (B := B) (Nat.zero_le _) h5
      rw [List.drop_zero] at this
      exact ⟨h2, this.2.symm, hl⟩
    · cases h
  · rename_i h1
    exact absurd h h1
theorem gb_none {B : List UInt8} (h : gbErr B ≠ 0) : gbBt B = ⟨[], [], []⟩ := if_neg h
end Go.Proofs.YtfagnbofnaoncaaGreatDoor

/- Plain laws: messages: what is put is got; what is got is put as the same bytes. -/
namespace Go.Proofs.YtfagnbofnaoncaaGreatDoor
open Go Go.RowKit

/-- A partition within a text, as wire reads it. -/
def inV (t b : ByteArray) : Rdr Mq := fun _ s => if s.2 = 0 then (⟨t, (prtR b.data.toList (0, 0)).1⟩, failR (prtR b.data.toList (0, 0)).2.2 s) else (⟨t, ⟨⟨#[]⟩, 0, []⟩⟩, s)
def mutV : Rdr Mq := seqR txtR fun t => seqR txtR fun b => inV t b
theorem mutW_V {B : List UInt8} (h : B.length ≤ 262144) : mutW B = mutV B := by
  funext s
  have h1 := txtR_size B (txtR B s).2
  unfold mutW parW mutV seqR inV
  by_cases h0 : (txtR B (txtR B s).2).2.2 = 0
  · simp only [h0, if_true]
    unfold getR
    rw [if_pos (by rw [dat_size]; omega)]
  · simp only [h0, if_false]
theorem ok_inV (t b : ByteArray) : OkRd (inV t b) := by
  refine ⟨fun _ s h => ?_, fun _ s h => ?_, fun _ s h he => ?_⟩
  · unfold inV
    rw [if_neg h]
  · unfold inV
    split
    · simp only [failR_one]; exact h
    · exact h
  · unfold inV
    split
    · exact failR_er (prtR_er (Nat.zero_le _) (.inl rfl)) he
    · exact he
theorem ok_mutV : OkRd mutV := ok_txt.bind fun t => ok_txt.bind fun b => ok_inV t b
theorem rd_inV {t b : ByteArray} {x : Mq} (ht : x.table = t) (h : ptB x.pt.key x.pt.gone x.pt.rows = true) (hb : b.data.toList = wholeP x.pt.key x.pt.gone x.pt.rows) : Rd (inV t b) x [] := by
  refine ⟨fun _ i _ _ _ => ?_, fun _ _ T _ h hT => absurd (List.append_eq_nil_iff.1 h).2 hT⟩
  unfold inV
  simp only
  rw [prtR_put h hb, ← ht]
  rfl
theorem rd_mutV {x : Mq} (h : okMq x = true) : Rd mutV x (mutE x) := by
  unfold okMq at h
  simp only [Bool.and_eq_true] at h
  have hn := nameB_size h.1
  have hw := wholeP_le8 h.2
  have e : mutE x = txtE x.table ++ (txtE (str (wholeP x.pt.key x.pt.gone x.pt.rows)) ++ []) := by
    unfold mutE mutQ txtE
    simp only [List.append_assoc, List.append_nil, str_size, str_toList]
  rw [e]
  refine (rd_txt (by omega)).bind ?_ fun t => ok_txt.bind fun b => ok_inV t b
  exact (rd_txt (by rw [str_size]; omega)).bind (rd_inV rfl h.2 rfl) fun b => ok_inV _ b
theorem bk_inV (t b : ByteArray) : Bk (inV t b) (fun x E => E = [] ∧ x.table = t ∧ b.data.toList = wholeP x.pt.key x.pt.gone x.pt.rows) := fun B s hs h => by
  unfold inV at h ⊢
  by_cases h0 : s.2 = 0
  · rw [if_pos h0] at h ⊢
    simp only at h ⊢
    unfold failR at h
    rw [if_pos h0] at h
    simp only at h
    have := prtR_back (Nat.zero_le _) h
    rw [List.drop_zero] at this
    exact ⟨h0, [], ⟨rfl, trivial, this.2⟩, by rw [failR_one]; rfl⟩
  · rw [if_neg h0] at h
    exact absurd h h0
theorem bk_mutV : Bk mutV (fun x E => E = mutE x) := by
  unfold mutV
  refine (Bk.bind (Q := fun t (x : Mq) F => x.table = t ∧ F = txtE (str (wholeP x.pt.key x.pt.gone x.pt.rows))) bk_txt ok_txt fun t => (Bk.bind (Q := fun b (x : Mq) F => F = [] ∧ x.table = t ∧ b.data.toList = wholeP x.pt.key x.pt.gone x.pt.rows) bk_txt ok_txt fun b => bk_inV t b).mono fun x G hG => ?_).mono fun x G hG => ?_
  · obtain ⟨b, E, F, rfl, ⟨rfl, h1, h2⟩, rfl⟩ := hG
    refine ⟨h1, ?_⟩
    rw [← h2, str_back, List.append_nil]
  · obtain ⟨t, E, F, rfl, ⟨rfl, rfl⟩, rfl⟩ := hG
    unfold mutE mutQ txtE
    simp only [List.append_assoc, str_size, str_toList]

theorem msgR_F {B : List UInt8} (h : B.length ≤ 262144) : msgR B = msgG mutV B (0, 0) := by
  rw [msgR_G]
  unfold msgG listF
  simp only [seqR]
  rw [mutW_V h]
theorem ok_msg : OkRd (msgG mutV) := ok_num.bind fun _ => ok_num.bind fun _ => ok_num.bind fun _ => ok_num.bind fun _ => ok_num.bind fun _ => (ok_list ok_mutV).bind fun _ => (ok_list ok_txt).bind fun _ => OkRd.pure _
theorem msQ_parts {m : Mg} (h : msQ m = true) : (1 ≤ m.hd.kind ∧ m.hd.kind ≤ 8) ∧ (0 ≤ m.hd.from_ ∧ m.hd.from_ ≤ 4) ∧ (0 ≤ m.hd.to_ ∧ m.hd.to_ ≤ 4) ∧ (0 ≤ m.hd.id ∧ m.hd.id ≤ 1099511627776) ∧ (0 ≤ m.hd.num ∧ m.hd.num ≤ 1099511627776) ∧ m.muts.length ≤ 100 ∧ m.keys.length ≤ 40 ∧ (∀ k ∈ m.keys, k.size ≤ 100) ∧ ∀ x ∈ m.muts, okMq x = true := by
  unfold msQ inB at h
  simp only [Bool.and_eq_true, decide_eq_true_eq, Bool.not_eq_true', List.any_eq_false, Bool.not_eq_false'] at h
  obtain ⟨⟨⟨⟨⟨⟨⟨⟨h1, h2⟩, h3⟩, h4⟩, h5⟩, h6⟩, h7⟩, h8⟩, h9⟩ := h
  refine ⟨h1, h2, h3, h4, h5, h6, h7, fun k hk => ?_, fun x hx => ?_⟩
  · have := h8 k hk
    unfold longB at this
    simp at this
    omega
  · have := h9 x hx
    simpa using this
theorem rd_msg {m : Mg} (h : msQ m = true) : Rd (msgG mutV) m (msgE m) := by
  obtain ⟨h1, h2, h3, h4, h5, h6, h7, h8, h9⟩ := msQ_parts h
  obtain ⟨⟨a, b, c, d, e⟩, M, K⟩ := m
  simp only at h1 h2 h3 h4 h5 h6 h7 h8 h9
  obtain ⟨a, rfl⟩ : ∃ n : Nat, a = n := ⟨a.toNat, by omega⟩
  obtain ⟨b, rfl⟩ : ∃ n : Nat, b = n := ⟨b.toNat, by omega⟩
  obtain ⟨c, rfl⟩ : ∃ n : Nat, c = n := ⟨c.toNat, by omega⟩
  obtain ⟨d, rfl⟩ : ∃ n : Nat, d = n := ⟨d.toNat, by omega⟩
  obtain ⟨e, rfl⟩ : ∃ n : Nat, e = n := ⟨e.toNat, by omega⟩
  have eq : msgE ⟨⟨(a : Int), (b : Int), (c : Int), (d : Int), (e : Int)⟩, M, K⟩ = num a ++ (num b ++ (num c ++ (num d ++ (num e ++ ((num M.length ++ M.flatMap mutE) ++ ((num K.length ++ K.flatMap txtE) ++ [])))))) := by
    unfold msgE txtE
    simp only [Int.toNat_natCast, List.append_nil]
  rw [eq]
  unfold msgG
  refine (rd_num (by omega)).bind ?_ fun _ => ok_num.bind fun _ => ok_num.bind fun _ => ok_num.bind fun _ => ok_num.bind fun _ => (ok_list ok_mutV).bind fun _ => (ok_list ok_txt).bind fun _ => OkRd.pure _
  refine (rd_num (by omega)).bind ?_ fun _ => ok_num.bind fun _ => ok_num.bind fun _ => ok_num.bind fun _ => (ok_list ok_mutV).bind fun _ => (ok_list ok_txt).bind fun _ => OkRd.pure _
  refine (rd_num (by omega)).bind ?_ fun _ => ok_num.bind fun _ => ok_num.bind fun _ => (ok_list ok_mutV).bind fun _ => (ok_list ok_txt).bind fun _ => OkRd.pure _
  refine (rd_num (by omega)).bind ?_ fun _ => ok_num.bind fun _ => (ok_list ok_mutV).bind fun _ => (ok_list ok_txt).bind fun _ => OkRd.pure _
  refine (rd_num (by omega)).bind ?_ fun _ => (ok_list ok_mutV).bind fun _ => (ok_list ok_txt).bind fun _ => OkRd.pure _
  refine (rd_list ok_mutV (by omega) (fun x hx => rd_mutV (h9 x hx)) fun x _ => mutE_ge x).bind ?_ fun _ => (ok_list ok_txt).bind fun _ => OkRd.pure _
  exact (rd_list ok_txt (by omega) (fun x hx => rd_txt (by have := h8 x hx; omega)) fun x _ => by have := num_ge x.size; unfold txtE; simp only [List.length_append]; omega).bind (Rd.pure _) fun _ => OkRd.pure _
theorem bk_msg : Bk (msgG mutV) (fun m E => E = msgE m) := by
  unfold msgG
  refine Bk.mono (Bk.bind bk_num ok_num fun a => Bk.bind bk_num ok_num fun b => Bk.bind bk_num ok_num fun c => Bk.bind bk_num ok_num fun d => Bk.bind bk_num ok_num fun e => Bk.bind (bk_list bk_mutV ok_mutV) (ok_list ok_mutV) fun M => Bk.bind (bk_list bk_txt ok_txt) (ok_list ok_txt) fun K => Bk.pure _) ?_
  rintro m G ⟨a, _, _, ⟨rfl, _⟩, ⟨b, _, _, ⟨rfl, _⟩, ⟨c, _, _, ⟨rfl, _⟩, ⟨d, _, _, ⟨rfl, _⟩, ⟨e, _, _, ⟨rfl, _⟩, ⟨M, _, _, rfl, ⟨K, _, _, rfl, ⟨rfl, rfl⟩, rfl⟩, rfl⟩, rfl⟩, rfl⟩, rfl⟩, rfl⟩, rfl⟩
  unfold msgE txtE
  simp only [Int.toNat_natCast, List.append_nil]
theorem msgR_put {B : List UInt8} {m : Mg} (h : msQ m = true) (hB : B = msgE m) (hl : B.length ≤ 262144) : msgR B = (m, (B.length, 0)) := by
  have := (rd_msg h).fwd B 0 [] (Nat.zero_le _) (by rw [List.drop_zero, List.append_nil, hB])
  rw [msgR_F hl, this, Nat.zero_add, ← hB]
theorem gw_put {B : List UInt8} {m : Mg} (h : msQ m = true) (hB : B = msgE m) (hl : B.length ≤ 262144) : gwErr B = 0 ∧ gwMg B = m := by
  have e : gwR B = (m, (B.length, 0)) := by
    unfold gwR
    rw [msgR_put h hB hl]
    simp only
    rw [endR_full _ _ (Nat.le_refl _)]
  have e1 : gwErr B = 0 := by unfold gwErr; rw [e]; simp [h]
  exact ⟨e1, by unfold gwMg; rw [if_pos e1, e]⟩
theorem gw_more {m : Mg} (h : msQ m = true) {R : List UInt8} (hR : R ≠ []) (hl : (msgE m ++ R).length ≤ 262144) : gwErr (msgE m ++ R) = 6 := by
  have := (rd_msg h).fwd (msgE m ++ R) 0 R (Nat.zero_le _) (by rw [List.drop_zero])
  have hl2 : 0 < R.length := List.length_pos_iff.2 hR
  have e : (gwR (msgE m ++ R)).2.2 = 6 := by
    unfold gwR
    rw [msgR_F hl, this]
    simp only
    unfold endR
    rw [if_pos (by rw [List.length_append]; omega)]
    rfl
  unfold gwErr
  rw [e]; rfl
theorem gw_cut {m : Mg} (h : msQ m = true) (hl : (msgE m).length ≤ 262144) {j : Nat} (hj : j < (msgE m).length) : gwErr ((msgE m).take j) = 8 := by
  have := (rd_msg h).cut ((msgE m).take j) 0 ((msgE m).drop j) (Nat.zero_le _) (by rw [List.drop_zero, List.take_append_drop]) (by rw [ne_eq, List.drop_eq_nil_iff]; omega)
  have e : (gwR ((msgE m).take j)).2.2 = 8 := by
    unfold gwR
    rw [msgR_F (by rw [List.length_take]; omega)]
    simp only
    unfold endR failR
    split
    · rw [if_neg (by rw [this]; decide)]; exact this
    · exact this
  unfold gwErr
  rw [e]; rfl
theorem gw_back {B : List UInt8} (hl : B.length ≤ 262144) (h : gwErr B = 0) : msQ (gwMg B) = true ∧ msgE (gwMg B) = B := by
  have hp : gwMg B = (gwR B).1 := if_pos h
  unfold gwErr at h
  split at h
  · rename_i h1
    split at h
    · rename_i h2
      rw [hp]
      refine ⟨h2, ?_⟩
      unfold gwR at h1 ⊢
      simp only at h1 ⊢
      rw [msgR_F hl] at h1 ⊢
      have hle := ok_msg.le B (0, 0) (Nat.zero_le _)
      unfold endR at h1
      split at h1
      · exact absurd h1 (failR_ne (by decide) _)
      · rename_i h3
        obtain ⟨_, E, rfl, c⟩ := bk_msg B (0, 0) (Nat.zero_le _) h1
        rw [List.drop_zero] at c
        rw [List.drop_eq_nil_of_le (show B.length ≤ (msgG mutV B (0, 0)).2.1 by omega), List.append_nil] at c
        exact c.symm
    · cases h
  · rename_i h1
    exact absurd h h1
end Go.Proofs.YtfagnbofnaoncaaGreatDoor

/- Plain laws: what wire.Get makes of what wire.Put answers, and back. -/
namespace Go.Proofs.YtfagnbofnaoncaaGreatDoor
open Go Go.RowKit

theorem str_appW (a b : List UInt8) : str a ++ str b = str (a ++ b) := by
  apply ByteArray.ext
  simp only [ByteArray.data_append, str]
  apply Array.toList_inj.1
  simp
theorem gx_none {S : ByteArray} (h : gxErr S ≠ 0) : gxMg S = mg0 := by
  unfold gxErr at h
  unfold gxMg
  split
  · rename_i hl
    rw [if_pos hl] at h
    exact gw_none h
  · rfl
theorem gx_back {S : ByteArray} (h : gxErr S = 0) : msQ (gxMg S) = true ∧ msgE (gxMg S) = S.data.toList ∧ S.size ≤ 4096 := by
  unfold gxErr at h
  unfold gxMg
  split at h
  · rename_i hl
    rw [if_pos hl]
    have h2 := gw_back (B := S.data.toList) (by rw [dat_size]; omega) h
    exact ⟨h2.1, h2.2, hl⟩
  · cases h
theorem putQ_ok {m : Mg} (h : (putQ m).2 = 0) : msQ m = true ∧ (msgE m).length ≤ 4096 ∧ (putQ m).1 = str (msgE m) := by
  unfold putQ at h ⊢
  split at h
  · rename_i h1
    split at h
    · rename_i h2
      exact ⟨h1, h2, by rw [h1, if_pos rfl, if_pos h2]⟩
    · cases h
  · cases h
theorem gx_put {m : Mg} (h : (putQ m).2 = 0) : gxErr (putQ m).1 = 0 ∧ gxMg (putQ m).1 = m := by
  obtain ⟨h1, h2, h3⟩ := putQ_ok h
  have h4 := gw_put (B := msgE m) h1 rfl (by omega)
  rw [h3]
  unfold gxErr gxMg
  rw [str_size, if_pos h2, if_pos h2, str_toList]
  exact h4
theorem gx_more {m : Mg} (h : (putQ m).2 = 0) : gxErr ((putQ m).1 ++ ⟨#[0]⟩) = 6 ∨ (gxErr ((putQ m).1 ++ ⟨#[0]⟩) = 2 ∧ 4096 ≤ (putQ m).1.size) := by
  obtain ⟨h1, h2, h3⟩ := putQ_ok h
  have e : str (msgE m) ++ ⟨#[0]⟩ = str (msgE m ++ [0]) := by rw [show (⟨#[0]⟩ : ByteArray) = str [0] from rfl, str_appW]
  rw [h3, e]
  unfold gxErr
  rw [str_size, str_size, str_toList]
  by_cases hl : (msgE m ++ [0]).length ≤ 4096
  · rw [if_pos hl]
    exact .inl (gw_more h1 (by simp) (by omega))
  · rw [if_neg hl]
    exact .inr ⟨rfl, by rw [List.length_append] at hl; simp at hl; omega⟩
theorem gx_cut {m : Mg} (h : (putQ m).2 = 0) {j : Nat} (hj : j < (putQ m).1.size) : gxErr (str ((msgE m).take j)) = 8 := by
  obtain ⟨h1, h2, h3⟩ := putQ_ok h
  rw [h3, str_size] at hj
  unfold gxErr
  rw [str_size, str_toList, if_pos (by rw [List.length_take]; omega)]
  exact gw_cut h1 (by omega) hj
theorem putQ_back {S : ByteArray} (h : gxErr S = 0) : putQ (gxMg S) = (S, 0) := by
  obtain ⟨h1, h2, h3⟩ := gx_back h
  unfold putQ
  rw [h1, h2, if_pos rfl, if_pos (by rw [dat_size]; exact h3)]
  rfl
theorem whole_le {m : Mg} {x : Mq} (hx : x ∈ m.muts) : (wholeP x.pt.key x.pt.gone x.pt.rows).length ≤ (msgE m).length := by
  obtain ⟨l1, l2, e⟩ := List.append_of_mem hx
  unfold msgE
  rw [e]
  simp only [List.flatMap_append, List.flatMap_cons, List.length_append]
  unfold mutE mutQ
  simp only [List.length_append]
  omega
theorem str_data_self (s : ByteArray) : str s.data.toList = s := rfl
end Go.Proofs.YtfagnbofnaoncaaGreatDoor

/- Plain laws: the reference's reader of messages answers as wire's. -/
namespace Go.Proofs.YtfagnbofnaoncaaGreatDoor
open Go Go.RowKit

/-- Two readers go on alike, and read the same where nothing is wrong. -/
def Agree {α : Type} (f g : Nat × Int → α × (Nat × Int)) : Prop := ∀ s, (f s).2 = (g s).2 ∧ ((f s).2.2 = 0 → (f s).1 = (g s).1)
theorem agree_many {α : Type} {f g : Nat × Int → α × (Nat × Int)} (h : Agree f g) (hs : ∀ s, s.2 ≠ 0 → (f s).2 = s) : ∀ n, Agree (manyR f n) (manyR g n)
  | 0, _ => ⟨rfl, fun _ => rfl⟩
  | n + 1, s => by
    unfold manyR
    by_cases h0 : s.2 = 0
    · rw [if_pos h0, if_pos h0]
      obtain ⟨h1, h2⟩ := h s
      obtain ⟨h3, h4⟩ := agree_many h hs n (f s).2
      rw [← h1]
      refine ⟨h3, fun h5 => ?_⟩
      simp only at h5 ⊢
      have h6 : (f s).2.2 = 0 := by
        by_cases h6 : (f s).2.2 = 0
        · exact h6
        · rw [manyR_stop f n (f s).2 (.inr h6)] at h5
          exact absurd h5 h6
      rw [h2 h6, h4 h5]
    · rw [if_neg h0, if_neg h0]
      exact ⟨rfl, fun _ => rfl⟩
theorem agree_mut (B : List UInt8) : Agree (mutR B) (mutV B) := by
  intro s
  unfold mutR mutV seqR inV
  simp only
  by_cases h0 : (txtR B (txtR B s).2).2.2 = 0
  · rw [if_pos h0, h0]
    exact ⟨rfl, fun _ => rfl⟩
  · rw [if_neg h0]
    rw [failR_stick h0]
    exact ⟨rfl, fun h => absurd h h0⟩
theorem agree_list (B : List UInt8) (s : Nat × Int) : (listR B (mutR B) s).2 = (listR B (mutV B) s).2 ∧ ((listR B (mutR B) s).2.2 = 0 → (listR B (mutR B) s).1 = (listR B (mutV B) s).1) :=
  agree_many (agree_mut B) (fun s h => ok_mut.stick B s h) _ _
theorem msg_agree (B : List UInt8) : (msgG mutR B (0, 0)).2 = (msgG mutV B (0, 0)).2 ∧ ((msgG mutR B (0, 0)).2.2 = 0 → (msgG mutR B (0, 0)).1 = (msgG mutV B (0, 0)).1) := by
  unfold msgG
  simp only [seqR, pureR, listF]
  generalize (numR B (numR B (numR B (numR B (numR B (0, 0)).2).2).2).2).2 = s
  obtain ⟨h1, h2⟩ := agree_list B s
  rw [← h1]
  refine ⟨rfl, fun h => ?_⟩
  have h3 : (listR B (mutR B) s).2.2 = 0 := by
    by_cases h3 : (listR B (mutR B) s).2.2 = 0
    · exact h3
    · have := (ok_list ok_txt).stick B (listR B (mutR B) s).2 h3
      unfold listF at this
      rw [this] at h
      exact absurd h h3
  rw [h2 h3]
/-- What the reference's Get answers. -/
def grR (B : List UInt8) : Mg × (Nat × Int) := ((msgG mutR B (0, 0)).1, endR B (msgG mutR B (0, 0)).2)
def grErr (B : List UInt8) : Int := if (grR B).2.2 = 0 then (if msQ (grR B).1 then 0 else 1) else (grR B).2.2
def grMg (B : List UInt8) : Mg := if grErr B = 0 then (grR B).1 else mg0
theorem gr_none {B : List UInt8} (h : grErr B ≠ 0) : grMg B = mg0 := if_neg h
def errF (G : Mg × (Nat × Int)) : Int := if G.2.2 = 0 then (if msQ G.1 then 0 else 1) else G.2.2
def mgF (G : Mg × (Nat × Int)) : Mg := if errF G = 0 then G.1 else mg0
theorem errF_same (G W : Mg × (Nat × Int)) (h2 : G.2 = W.2) (h1 : G.2.2 = 0 → G.1 = W.1) : errF G = errF W ∧ mgF G = mgF W := by
  by_cases h : G.2.2 = 0
  · have : G = W := Prod.ext (h1 h) h2
    rw [this]
    exact ⟨rfl, rfl⟩
  · have hw : ¬ W.2.2 = 0 := by rw [← h2]; exact h
    have e1 : errF G = G.2.2 := if_neg h
    have e2 : errF W = W.2.2 := if_neg hw
    refine ⟨by rw [e1, e2, h2], ?_⟩
    have m1 : mgF G = mg0 := if_neg (by rw [e1]; exact h)
    have m2 : mgF W = mg0 := if_neg (by rw [e2]; exact hw)
    rw [m1, m2]
theorem gr_state {B : List UInt8} (hl : B.length ≤ 262144) : (grR B).2 = (gwR B).2 := by
  have h1 := (msg_agree B).1
  unfold grR gwR
  simp only
  rw [msgR_F hl, h1]
theorem gr_val {B : List UInt8} (hl : B.length ≤ 262144) (h : (endR B (msgG mutR B (0, 0)).2).2 = 0) : (grR B).1 = (gwR B).1 := by
  have h2 := (msg_agree B).2
  unfold grR gwR
  simp only
  rw [msgR_F hl]
  apply h2
  obtain ⟨s, hs⟩ : ∃ s, s = (msgG mutR B (0, 0)).2 := ⟨_, rfl⟩
  rw [← hs] at h ⊢
  unfold endR at h
  split at h
  · exact absurd h (failR_ne (by decide) _)
  · exact h
theorem gr_same {B : List UInt8} (hl : B.length ≤ 262144) : grErr B = gwErr B ∧ grMg B = gwMg B :=
  errF_same (grR B) (gwR B) (gr_state hl) (fun h => gr_val hl h)
theorem msgRr_low (B : List UInt8) : (∀ x ∈ (msgG mutR B (0, 0)).1.muts, x.table.size ≤ B.length ∧ ∀ r ∈ x.pt.rows, ∀ c ∈ r.cols, c.name.size ≤ B.length) ∧ ∀ k ∈ (msgG mutR B (0, 0)).1.keys, k.size ≤ B.length := by
  unfold msgG
  simp only [seqR, pureR, listF]
  generalize (numR B _).2 = s
  exact ⟨manyR_all (P := fun x : Mq => x.table.size ≤ B.length ∧ ∀ r ∈ x.pt.rows, ∀ c ∈ r.cols, c.name.size ≤ B.length) (one := mutR B) (fun s => mutR_low B s) _ _, manyR_all (P := fun k : ByteArray => k.size ≤ B.length) (one := txtR B) (fun s => txtR_size B s) _ _⟩
end Go.Proofs.YtfagnbofnaoncaaGreatDoor
