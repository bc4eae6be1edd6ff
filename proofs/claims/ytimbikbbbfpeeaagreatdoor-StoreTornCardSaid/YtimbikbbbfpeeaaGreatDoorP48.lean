/- One note added: a batch of one note; a store that such batches made. -/
import Derived.Test.YtimbikbbbfpeeaaGreatDoorP47
set_option linter.unusedSimpArgs false
set_option linter.unusedVariables false
namespace Go.Proofs.YtimbikbbbfpeeaaGreatDoor
open Go Go.RowKit
attribute [local go_sem] yields yUpon

theorem fput_end {n : Int} {b : List UInt8} : ∀ {F : Fl} (_ : ∀ q ∈ F, q.1 < n), fput n b F = F ++ [(n, b)]
  | [], _ => rfl
  | p :: l, h => by
    rw [fput, if_pos (h p (by simp)), fput_end (fun q hq => h q (by simp [hq]))]; rfl
theorem fhas_end {n : Int} {F : Fl} (h : ∀ q ∈ F, q.1 < n) : fhas n F = false := by
  unfold fhas
  rw [List.any_eq_false]
  intro q hq
  have := h q hq
  simp; omega
def nB (n : Int) (x : ByteArray) : Bt := ⟨[], [⟨n, x⟩], []⟩
theorem nB_cb {n : Int} {x : ByteArray} (h1 : 1 ≤ n) (h2 : n ≤ 1099511627776) (hx : x.size ≤ 4096) : cbQ (nB n x) = true := by
  unfold cbQ nB okNt idB
  simp [h1, h2, hx]
theorem nB_len {n : Int} {x : ByteArray} (h2 : n ≤ 1099511627776) (hx : x.size ≤ 10) : (batQ (nB n x)).length ≤ 40 := by
  have h3 := nlen_le n.toNat (by omega)
  have h4 := nlen_le x.size (by omega)
  have h5 := ba_len x
  have e : batQ (nB n x) = num 0 ++ num 1 ++ (num n.toNat ++ num x.size ++ x.data.toList) ++ num 0 := by simp [batQ, nB, notP]
  rw [e]
  simp only [List.length_append, num_len, ← h5]
  have h0 : nlen 0 = 0 := by decide
  have h1 : nlen 1 = 1 := by decide
  omega
theorem nB_fits {s : Sq} {n : Int} {x : ByteArray} (h1 : 1 ≤ n) (h2 : n ≤ 1099511627776) (hx : x.size ≤ 10) (hN : ∀ q ∈ s.N, q.1 < n) (hl : s.N.length < 300) : stFits s (nB n x) = true := by
  have hd : fdels s.N [] = s.N := rfl
  have hlen := ba_len x
  unfold stFits
  rw [nB_cb h1 h2 (by omega)]
  show (true && (mutsQ s.ts []).1 && fitsB s.N [(n, x.data.toList)] []) = true
  have hm : (mutsQ s.ts []).1 = true := rfl
  rw [hm]
  unfold fitsB
  rw [hd]
  simp only [fadds, Bool.and_true, Bool.true_and]
  unfold addB
  rw [fhas_end hN, ← hlen]
  simp only [Bool.not_false, Bool.true_and, Bool.not_eq_true', Bool.or_eq_false_iff, decide_eq_false_iff_not]
  omega
theorem nB_put {s : Sq} {n : Int} {x : ByteArray} (hN : ∀ q ∈ s.N, q.1 < n) : stPut s (nB n x) = ⟨s.ts, s.N ++ [(n, x.data.toList)]⟩ := by
  show Sq.mk (mutsQ s.ts []).2 (stAdds s.N [(n, x.data.toList)]) = _
  unfold stAdds
  simp only [List.foldl_cons, List.foldl_nil, fput_end hN]
  rfl
/-- A store that batches made: n of them, these notes, no tables; its log is short. -/
def JSt (W0 w : World) (s : Sto) (C n : Nat) (N : Fl) (z : Nat) : Prop := ∃ lg ts bs, StoAt W0 w C { s with log := lg, ts := ts, N := N } ∧ LogOk { s with log := lg, ts := ts, N := N } bs ∧ bs.length = n ∧ ts = [] ∧ lg.size ≤ z
theorem JSt.ext {W0 w w' : World} {s : Sto} {C n : Nat} {N : Fl} {z : Nat} (h : JSt W0 w s C n N z) (hE : Ext w w') : JSt W0 w' s C n N z := by
  obtain ⟨lg, ts, bs, h1, h2⟩ := h
  exact ⟨lg, ts, bs, h1.ext hE, h2⟩
theorem JSt.step {W0 w : World} {s : Sto} {C n : Nat} {N : Fl} {z : Nat} (h : JSt W0 w s C n N z) (hC : C + 512 ≤ 400000) (hz : z ≤ 200000) (id : Int) (x : ByteArray) (h1 : 1 ≤ id) (h2 : id ≤ 1099511627776) (hx : x.size ≤ 10) (hN : ∀ q ∈ N, q.1 < id) (hl : N.length < 300)
    (b : Nat) (hb : BoxAt w b #[.int .i64 id, .string x] 32) :
    Calls Tryz.prog 12 #[.pointer (some ⟨s.ps, 0, none⟩), .agg #[.slice none 0 0, .slice (some ⟨b, 0, none⟩) 1 1, .slice none 0 0]] w fun e w' => e = .returned (.int .i64 0) ∧ JSt W0 w' s (C + 512) (n + 1) (N ++ [(id, x.data.toList)]) (z + 300) := by
  obtain ⟨lg, ts, bs, hS, hL, hn, rfl, hlz⟩ := h
  obtain ⟨S, hSd⟩ : ∃ S, S = ({ s with log := lg, ts := [], N := N } : Sto) := ⟨_, rfl⟩
  have hSlog : S.log = lg := by rw [hSd]
  have hSN : S.N = N := by rw [hSd]
  have hSq : S.q = ⟨[], N⟩ := by rw [hSd]; rfl
  have hSps : S.ps = s.ps := by rw [hSd]
  rw [← hSd] at hS hL
  have hg : Got w (.slice none 0 0) (.slice (some ⟨b, 0, none⟩) 1 1) (.slice none 0 0) [] [⟨id, x⟩] [] :=
    ⟨TIn.nil w _, nofun, TIn.box (xs := [Nt.mk id x].flatMap Nt.cells) hb (by unfold maxLen; decide), TIn.nil w _⟩
  have e0 : (⟨([] : List Mt).map Mt.q, [⟨id, x⟩], []⟩ : Bt) = nB id x := rfl
  have hbl := nB_len (x := x) h2 hx
  have hsl : (sput false S.log.size (batQ (nB id x))).length ≤ 300 := by
    rw [sput_lenS]
    have := lenS_le _ S.log.size (batQ (nB id x)).length (Nat.le_refl _)
    omega
  have hcb := nB_cb (x := x) h1 h2 (by omega)
  have hfit : stFits S.q (nB id x) = true := nB_fits h1 h2 hx (by rw [hSq]; exact hN) (by rw [hSq]; exact hl)
  rw [← hSps]
  refine (apply_any W0 w C S hS _ _ _ [] [⟨id, x⟩] [] hg hC (by rw [e0]; exact hcb) (batQ (nB id x)) rfl (by rw [hSlog] at hsl ⊢; omega)).mono ?_
  rw [e0, hfit]
  rintro e w' (⟨_, rfl, ts, N', hS', hp, _⟩ | ⟨h0, _⟩)
  · have hp2 := hp
    rw [nB_put (by rw [hSq]; exact hN), hSq] at hp2
    have q1 : ts.map Tb.q = [] := congrArg Sq.ts hp2
    have q2 : N' = N ++ [(id, x.data.toList)] := congrArg Sq.N hp2
    obtain rfl : ts = [] := by simpa using q1
    subst q2
    refine ⟨rfl, S.log ++ str (sput false S.log.size (batQ (nB id x))), [], bs ++ [batQ (nB id x)], ?_, ?_, by simp [hn], rfl, ?_⟩
    · rw [hSd] at hS' ⊢; exact hS'
    · have := hL.app (s' := { S with log := S.log ++ str (sput false S.log.size (batQ (nB id x))), ts := [], N := N ++ [(id, x.data.toList)] }) hcb rfl (by omega) hfit rfl hp
      rw [hSd] at this ⊢; exact this
    · rw [hSlog] at hsl ⊢
      rw [ByteArray.size_append, str_size]
      omega
  · cases h0
end Go.Proofs.YtimbikbbbfpeeaaGreatDoor

/- StoreTorn: plain law: what is read of a log with junk behind it. -/
namespace Go.Proofs.YtimbikbbbfpeeaaGreatDoor
open Go Go.RowKit

theorem puts_many : ∀ (l : List (List UInt8)) (n : Nat), 6 * l.length ≤ (puts n l).length
  | [], _ => by simp
  | b :: l, n => by
    have h1 := puts_many l (n + (sput false n b).length)
    have h2 := sput_pos false n b
    simp only [puts, List.length_append, List.length_cons]
    omega
theorem scan_few (l : List UInt8) : 6 * (scan l 0).1.length ≤ l.length := by
  have h := (scan_cut (log := l) (k := (scan l 0).1.length) (Nat.le_refl _)).1
  rw [List.take_length] at h
  have := puts_many (scan l 0).1 0
  omega
/-- What is read again: all of it, and perhaps more. -/
theorem torn_re {lg jk : ByteArray} {bs : List (List UInt8)} {Q : Sq} (hb : lg.data.toList = puts 0 bs) (hg : goes stOk stNext ⟨[], []⟩ bs = (Q, bs)) :
    ∃ L : ByteArray, (lg ++ jk).extract 0 (puts 0 (stRe ⟨[], []⟩ (lg ++ jk).data.toList).2).length = L ∧ lg.size ≤ L.size ∧ L.size ≤ (lg ++ jk).size ∧ L.extract 0 lg.size = lg ∧ (L.size = lg.size → (stRe ⟨[], []⟩ (lg ++ jk).data.toList).1 = Q ∧ L = lg) := by
  have hd : (lg ++ jk).data.toList = puts 0 bs ++ jk.data.toList := by rw [← hb]; simp
  have hsc := scan_puts (lg ++ jk).data.toList bs 0 jk.data.toList (by rw [List.drop_zero]; exact hd)
  rw [Nat.zero_add] at hsc
  obtain ⟨more, hm⟩ : ∃ m, m = (scan (lg ++ jk).data.toList (puts 0 bs).length).1 := ⟨_, rfl⟩
  have hs1 : (scan (lg ++ jk).data.toList 0).1 = bs ++ more := by rw [hsc, hm]
  obtain ⟨R, hR⟩ : ∃ R, R = goes stOk stNext Q more := ⟨_, rfl⟩
  have hre : stRe ⟨[], []⟩ (lg ++ jk).data.toList = (R.1, bs ++ R.2) := by
    unfold stRe stReplay
    rw [hs1, goes_append _ _ _ (by rw [hg]), hg, hR]
  obtain ⟨rest, hrest⟩ := goes_pre (ok := stOk) (next := stNext) Q more
  rw [← hR] at hrest
  have hk : bs ++ R.2 = (scan (lg ++ jk).data.toList 0).1.take (bs ++ R.2).length := by
    rw [hs1, ← hrest, ← List.append_assoc, List.take_left]
  have hcut := scan_cut (log := (lg ++ jk).data.toList) (k := (bs ++ R.2).length) (by rw [hs1, ← hrest]; simp only [List.length_append]; omega)
  rw [← hk] at hcut
  have hz : (puts 0 bs).length = lg.size := by rw [← hb, ← ba_len]
  have happ : puts 0 (bs ++ R.2) = lg.data.toList ++ puts lg.size R.2 := by rw [puts_append, Nat.zero_add, hz, hb]
  obtain ⟨L, hL⟩ : ∃ L, L = (lg ++ jk).extract 0 (puts 0 (bs ++ R.2)).length := ⟨_, rfl⟩
  have hLd : L.data.toList = lg.data.toList ++ puts lg.size R.2 := by
    rw [hL, ByteArray.data_extract, Array.toList_extract, List.extract_eq_take_drop, List.drop_zero, Nat.sub_zero, hcut.2, happ]
  have hLs : L.size = lg.size + (puts lg.size R.2).length := by rw [ba_len, hLd, List.length_append, ← ba_len]
  refine ⟨L, by rw [hre, hL], by omega, ?_, ?_, fun he => ?_⟩
  · rw [ba_len (lg ++ jk)]
    have := hcut.1
    rw [happ, List.length_append, ← ba_len] at this
    omega
  · apply ba_ext
    rw [ByteArray.data_extract, Array.toList_extract, List.extract_eq_take_drop, List.drop_zero, Nat.sub_zero, hLd, ba_len lg, List.take_left]
  · have h0 : R.2 = [] := by
      have := puts_many R.2 lg.size
      exact List.eq_nil_of_length_eq_zero (by omega)
    refine ⟨?_, ba_ext (by rw [hLd, h0]; simp [puts])⟩
    rw [hre]
    have hmore : more = [] ∨ ∃ x r, more = x :: r ∧ stOk Q x = false := by
      cases more with
      | nil => exact .inl rfl
      | cons x r =>
        refine .inr ⟨x, r, rfl, ?_⟩
        cases hx : stOk Q x
        · rfl
        · rw [hR] at h0; simp [goes, hx] at h0
    rcases hmore with rfl | ⟨x, r, rfl, hx⟩
    · rw [hR]; rfl
    · rw [hR]; simp [goes, hx]
end Go.Proofs.YtimbikbbbfpeeaaGreatDoor

/- clerestorylaw12.awake. -/
namespace Go.Proofs.YtimbikbbbfpeeaaGreatDoor
open Go Go.RowKit
attribute [local go_sem] yields yUpon

def bT : ByteArray := ⟨#[116]⟩
def bA : ByteArray := ⟨#[97]⟩
def pA : Pt := ⟨bA, 5, []⟩
def abt : Bt := ⟨[⟨bT, pA⟩], [], []⟩
theorem nameT : nameB bT = true := by decide
theorem abt_cb : cbQ abt = true := by
  unfold cbQ abt okMq
  simp only [List.all_cons, List.all_nil, nameT, Bool.and_true, Bool.true_and]
  decide
theorem abt_join : joinP none pA = pA := by
  have h : mergeRo [] [] = [] := mergeG_nil_right ..
  simp only [joinP, pA, Option.map_none, Option.getD_none, h]
  rfl
theorem abt_mut : mutQ1 [] ⟨bT, pA⟩ = (true, [⟨bT, [pA], [bA]⟩]) := by
  have h0 : tabQ [] bT = ⟨bT, [], []⟩ := rfl
  have h1 : joinB ⟨bT, [], []⟩ pA = true := by
    unfold joinB
    rw [show kfind Pt.key pA.key ([] : List Pt) = none from rfl, abt_join]
    rfl
  unfold mutQ1
  rw [if_neg (by simp), h0, h1]
  simp only [joinT, h1, if_true, show kfind Pt.key pA.key ([] : List Pt) = none from rfl, abt_join]
  rfl
theorem abt_muts : mutsQ [] [⟨bT, pA⟩] = (true, [⟨bT, [pA], [bA]⟩]) := by
  simp only [mutsQ, abt_mut, if_true]
theorem abt_fits : stFits ⟨[], []⟩ abt = true := by
  unfold stFits
  rw [abt_cb]
  show (true && (mutsQ [] [⟨bT, pA⟩]).1 && _) = true
  rw [abt_muts]
  rfl
theorem abt_put : stPut ⟨[], []⟩ abt = ⟨[⟨bT, [pA], [bA]⟩], []⟩ := by
  unfold stPut
  show Sq.mk (mutsQ [] [⟨bT, pA⟩]).2 _ = _
  rw [abt_muts]
  rfl
theorem abt_len : (batQ abt).length ≤ 100 := by decide
def mA0 : Mt := ⟨bT, ⟨bA, 5, .slice none 0 0, []⟩⟩
theorem sput_abt (n : Nat) : (sput false n (batQ abt)).length ≤ 2812 := by
  have h := lenS_le _ n (batQ abt).length (Nat.le_refl _)
  have h2 := abt_len
  rw [sput_lenS]
  omega
theorem aw_apply (W0 w : World) (s : Sto) (h : StoAt W0 w 0 s) (hl : s.log = ⟨#[]⟩) (hq : s.q = ⟨[], []⟩) (b : Nat) (hb : BoxAt w b (mt4 mA0) 54) :
    Calls Tryz.prog 12 #[.pointer (some ⟨s.ps, 0, none⟩), .agg #[.slice (some ⟨b, 0, none⟩) 1 1, .slice none 0 0, .slice none 0 0]] w fun e w' => e = .returned (.int .i64 0) ∧ ∃ lg ts N, StoAt W0 w' 512 { s with log := lg, ts := ts, N := N } ∧ LogOk { s with log := lg, ts := ts, N := N } [batQ abt] ∧ Sto.q { s with log := lg, ts := ts, N := N } = ⟨[⟨bT, [pA], [bA]⟩], []⟩ := by
  have hg : Got w (.slice (some ⟨b, 0, none⟩) 1 1) (.slice none 0 0) (.slice none 0 0) [mA0] [] [] :=
    ⟨TIn.box (xs := mtCells [mA0]) hb (by unfold maxLen; decide), fun m hm => by rw [List.mem_singleton.1 hm]; exact RowsT.nil w, TIn.nil w _, TIn.nil w _⟩
  have e0 : (⟨[mA0].map Mt.q, [], []⟩ : Bt) = abt := rfl
  have hz : s.log.size = 0 := by rw [hl]; rfl
  refine (apply_any W0 w 0 s h _ _ _ [mA0] [] [] hg (by decide) (by rw [e0]; exact abt_cb) (batQ abt) rfl (by have := sput_abt s.log.size; omega)).mono ?_
  rw [e0, hq, abt_fits, abt_put]
  rintro e w' (⟨_, rfl, ts, N, hS, hp, _⟩ | ⟨h0, _⟩)
  · refine ⟨rfl, _, ts, N, hS, ?_, hp⟩
    exact (LogOk.nil hl hq).app (b := abt) abt_cb rfl (by have := abt_len; omega) (by rw [hq]; exact abt_fits) rfl (by rw [hq, abt_put]; exact hp)
  · cases h0
theorem aw_look {s : Sto} (hq : s.q = ⟨[⟨bT, [pA], [bA]⟩], []⟩) : s.ts.length = 1 ∧ ∃ t p, kfind Tb.name bT s.ts = some t ∧ kfind Pa.key bA t.parts = some p ∧ p.gone = 5 := by
  have h1 : s.ts.map Tb.q = [⟨bT, [pA], [bA]⟩] := congrArg Sq.ts hq
  obtain ⟨t, ht, hx⟩ := List.map_eq_singleton_iff.1 h1
  have hn : t.name = bT := congrArg Tq.name hx
  have hp : t.parts.map Pa.q = [pA] := congrArg Tq.parts hx
  obtain ⟨p, hpp, hy⟩ := List.map_eq_singleton_iff.1 hp
  have hk : p.key = bA := congrArg Pt.key hy
  refine ⟨by rw [ht]; rfl, t, p, ?_, ?_, congrArg Pt.gone hy⟩
  · rw [ht, kfind_cons, if_pos hn]
  · rw [hpp, kfind_cons, if_pos hk]
theorem fd_gone (k : ByteArray) (g : Int) (v : Value) (w : World) : (Instr.field 52 (.agg #[.string k, .int .i64 g, v]) 1).run Tryz.prog w = .ok (.int .i64 g) w := by kernel_rfl
set_option maxRecDepth 100000 in
set_option maxHeartbeats 4000000 in
theorem awake12_any (w : World) (hT : TabU w) : Calls Tryz.prog 8 #[] w fun e w' => e = .returned (.bool true) ∧ Ext w w' := by
  have hfd := fd_gone
  go_enter Tryz.func8, Tryz.ntmps8
  go_wp2_with (first
    | (go_at_call 9; go_must (refine (sh_new w).mono ?_); rintro e w1 ⟨rfl, hw1⟩; have hs1 := sh_made w; rw [← hw1] at hs1; have hE1 : Ext w w1 := (by rw [hw1]; exact ((Ext.refl w).alloc _).alloc _); clear hw1)
    | (go_at_call 10; have hz := hSz; go_must (refine (open_puts w w5 hT hE5 (w.heap.size + 1) w.heap.size lg lg.size 1 ⟨by omega, by omega⟩ hs5 [batQ abt] _ hL.log hL.go rfl (by decide)).mono ?_); rintro e w6 ⟨s6, rfl, hS6, _, _, _, _, _, _, hq6, _⟩; obtain ⟨hl6, t6, p6, k1, k2, k3⟩ := aw_look (hq6.trans hq3))
    | (go_at_call 10; go_must (refine (open_puts w w1 hT hE1 (w.heap.size + 1) w.heap.size ⟨#[]⟩ 0 0 ⟨by omega, by omega⟩ hs1 [] ⟨[], []⟩ rfl rfl rfl (by decide)).mono ?_); rintro e w2 ⟨s, rfl, hS, hpd, hmf, hlog, hgood, hF, hman, hq, hTu⟩)
    | (go_at_call 12; go_must (refine (aw_apply w _ s (hS.ext ((Ext.refl _).alloc _)) hlog hq w2.heap.size (BoxAt.made w2 (mt4 mA0) 54)).mono ?_); rintro e w3 ⟨rfl, lg, ts, N, hS3, hL, hq3⟩)
    | (go_at_call 15; go_must (refine (stsync_any w w3 512 _ hS3).mono ?_); rintro e w4 ⟨⟨rfl, _⟩, hS4⟩; have hSz : ShelfAt w4 s.pd s.mf lg lg.size s.F s.man := hS4.shelf; rw [hpd, hmf, hF, hman] at hSz)
    | (go_at_call 16; go_must (refine (sh_crash 0 (by decide) (by decide) w4 hSz).mono ?_); rintro e w5 ⟨⟨rfl, ht5⟩, hs5⟩; rw [(crash_all 0 lg lg.size rfl).2, (crash_all 0 lg lg.size rfl).1] at hs5; have hE5 : Ext w w5 := ht5.ext hS4.base (by simp))
    | (go_at_call 26; go_must (refine (get_some w w6 _ s6 hS6 (by decide) bT bA (by decide) (by decide) t6 k1 p6 k2).mono ?_); rintro e w7 ⟨v7, qs7, rfl, hE7, _⟩; rw [k3])
    | (go_at_call 23; go_must (refine (tables_any w w7 _ s6 (hS6.ext hE7)).mono ?_); rintro e w8 ⟨v8, ⟨rfl, hE8⟩, hv8⟩; obtain ⟨a8, c8, rfl, _⟩ := hv8; simp only [skeys, List.length_map, hl6]))
  go_ret
  exact ⟨rfl, (hS6.base.trans hE7).trans hE8⟩
end Go.Proofs.YtimbikbbbfpeeaaGreatDoor
