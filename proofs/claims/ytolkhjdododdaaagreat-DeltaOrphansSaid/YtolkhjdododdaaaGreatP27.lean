/- What is seen of a view that all deltas were put into is what the base has there (plain law). -/
import Derived.Test.YtolkhjdododdaaaGreatP20
import Derived.Test.YtolkhjdododdaaaGreatP1
import Derived.Test.YtolkhjdododdaaaGreatProg
import Derived.Lib.DecodeN
import Derived.Lib.Hide
import Derived.Laws.BitsLemmas
import Derived.Test.YtolkhjdododdaaaGreatP2
import Derived.Test.YtolkhjdododdaaaGreatP3
set_option linter.unusedSimpArgs false
set_option linter.unusedVariables false
namespace Go.Proofs.YtolkhjdododdaaaGreat
open Go Go.RowKit

def fOff (x : Vw) (k : List UInt8) : Bool := !(k == x.on.data.toList)
/-- A row without the column that says where. -/
def offR (x : Vw) (r : Ro) : Ro := ⟨r.key, r.live, r.gone, r.shade, flt (fOff x) r.cols⟩
/-- What is seen of a view. -/
def seenV (x : Vw) (V : Vi) (t : Int) : List (ByteArray × Ro) := V.flatMap fun q => (seenRs q.2 0 t true).map fun r => (q.1, offR x r)
section
variable {x : Vw} {ns : List ByteArray} {pk : ByteArray}
theorem ro_parts {a b : Ro} (h : joinRo a b = a) : joinCl a.live b.live = a.live ∧ max a.gone b.gone = a.gone ∧ max a.shade b.shade = a.shade ∧ mergeCo a.cols b.cols = a.cols :=
  ⟨congrArg Ro.live h, congrArg Ro.gone h, congrArg Ro.shade h, congrArg Ro.cols h⟩
theorem end_mirror {p : Dp} {D : List (ByteArray × Ro)} {k a : ByteArray} {R y : Ro} (ho : OkD p) (h : KInv x ns pk p D k) (hm : mOf x ns pk p k = some (a, R))
    (hy : Jd (fun s => (a, s) ∈ D ∧ s.key = vkey pk k) y) (hR : joinRo y R = y) : y.live = R.live ∧ y.gone = R.gone ∧ y.shade < R.live.at_ ∧ flt (fOff x) y.cols = flt (fOff x) R.cols := by
  have uR : Up kCo R.cols := (Dl.mirror ho hm).up
  obtain ⟨hb, ha, e⟩ := mir_some hm
  obtain ⟨b1, b2, b3⟩ := bestB_at hb
  have ur := ho.up k
  have each : ∀ s, ((a, s) ∈ D ∧ s.key = vkey pk k) → Up kCo s.cols := fun s hs => (h.each a s hs.1 hs.2).up
  have uy := hy.up each
  have hU := hy.under (U := ⟨vkey pk k, R.live, R.gone, R.live.at_ - 1, flt (fOn x ns) (rowOf p.2 k).cols⟩) (flt_up ur) each (fun s hs => by
    have d := h.each a s hs.1 hs.2
    have hl : cmpCl s.live R.live ≤ 0 ∧ s.shade ≤ R.live.at_ - 1 := by
      rw [e]
      rcases d.kind with ⟨k1, k2, k3, k4⟩ | ⟨k1, k2⟩
      · refine ⟨?_, by show s.shade ≤ (cOf x p k).at_ - 1; omega⟩
        rw [k3]
        have ec : cOf x p k = ⟨a, false, (cOf x p k).at_, (cOf x p k).fin⟩ := by rw [ha, ← b1]
        rw [ec] at k4
        exact le_noval k4
      · refine ⟨by rw [k1]; exact zLe (by show 0 < (cOf x p k).at_; omega), ?_⟩
        have := k2 (cOf x p k) b1 ha.symm (by rw [cmpCl_self]; exact Int.le_refl _) b3
        show s.shade ≤ (cOf x p k).at_ - 1
        omega
    have hg : s.gone ≤ R.gone := by rw [e]; exact d.gone
    unfold joinRo
    simp only [Ro.mk.injEq, true_and]
    exact ⟨join_of_le hl.1, by omega, by omega, d.cols⟩)
  obtain ⟨j1, j2, j3, j4⟩ := ro_parts hR
  obtain ⟨u1, u2, u3, u4⟩ := ro_parts hU
  simp only at u1 u2 u3 u4
  refine ⟨?_, by omega, by omega, ?_⟩
  · exact le_antisymm (le_of_join u1) (le_of_join j1)
  · refine leC_anti (flt_up uy) (flt_up uR) ?_ (leC_flt uR uy (fun _ h => h) j4)
    have h1 : LeC (flt (fOff x) y.cols) (flt (fOff x) (flt (fOn x ns) (rowOf p.2 k).cols)) := leC_flt uy (flt_up ur) (fun _ h => h) u4
    have e2 : flt (fOff x) (flt (fOn x ns) (rowOf p.2 k).cols) = flt (fOff x) R.cols := by
      rw [e, flt_flt, flt_flt]
      congr 1
      funext j
      unfold fOff fOn
      cases fK ns j <;> cases (j == x.on.data.toList) <;> rfl
    rw [← e2]
    exact h1
theorem end_other {p : Dp} {D : List (ByteArray × Ro)} {k a : ByteArray} {y : Ro} (h : KInv x ns pk p D k) (hm : ∀ R, mOf x ns pk p k ≠ some (a, R))
    (hy : Jd (fun s => (a, s) ∈ D ∧ s.key = vkey pk k) y) (hc : ∀ s, (a, s) ∈ D → s.key = vkey pk k → joinRo y s = y) : y.live.at_ ≤ 0 ∨ y.live.at_ ≤ y.shade := by
  obtain ⟨s, ⟨hs, hk⟩, hle⟩ := hy.at_le
  rcases h.live a s hs hk with h1 | ⟨P, e, _⟩ | ⟨s', hs', hk', h1⟩
  · exact .inl (by omega)
  · exact absurd e (hm P)
  · obtain ⟨_, _, j3, _⟩ := ro_parts (hc s' hs' hk')
    exact .inr (by omega)
theorem seenCos_flt (f : List UInt8 → Bool) (l : List Co) (g t : Int) : seenCos (flt f l) g t = flt f (seenCos l g t) := by
  unfold seenCos flt
  rw [List.filter_filter, List.filter_filter]
  congr 1
  funext c
  exact Bool.and_comm ..
theorem seen_same {a : ByteArray} {R y : Ro} (t : Int) (h0 : y.key = R.key) (h1 : y.live = R.live) (h2 : y.gone = R.gone) (h3 : y.shade < R.live.at_) (h4 : flt (fOff x) y.cols = flt (fOff x) R.cols) (h5 : flt (fOff x) R.cols = R.cols) (h6 : R.shade < R.live.at_) :
    (if isB y (max y.gone 0) t true then some (a, offR x (seenRo y 0 t)) else none) = selP t (a, R) := by
  unfold selP
  have e : isB y (max y.gone 0) t true = isB R (max R.gone 0) t true := by
    unfold isB liveB
    rw [h1, h2, show decide (y.shade < R.live.at_) = true by simpa using h3, show decide (R.shade < R.live.at_) = true by simpa using h6]
    rfl
  rw [e]
  show (if isB R (max R.gone 0) t true = true then some (a, offR x (seenRo y 0 t)) else none) = if isB R (max R.gone 0) t true = true then some (a, seenRo R 0 t) else none
  congr 2
  unfold offR seenRo
  simp only
  rw [← seenCos_flt, h4, h5, h0, h1, h2]
theorem off_mir {p : Dp} {k a : ByteArray} {R : Ro} (hon : fK ns x.on.data.toList = false) (hm : mOf x ns pk p k = some (a, R)) : flt (fOff x) R.cols = R.cols ∧ R.shade < R.live.at_ := by
  obtain ⟨hb, _, e⟩ := mir_some hm
  obtain ⟨b1, b2, b3⟩ := bestB_at hb
  constructor
  · rw [e]
    show flt (fOff x) (flt (fK ns) _) = flt (fK ns) _
    rw [flt_flt]
    congr 1
    funext j
    unfold fOff
    by_cases hj : j = x.on.data.toList
    · rw [hj, hon]; simp
    · rw [show (j == x.on.data.toList) = false by simpa using hj]; simp
  · rw [e]
    show 0 < (cOf x p k).at_
    omega
theorem nodup_key {V : Vi} (h : (V.map (·.1)).Nodup) {q q' : ByteArray × List Ro} (hq : q ∈ V) (hq' : q' ∈ V) (e : q.1 = q'.1) : q = q' := by
  induction V with
  | nil => cases hq
  | cons v V ih =>
    have hn := List.nodup_cons.1 h
    rcases List.mem_cons.1 hq with h1 | h1 <;> rcases List.mem_cons.1 hq' with h2 | h2
    · rw [h1, h2]
    · exact absurd (List.mem_map.2 ⟨q', h2, e.symm.trans (congrArg Prod.fst h1)⟩) hn.1
    · exact absurd (List.mem_map.2 ⟨q, h1, e.trans (congrArg Prod.fst h2)⟩) hn.1
    · exact ih hn.2 h1 h2
theorem VInv.one {D P : List (ByteArray × Ro)} {V : Vi} (h : VInv D P V) {q : ByteArray × List Ro} {y : Ro} {d : ByteArray × Ro} (hq : q ∈ V) (hy : y ∈ q.2) (hd : d ∈ P) (h1 : d.1 = q.1) (h2 : d.2.key = y.key) : joinRo y d.2 = y := by
  obtain ⟨q', hq', hk, y', hy', hyk, hj⟩ := h.has d hd
  have e := nodup_key h.keys hq' hq (by rw [hk, h1])
  subst e
  have e1 := getK_of_mem (h.good q' hq').1 hy
  have e2 := getK_of_mem (h.good q' hq').1 hy'
  have e3 : kRo y' = kRo y := by unfold kRo; rw [hyk, h2]
  rw [e3, e1] at e2
  rw [Option.some.inj e2]
  exact hj
/-- The whole law of members. -/
theorem mem_seen {p : Dp} {D P : List (ByteArray × Ro)} {V : Vi} (ho : OkD p) (hon : fK ns x.on.data.toList = false) (hk : ∀ k, KInv x ns pk p D k) (hkeys : ∀ d ∈ D, ∃ r ∈ p.2, d.2.key = vkey pk r.key) (hv : VInv D P V) (hP : ∀ d ∈ D, d ∈ P) (t : Int) (e : ByteArray × Ro) :
    e ∈ seenV x V t ↔ e ∈ viewRs x ns pk p.1 t p.2 := by
  have same : ∀ {q : ByteArray × List Ro} {y R : Ro} {k : ByteArray}, q ∈ V → y ∈ q.2 → y.key = vkey pk k → mOf x ns pk p k = some (q.1, R) → (if isB y (max y.gone 0) t true then some (q.1, offR x (seenRo y 0 t)) else none) = selP t (q.1, R) := by
    intro q y R k hq hy hyk hm
    have hJ : Jd (fun s => (q.1, s) ∈ D ∧ s.key = vkey pk k) y := (hv.rows q hq y hy).mono fun s hs => ⟨hs.1, by rw [hs.2, hyk]⟩
    obtain ⟨_, _, eR⟩ := mir_some hm
    have hRk : R.key = vkey pk k := by rw [eR]
    have hjR := hv.one hq hy (hP _ ((hk k).mir _ _ hm)) rfl (by rw [hyk]; exact hRk)
    obtain ⟨e1, e2, e3, e4⟩ := end_mirror ho (hk k) hm hJ hjR
    obtain ⟨e5, e6⟩ := off_mir hon hm
    exact seen_same t (by rw [hRk, hyk]) e1 e2 e3 e4 e5 e6
  rw [← view_full]
  constructor
  · intro he
    obtain ⟨q, hq, he⟩ := List.mem_flatMap.1 he
    obtain ⟨r, hr, rfl⟩ := List.mem_map.1 he
    obtain ⟨y, hy, rfl⟩ := List.mem_map.1 hr
    obtain ⟨hy, hb⟩ := List.mem_filter.1 hy
    obtain ⟨s, ⟨hs, hsk⟩, _⟩ := (hv.rows q hq y hy).at_le
    obtain ⟨r, hr, hrk⟩ := hkeys _ hs
    have hyk : y.key = vkey pk r.key := by rw [← hsk]; exact hrk
    by_cases hm : ∃ R, mOf x ns pk p r.key = some (q.1, R)
    · obtain ⟨R, hm⟩ := hm
      have h1 := same hq hy hyk hm
      rw [if_pos hb] at h1
      refine List.mem_filterMap.2 ⟨(q.1, R), List.mem_filterMap.2 ⟨r, hr, ?_⟩, h1.symm⟩
      unfold mOf at hm
      rw [rowOf_in ho.good.1 hr] at hm
      exact hm
    · exfalso
      have hJ : Jd (fun s => (q.1, s) ∈ D ∧ s.key = vkey pk r.key) y := (hv.rows q hq y hy).mono fun s hs => ⟨hs.1, by rw [hs.2, hyk]⟩
      have h1 := end_other (hk r.key) (fun R hR => hm ⟨R, hR⟩) hJ fun s hs hsk => hv.one hq hy (hP _ hs) rfl (by rw [hyk]; exact hsk)
      unfold isB liveB at hb
      simp only [Bool.not_true, Bool.false_and, Bool.or_false, Bool.and_eq_true, decide_eq_true_eq] at hb
      omega
  · intro he
    obtain ⟨⟨a, R⟩, hm, he⟩ := List.mem_filterMap.1 he
    obtain ⟨r, hr, hm⟩ := List.mem_filterMap.1 hm
    have hm' : mOf x ns pk p r.key = some (a, R) := by unfold mOf; rw [rowOf_in ho.good.1 hr]; exact hm
    obtain ⟨q, hq, hqk, y, hy, hyk, _⟩ := hv.has _ (hP _ ((hk r.key).mir _ _ hm'))
    obtain ⟨_, _, eR⟩ := mir_some hm'
    simp only at hqk hyk
    subst hqk
    have h1 := same hq hy (by rw [hyk, eR]) hm'
    rw [he] at h1
    by_cases hb : isB y (max y.gone 0) t true = true
    · rw [if_pos hb] at h1
      have e1 := Option.some.inj h1
      rw [← e1]
      exact List.mem_flatMap.2 ⟨q, hq, List.mem_map.2 ⟨_, List.mem_map.2 ⟨y, List.mem_filter.2 ⟨hy, hb⟩, rfl⟩, rfl⟩⟩
    · rw [if_neg hb] at h1; cases h1
theorem nodup_len {α : Type} : ∀ {l m : List α}, l.Nodup → (∀ a ∈ l, a ∈ m) → l.length ≤ m.length
  | [], _, _, _ => Nat.zero_le _
  | a :: l, m, hn, h => by
    obtain ⟨m1, m2, rfl⟩ := List.append_of_mem (h a (List.mem_cons_self ..))
    have hn := List.nodup_cons.1 hn
    have := nodup_len (l := l) (m := m1 ++ m2) hn.2 fun b hb => by
      have := h b (List.mem_cons_of_mem _ hb)
      rcases List.mem_append.1 this with h1 | h1
      · exact List.mem_append_left _ h1
      · rcases List.mem_cons.1 h1 with rfl | h1
        · exact absurd hb hn.1
        · exact List.mem_append_right _ h1
    simp only [List.length_append, List.length_cons] at *
    omega
theorem seenV_nodup {V : Vi} (t : Int) (h : (V.map (·.1)).Nodup) (hg : ∀ q ∈ V, GoodRs q.2) : (seenV x V t).Nodup := by
  induction V with
  | nil => exact List.nodup_nil
  | cons q V ih =>
    have hn := List.nodup_cons.1 h
    unfold seenV
    rw [List.flatMap_cons]
    refine List.nodup_append.2 ⟨?_, ih hn.2 fun q hq => hg q (List.mem_cons_of_mem _ hq), ?_⟩
    · unfold seenRs
      rw [List.map_map]
      refine List.pairwise_map.2 (List.Pairwise.imp ?_ (List.Pairwise.filter _ (hg q (List.mem_cons_self ..)).1))
      intro a b hab e
      exact ne_of_lt hab (congrArg (fun z : ByteArray × Ro => kRo z.2) e)
    · intro a ha b hb e
      obtain ⟨r, _, rfl⟩ := List.mem_map.1 ha
      obtain ⟨q', hq', hb⟩ := List.mem_flatMap.1 hb
      obtain ⟨r', _, rfl⟩ := List.mem_map.1 hb
      exact hn.1 (List.mem_map.2 ⟨q', hq', (congrArg Prod.fst e).symm⟩)
theorem ofSeen_key {g t : Int} {r : Ro} {e : ByteArray × Ro} (h : ofSeen x ns pk g t r = some e) : e.2.key = vkey pk r.key := by
  unfold ofSeen at h
  split at h
  · split at h
    · cases h; rfl
    · cases h
  · cases h
theorem viewRs_nodup {l : List Ro} (g t : Int) (h : Up kRo l) : (viewRs x ns pk g t l).Nodup := by
  unfold viewRs
  refine List.pairwise_filterMap.2 (List.Pairwise.imp ?_ h)
  intro a b hab e he e' he' h
  have h1 := ofSeen_key he
  have h2 := ofSeen_key he'
  rw [h, h2] at h1
  exact ne_of_lt hab (by unfold kRo; rw [vkey_same h1])
theorem len_seen {p : Dp} {V : Vi} (ho : OkD p) (hn : (V.map (·.1)).Nodup) (hg : ∀ q ∈ V, GoodRs q.2) (t : Int) (hm : ∀ e, e ∈ seenV x V t ↔ e ∈ viewRs x ns pk p.1 t p.2) : (seenV x V t).length = (viewRs x ns pk p.1 t p.2).length :=
  Nat.le_antisymm (nodup_len (seenV_nodup t hn hg) fun e he => (hm e).1 he) (nodup_len (viewRs_nodup _ t ho.good.1) fun e he => (hm e).2 he)
end
end Go.Proofs.YtolkhjdododdaaaGreat

/- The reference's code points: cont, one. (what a smaller cut has) -/
namespace Go.Proofs.YtolkhjdododdaaaGreat
open Go Go.RowKit
attribute [local go_sem] yields yUpon

/-- Does a byte go on? -/
def goesOn (b : UInt8) : Bool := decide (b.toNat / 64 = 2)
def contB (s : ByteArray) (at_ n : Nat) : Bool := decide (at_ + n ≤ s.size) && (List.range n).all fun i => goesOn (s.get! (at_ + i))
theorem bits192 : ∀ n : Fin 256, (bits BinOp.and IntKind.u8 ((n.val : Nat) : Int) 192 != 128) = !decide (n.val / 64 = 2) := by decide +kernel
theorem goes_bits (b : UInt8) : (bits BinOp.and IntKind.u8 (b.toNat : Int) 192 != 128) = !goesOn b := bits192 ⟨b.toNat, b.toNat_lt⟩
theorem get_bang {s : ByteArray} {i : Nat} (h : i < s.size) : s.get! i = s[i]'h := by
  simp [ByteArray.get!, getElem!_pos, h]
  rfl
theorem contB_false {s : ByteArray} {at_ n k : Nat} (hk : k < n) (h : goesOn (s.get! (at_ + k)) = false) : contB s at_ n = false := by
  unfold contB
  rw [Bool.and_eq_false_iff]
  right
  rw [List.all_eq_false]
  exact ⟨k, by simpa using hk, by rw [h]; decide⟩
theorem contB_true {s : ByteArray} {at_ n : Nat} (hl : at_ + n ≤ s.size) (h : ∀ j, j < n → goesOn (s.get! (at_ + j)) = true) : contB s at_ n = true := by
  unfold contB
  rw [Bool.and_eq_true]
  refine ⟨by simpa using hl, ?_⟩
  rw [List.all_eq_true]
  intro j hj
  exact h j (by simpa using hj)

/-- What is put together behind a first byte. -/
def accR (s : ByteArray) (at_ r0 : Nat) : Nat → Nat
  | 0 => r0
  | k + 1 => accR s at_ r0 k * 64 + (s.get! (at_ + (k + 1))).toNat % 64
theorem accR_lt (s : ByteArray) (at_ r0 : Nat) (h : r0 < 32) : ∀ k, k ≤ 3 → accR s at_ r0 k < 8388608 ∧ (k ≤ 2 → accR s at_ r0 k < 131072)
  | 0, _ => ⟨by show r0 < _; omega, fun _ => by show r0 < _; omega⟩
  | 1, _ => ⟨by show r0 * 64 + _ % 64 < _; omega, fun _ => by show r0 * 64 + _ % 64 < _; omega⟩
  | 2, _ => ⟨by show (r0 * 64 + _ % 64) * 64 + _ % 64 < _; omega, fun _ => by show (r0 * 64 + _ % 64) * 64 + _ % 64 < _; omega⟩
  | 3, _ => ⟨by show ((r0 * 64 + _ % 64) * 64 + _ % 64) * 64 + _ % 64 < _; omega, fun h => by omega⟩

theorem accR_one (s : ByteArray) (at_ r0 k : Nat) (h : r0 < 32) (hk : k + 1 ≤ 3) : bits BinOp.or IntKind.i32 (wrap32 ((accR s at_ r0 k : Int) * 64)) (wrap32 (bits BinOp.and IntKind.u8 ((s.get! (at_ + (k + 1))).toNat : Int) 63)) = (accR s at_ r0 (k + 1) : Nat) := by
  have hb := (s.get! (at_ + (k + 1))).toNat_lt
  have ha := (accR_lt s at_ r0 h k (by omega)).2 (by omega)
  rw [u8_and63 _ (by omega) (by omega)]
  unfold wrap32
  rw [show ((accR s at_ r0 k : Int) * 64 + 2147483648) % 4294967296 - 2147483648 = (accR s at_ r0 k : Int) * 64 by omega, show (((s.get! (at_ + (k + 1))).toNat : Int) % 64 + 2147483648) % 4294967296 - 2147483648 = ((s.get! (at_ + (k + 1))).toNat : Int) % 64 by omega]
  rw [i32_or6 _ _ (by omega) (by omega) (by omega) (by omega) (by omega)]
  show _ = ((accR s at_ r0 k * 64 + (s.get! (at_ + (k + 1))).toNat % 64 : Nat) : Int)
  omega
def rC (r : Int) (at_ n : Nat) (ok : Bool) : Array Value := #[.int .i32 r, .int .i64 at_, .int .i64 n, .bool ok]
/-- The code point at a place, as the reference has it. -/
def moreR (s : ByteArray) (at_ n r0 : Nat) : Nat × Nat × Bool :=
  if contB s (at_ + 1) n = true then
    if (n = 2 ∧ (accR s at_ r0 n < 2048 ∨ 55296 ≤ accR s at_ r0 n ∧ accR s at_ r0 n < 57344)) ∨ (n = 3 ∧ (accR s at_ r0 n < 65536 ∨ 1114111 < accR s at_ r0 n)) then (65533, 1, false) else (accR s at_ r0 n, n + 1, true)
  else (65533, 1, false)
def roneC (s : ByteArray) (at_ c : Nat) : Nat × Nat × Bool :=
  if c < 128 then (c, 1, true) else if 194 ≤ c ∧ c < 224 then moreR s at_ 1 (c % 32) else if 224 ≤ c ∧ c < 240 then moreR s at_ 2 (c % 16) else if 240 ≤ c ∧ c < 245 then moreR s at_ 3 (c % 8) else (65533, 1, false)
def roneR (s : ByteArray) (at_ : Nat) : Nat × Nat × Bool := roneC s at_ (s.get! at_).toNat
theorem mask_i32 (b : UInt8) (i : Nat) (hi : i ≤ 31) : bits BinOp.and IntKind.i32 (b.toNat : Int) (2 ^ i - 1) = ((b.toNat % 2 ^ i : Nat) : Int) := by
  have := b.toNat_lt
  rw [bits_mask .i32 31 (by decide) wraps_i32 i hi _ (by omega) (by omega)]
  simp
end Go.Proofs.YtolkhjdododdaaaGreat

/- The reference's code points: All, Letter, Name. (what a smaller cut has) -/
namespace Go.Proofs.YtolkhjdododdaaaGreat
open Go Go.RowKit
attribute [local go_sem] yields yUpon

structure Rn where
  r : Nat
  at_ : Nat
  n : Nat
  ok : Bool
def rn4 (x : Rn) : Array Value := #[.int .i32 x.r, .int .i64 x.at_, .int .i64 x.n, .bool x.ok]
attribute [local go_sem] rn4
def rnCells : List Rn → List Value
  | [] => []
  | x :: l => .int .i32 x.r :: .int .i64 x.at_ :: .int .i64 x.n :: .bool x.ok :: rnCells l
theorem rnCells_append (l m : List Rn) : rnCells (l ++ m) = rnCells l ++ rnCells m := by
  induction l with
  | nil => rfl
  | cons c l ih => simp [rnCells, ih]
theorem rnCells_get : ∀ (l : List Rn) (k : Nat) (h : k < l.length), (rnCells l)[k * 4]? = some (.int .i32 l[k].r) ∧ (rnCells l)[k * 4 + 1]? = some (.int .i64 l[k].at_) ∧ (rnCells l)[k * 4 + 2]? = some (.int .i64 l[k].n) ∧ (rnCells l)[k * 4 + 3]? = some (.bool l[k].ok)
  | c :: l, 0, _ => by simp [rnCells]
  | c :: l, k + 1, h => by
    have ih := rnCells_get l k (by simpa using h)
    have e : (k + 1) * 4 = k * 4 + 4 := by omega
    simp only [e, rnCells, List.getElem_cons_succ]
    simpa using ih
def rnOf (s : ByteArray) (at_ : Nat) : Rn := ⟨(roneR s at_).1, at_, (roneR s at_).2.1, (roneR s at_).2.2⟩
def rsF (s : ByteArray) : Nat → Nat → List Rn
  | 0, _ => []
  | f + 1, at_ => if at_ < s.size then rnOf s at_ :: rsF s f (at_ + (rnOf s at_).n) else []
def rsAll (s : ByteArray) : List Rn := rsF s s.size 0
theorem rsF_end (s : ByteArray) (f k : Nat) (h : s.size ≤ k) : rsF s f k = [] := by
  cases f with
  | zero => rfl
  | succ f => unfold rsF; rw [if_neg (by omega)]
theorem more_size (s : ByteArray) (at_ n r0 : Nat) (ha : at_ < s.size) : 1 ≤ (moreR s at_ n r0).2.1 ∧ at_ + (moreR s at_ n r0).2.1 ≤ s.size := by
  unfold moreR
  split
  · rename_i h
    unfold contB at h
    rw [Bool.and_eq_true] at h
    have : at_ + 1 + n ≤ s.size := by simpa using h.1
    split
    · exact ⟨Nat.le_refl _, ha⟩
    · exact ⟨by show 1 ≤ n + 1; omega, by show at_ + (n + 1) ≤ _; omega⟩
  · exact ⟨Nat.le_refl _, ha⟩
theorem rone_size (s : ByteArray) (at_ : Nat) (ha : at_ < s.size) : 1 ≤ (rnOf s at_).n ∧ at_ + (rnOf s at_).n ≤ s.size := by
  show 1 ≤ (roneR s at_).2.1 ∧ at_ + (roneR s at_).2.1 ≤ s.size
  unfold roneR roneC
  split
  · exact ⟨Nat.le_refl _, ha⟩
  · split
    · exact more_size s at_ 1 _ ha
    · split
      · exact more_size s at_ 2 _ ha
      · split
        · exact more_size s at_ 3 _ ha
        · exact ⟨Nat.le_refl _, ha⟩

theorem BoxAt.rn {w : World} {p : Nat} {x : Rn} {T : TypeId} (h : BoxAt w p (rn4 x) T) : w.cell? ⟨p, 0, none⟩ = some (.int .i32 x.r) ∧ w.cell? ⟨p, 1, none⟩ = some (.int .i64 x.at_) ∧ w.cell? ⟨p, 2, none⟩ = some (.int .i64 x.n) ∧ w.cell? ⟨p, 3, none⟩ = some (.bool x.ok) := ⟨h.cell 0, h.cell 1, h.cell 2, h.cell 3⟩

def letB (x : Rn) : Bool := x.ok && ((decide (97 ≤ x.r) && decide (x.r ≤ 122)) || x.r == 95 || decide (128 ≤ x.r))
def okN (i : Nat) (x : Rn) : Bool := letB x || (!decide (i = 0) && (decide (48 ≤ x.r) && decide (x.r ≤ 57)))
def nmLoop : Nat → List Rn → Bool
  | _, [] => true
  | i, x :: l => okN i x && nmLoop (i + 1) l
/-- Is a text a name? -/
def nameB (s : ByteArray) : Bool := nmLoop 0 (rsAll s) && (decide (1 ≤ s.size) && decide (s.size ≤ 100))
theorem rs_len (s : ByteArray) : ∀ f k, k ≤ s.size → (rsF s f k).length ≤ s.size - k
  | 0, k, _ => Nat.zero_le _
  | f + 1, k, hk => by
    unfold rsF
    split
    · rename_i h
      have h1 := rone_size s k h
      have := rs_len s f (k + (rnOf s k).n) h1.2
      simp only [List.length_cons]
      omega
    · exact Nat.zero_le _
end Go.Proofs.YtolkhjdododdaaaGreat

/- The reference's Check of cells, of rows. (what a smaller cut has) -/
namespace Go.Proofs.YtolkhjdododdaaaGreat
open Go Go.RowKit
attribute [local go_sem] yields yUpon

theorem less_leq : ∀ a b : List UInt8, (Op.bytesLess a b || a == b) = !Op.bytesLess b a
  | [], [] => rfl
  | [], b :: y => rfl
  | a :: x, [] => rfl
  | a :: x, b :: y => by
    have ih := less_leq x y
    unfold Op.bytesLess
    by_cases h : a = b
    · subst h
      simp [← ih]
    · by_cases h2 : a < b
      · have h3 : ¬ b < a := by
          rw [UInt8.lt_iff_toNat_lt] at *
          omega
        have h4 : ¬ b = a := fun e => h e.symm
        simp [h, h2, h3, h4]
      · have h3 : b < a := by
          rw [UInt8.lt_iff_toNat_lt] at *
          have h5 : a.toNat ≠ b.toNat := fun e => h (UInt8.toNat_inj.1 e)
          omega
        simp [h, h2, h3]
def orB : Option ByteArray → ByteArray → Bool
  | none, _ => true
  | some q, n => Op.bytesLess q.toList n.toList
/-- Columns that may be, behind a name. -/
def csB : Option ByteArray → List Co → Bool
  | _, [] => true
  | p, c :: l => nameB c.name && orB p c.name && checkC c.cell.val c.cell.dead c.cell.at_ c.cell.fin && decide (0 < c.cell.at_) && csB (some c.name) l
def prevM (l : List Co) : Nat → Option ByteArray
  | 0 => none
  | k + 1 => (l[k]?).map (·.name)
/-- A row's own cells may be. -/
def hdB (r : Ro) : Bool := !decide (400 < (r.key.size : Int)) && checkC r.live.val r.live.dead r.live.at_ r.live.fin && (r.live.val.toList == []) && !r.live.dead && stampB r.gone && stampB r.shade && !decide (8 < (r.cols.length : Int))
/-- A row that may be. -/
def rwB (r : Ro) : Bool := hdB r && csB none r.cols

theorem hdB_parts {r : Ro} (h : hdB r = true) : decide (400 < (r.key.size : Int)) = false ∧ checkC r.live.val r.live.dead r.live.at_ r.live.fin = true ∧ (r.live.val.toList == []) = true ∧ r.live.dead = false ∧ stampB r.gone = true ∧ stampB r.shade = true ∧ decide (8 < (r.cols.length : Int)) = false := by
  unfold hdB at h
  simp only [Bool.and_eq_true, Bool.not_eq_true'] at h
  obtain ⟨⟨⟨⟨⟨⟨a, b⟩, c⟩, d⟩, e⟩, f⟩, g⟩ := h
  exact ⟨a, b, c, d, e, f, g⟩
theorem csB_cons (p : Option ByteArray) (M : Co) (R : List Co) : csB p (M :: R) = (nameB M.name && orB p M.name && checkC M.cell.val M.cell.dead M.cell.at_ M.cell.fin && decide (0 < M.cell.at_) && csB (some M.name) R) := rfl
theorem prevM_succ {l : List Co} {k : Nat} {M : Co} {R : List Co} (hd : l.drop k = M :: R) : prevM l (k + 1) = some M.name := by
  have hk : k < l.length := by
    rcases Nat.lt_or_ge k l.length with h | h
    · exact h
    · rw [List.drop_eq_nil_of_le h] at hd; cases hd
  have e : l[k] = M := by rw [List.drop_eq_getElem_cons hk] at hd; exact (List.cons.inj hd).1
  simp [prevM, hk, e]
end Go.Proofs.YtolkhjdododdaaaGreat
