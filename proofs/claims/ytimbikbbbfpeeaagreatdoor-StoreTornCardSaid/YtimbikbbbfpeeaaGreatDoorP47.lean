/- Package note: All. -/
import Derived.Test.YtimbikbbbfpeeaaGreatDoorP46
import Derived.Test.YtimbikbbbfpeeaaGreatDoorP32
import Derived.Test.YtimbikbbbfpeeaaGreatDoorP16
import Derived.Test.YtimbikbbbfpeeaaGreatDoorP42
import Derived.Test.YtimbikbbbfpeeaaGreatDoorP45
set_option linter.unusedSimpArgs false
set_option linter.unusedVariables false
namespace Go.Proofs.YtimbikbbbfpeeaaGreatDoor
open Go Go.RowKit
attribute [local go_sem] yields yUpon

theorem fget_nth : ∀ {F : Fl} (_ : Rises F) {k : Nat} (hk : k < F.length), fget (F[k]).1 F = (F[k]).2
  | [], _, k, hk => by simp at hk
  | q :: F, h, 0, _ => by simp [fget]
  | q :: F, h, k + 1, hk => by
    have h1 := h.head (F[k]'(by simpa using hk)) (List.getElem_mem _)
    have h2 := fget_nth h.tail (k := k) (by simpa using hk)
    have h3 : (q.1 == (F[k]'(by simpa using hk)).1) = false := by simp; omega
    simp only [List.getElem_cons_succ]
    unfold fget at h2 ⊢
    rw [List.find?_cons, h3]
    exact h2

theorem files_look0 {w : World} {m : Nat} {F : Fl} (h : FilesAt w m F) {n : Int} (h0 : -9223372036854775808 ≤ n) (h1 : n ≤ 9223372036854775807) :
    (Instr.lookup 70 (.map (some m)) (.int .i64 n) false).run Tryz.prog w = .ok (.string (str (fget n F))) w ∧ (fget n F).length ≤ maxLen := by
  obtain ⟨v, ps, hr, hv⟩ := h.1.lookup keyed0 und_mapis (zero_str w) (elem_str (s := ⟨#[]⟩) (by simp [ByteArray.size])) (Maps.keyOf_int_mk und_int0 (wf_in h0 h1))
  have e : DataW.atKey (fD F : DataW Nat) (.int .i64 n) (.lit (.string (#[] : Array UInt8).toList)) = .lit (.string (fget n F)) := fD_at F n
  rw [e] at hv
  obtain ⟨s, rfl, hz, hs⟩ := plainElem_string_inv und_str0 hv
  have e2 : s.data.toList = fget n F := by
    simp only [Prod.mk.injEq, DataW.lit.injEq, Lit.string.injEq] at hz
    exact hz.1.symm
  obtain rfl := str_eq e2
  exact ⟨hr, by simpa using hs⟩

section
variable {p m : Nat} {F : Fl}
set_option maxHeartbeats 4000000 in
theorem nt_all (w : World) (h : NoteAt w p m F) (hF : F.length ≤ 1000000) (hK : ∀ q ∈ F, -9223372036854775808 ≤ q.1 ∧ q.1 ≤ 9223372036854775807) :
    Calls Tryz.prog 44 #[.pointer (some ⟨p, 0, none⟩)] w fun e w' => ∃ v, (e = .returned v ∧ Ext w w') ∧ NotesIn w' v F := by
  have c0 := h.c0
  have hr := h.files.2
  have hfl := h.files
  go_enter Tryz.func44, Tryz.ntmps44
  go_wp2_with (first
    | (go_at_call 82; go_must (refine (nk_keys (some m) w).mono ?_); rintro e w1 ⟨rfl, rfl⟩)
    | (go_at_call 81; go_must (refine (nk_sorted hF w hfl).mono ?_); rintro e w2 ⟨v2, ⟨rfl, hE2⟩, ho2⟩; obtain ⟨a2, c2, rfl, hc2, hcm2, _, hcell2⟩ := SliceIn.of_owns ho2; unfold maxLen at hcm2))
  have HC := Lib.hid hcell2
  have hkl : (keysF F).length = F.length := by simp [keysF]
  have hE02 := ((Ext.refl w).alloc (.cells #[.map (some m)] 70)).trans hE2
  have hn2 := h.ext hE02
  have HK := Lib.hid hK
  have HR := Lib.hid hr
  clear hcell2 ho2 hK hr hfl c0 hkl
  obtain ⟨n, hn⟩ : ∃ n, n = F.length := ⟨_, rfl⟩
  have HN := Lib.hid hn
  rw [← hn] at hc2 hF ⊢
  clear hn
  go_loopw [3, 13] (fun vl i wr => ∃ k : Nat, k ≤ n ∧ i = .int .i64 (k : Int) ∧ wr.ownsRow w2.heap.size 32 2 vl k (ncells (F.take k)) ∧ Ext w2 wr) (fun _ i _ => n - (intOf i).toNat)
  case atStart => exact ⟨0, Nat.zero_le _, rfl, World.ownsRow_nil _ _ _ _, Ext.refl w2⟩
  case round =>
    obtain ⟨k, hk, rfl, hown, hE⟩ := hrel
    by_cases hlt : k < n
    · have hkF : k < F.length := by rw [← HN.out]; exact hlt
      obtain ⟨b, o, rfl, hck⟩ := HC.out k (.int .i64 (F[k]).1) (by rw [kcells_get]; simp [keysF, hkF])
      replace hck := hE.cell hck
      have hb := HK.out _ (List.getElem_mem hkF)
      have hn3 := hn2.ext hE
      have hlk := (files_look0 hn3.files hb.1 hb.2).1
      rw [fget_nth HR.out hkF] at hlk
      have c0 := hn3.c0
      have HT : Hid (ncells (F.take (k + 1)) = ncells (F.take k) ++ [.int .i64 (F[k]).1, .string (str (F[k]).2)]) := Lib.hid (by rw [List.take_succ_eq_append_getElem hkF, ncells_snoc])
      obtain ⟨key, hkey⟩ : ∃ key, key = (F[k]).1 := ⟨_, rfl⟩
      obtain ⟨bd, hbd⟩ : ∃ bd, bd = str (F[k]).2 := ⟨_, rfl⟩
      rw [← hkey] at hck hlk HT
      rw [← hbd] at hlk HT
      clear hkey hbd hb
      go_wp2_with (at_builtin; go_must (refine appR info_note und_notes rfl (by decide) wr rfl (.tmp 17) (.tmp 26) rfl w2.heap.size hE.le _ k (ncells (F.take k)) hown (by rfl) 1 _ (by rfl) (by rfl) (by simp [Value.oneCell']) (by unfold maxLen; omega) (by omega) ?_); intro v8 w8 ho8 hg8)
      have hE8 := (hE.alloc (.cells #[.int .i64 key, .string bd] 32)).grown hg8 (fun q hq => (hown.lt q hq).1)
      go_roundw
      case rel => exact ⟨k + 1, by omega, by go_num, by rw [HT.out]; exact ho8, hE8⟩
      case measure => simp [intOf]; omega
    · obtain rfl : k = n := by omega
      go_wp2
      go_ret
      refine ⟨_, ⟨rfl, hE02.trans hE⟩, ?_⟩
      have h1 := SliceIn.of_owns hown
      rw [HN.out, List.take_length] at h1
      exact h1
end
end Go.Proofs.YtimbikbbbfpeeaaGreatDoor

/- store: Get, Sync, Notes, Note. -/
namespace Go.Proofs.YtimbikbbbfpeeaaGreatDoor
open Go Go.RowKit
attribute [local go_sem] yields yUpon

set_option maxRecDepth 100000 in
set_option maxHeartbeats 2000000 in
theorem get_some (W0 w : World) (C : Nat) (s : Sto) (h : StoAt W0 w C s) (hC : C ≤ 1000000) (name key : ByteArray) (hn : name.size ≤ 1000000) (hk : key.size ≤ 1000000) (t : Tb) (ht : kfind Tb.name name s.ts = some t) (p : Pa) (hp : kfind Pa.key key t.parts = some p) :
    Calls Tryz.prog 26 #[.pointer (some ⟨s.ps, 0, none⟩), .string name, .string key] w fun e w' => ∃ v' qs, e = .returned (.agg #[.string key, .int .i64 p.gone, v']) ∧ Ext w w' ∧ RowsT w' v' qs ∧ qs.map (·.1) = p.ps.map (·.1) := by
  have c1 : w.cell? ⟨s.ps, 1, none⟩ = some (.map (some s.mt)) := by rw [h.box.cell]; rfl
  obtain ⟨htm, htn⟩ := kfind_some ht
  obtain ⟨hpm, hpk⟩ := kfind_some hp
  have hat := h.tabs.tabs t htm
  obtain ⟨o1, o2, o3⟩ := hat.ok p hpm
  obtain ⟨W1, hW1⟩ : ∃ W1, W1 = w.alloc (.cells #[.string ⟨#[]⟩, .int .i64 0, .slice none 0 0] 52) := ⟨_, rfl⟩
  have hE1 : Ext w W1 := by rw [hW1]; exact (Ext.refl w).alloc _
  have a6 : BoxAt W1 w.heap.size (pa3 ⟨#[]⟩ 0 (.slice none 0 0)) 52 := by rw [hW1]; exact BoxAt.made w _ _
  have l1 := tabs_look (h.tabs.ext hE1) hn
  rw [ht] at l1
  simp only [Option.map_some, Option.getD_some] at l1
  have l2 := smap_look (hat.pm.ext hE1) und_mparts (zero_part W1) (k := key) (by unfold maxLen; omega)
  rw [paE_find, paE_some, hp] at l2
  simp only [Option.map_some, Option.getD_some, Option.isSome_some, paV] at l2
  have c1' := hE1.cell c1
  have z0 : W1.cell? ⟨t.tb, 0, none⟩ = some (.map (some t.mp)) := by rw [(hat.box.ext hE1).cell]; rfl
  obtain ⟨ar, cr, hrv⟩ := (hat.rows p hpm).shape
  have hrw := (hat.rows p hpm).ext hE1
  rw [hpk] at l2
  rw [hrv] at l2 hrw
  have K := fun w' (hx : Ext W1 w') => pcopy_any key p.gone _ p.ps w' (hrw.ext hx).rows (by omega) (fun q hq => Nat.le_trans (o3 q hq) hC)
  obtain ⟨np, hnp⟩ : ∃ n, n = p.ps.length := ⟨_, rfl⟩
  rw [← hnp] at K l2
  have HK := Lib.hid K
  rw [hW1] at l1 l2 c1' z0
  have HW := far hW1
  clear hW1 K hrw hrv hnp hat ht hp htm hpm o1 o2 o3 h htn hpk c1
  go_enter Tryz.func26, Tryz.ntmps26
  go_wp2_with fail
  rw [← HW ()]
  refine (HK.out _ ((Ext.refl W1).alloc _)).mono ?_
  rintro e w3 ⟨v', rfl, qs, hq, hm, hx⟩
  have hE3 := ((Ext.refl W1).alloc (.cells #[.string key, .int .i64 p.gone, .slice ar np cr] 52)).trans hx
  replace a6 := a6.ext hE3
  obtain ⟨av, cv, rfl⟩ := hq.shape
  go_wp2_with (((guard_target =~ wpList _ _ _ (Oper.mk none (Op.store _ (Operand.tmp 6) (Operand.tmp 29)) _ _ _ _ :: _) _ _); go_must (refine storeBox rfl 52 (.tmp 6) (.tmp 29) rfl (w.heap.size) _ _ _ (by rfl) (by rfl) (a6) (by kernel_rfl) (by rfl) (by simp [Value.oneCell']) ?_); intro w4 c4 g4))
  obtain ⟨y0, y1, y2⟩ := c4.pa (k := key) (g := p.gone) (u := .slice av qs.length cv)
  refine bodyPost_ret (v := .agg #[.string key, .int .i64 p.gone, .slice av qs.length cv]) ?_ rfl ⟨_, qs, rfl, (hE1.trans hE3).grown g4 (fun q hq => by cases hq; omega), hq.keep g4 a6 (by decide) (by decide), hm⟩
  simp [results, Tryz.results26, go_sem, y0, y1, y2]

set_option maxHeartbeats 1000000 in
theorem stsync_any (W0 w : World) (C : Nat) (s : Sto) (h : StoAt W0 w C s) :
    Calls Tryz.prog 15 #[.pointer (some ⟨s.ps, 0, none⟩)] w fun e w' => (e = .returned (.tuple #[]) ∧ Touch w w' [s.pd]) ∧ StoAt W0 w' C { s with good := s.log.size } := by
  have c0 : w.cell? ⟨s.ps, 0, none⟩ = some (.pointer (some ⟨s.pd, 0, none⟩)) := by rw [h.box.cell]; rfl
  have hS := sh_sync w h.shelf
  have HH := Lib.hid h
  clear h
  go_enter Tryz.func15, Tryz.ntmps15
  go_wp2_with (go_at_call 41; go_must (refine hS.mono ?_); rintro e w1 ⟨⟨rfl, ht⟩, hs⟩)
  go_end0
  exact ⟨⟨rfl, ht⟩, HH.out.shelfT (ht.mono (by simp)) hs⟩
set_option maxHeartbeats 1000000 in
theorem stnotes_any (W0 w : World) (C : Nat) (s : Sto) (h : StoAt W0 w C s) :
    Calls Tryz.prog 17 #[.pointer (some ⟨s.ps, 0, none⟩)] w fun e w' => ∃ v, (e = .returned v ∧ Ext w w') ∧ NotesIn w' v s.N := by
  have c0 : w.cell? ⟨s.ps, 2, none⟩ = some (.pointer (some ⟨s.pn, 0, none⟩)) := by rw [h.box.cell]; rfl
  have hS := nt_all w h.notes (by have := h.gn.len; omega) (fun q hq => by have := h.gn.keys q hq; omega)
  clear h
  go_enter Tryz.func17, Tryz.ntmps17
  go_wp2_with (go_at_call 44; go_must (refine hS.mono ?_); rintro e w1 ⟨v, ⟨rfl, hE⟩, hn⟩)
  go_ret
  exact ⟨_, ⟨rfl, hE⟩, hn⟩
end Go.Proofs.YtimbikbbbfpeeaaGreatDoor

/- The log of a store is what was put: kept by Apply; opened again. Plain law behind clerestorylaw12.awake. -/
namespace Go.Proofs.YtimbikbbbfpeeaaGreatDoor
open Go Go.RowKit
attribute [local go_sem] yields yUpon

theorem stRe_puts {q : Sq} {log : List UInt8} {bs : List (List UInt8)} (h : log = puts 0 bs) : stRe q log = goes stOk stNext q bs := by
  unfold stRe stReplay
  rw [h, scan_all]
theorem ba_len (b : ByteArray) : b.size = b.data.toList.length := by
  obtain ⟨⟨l⟩⟩ := b
  rfl
theorem ba_full (b : ByteArray) (n : Nat) (h : b.size ≤ n) : b.extract 0 n = b := by
  apply ba_ext
  rw [ByteArray.data_extract, Array.toList_extract, List.extract_eq_take_drop]
  simp only [List.drop_zero, Nat.sub_zero]
  rw [List.take_of_length_le]
  have h1 := ba_len b
  omega
theorem crash_all (n : Int) (log : ByteArray) (good : Nat) (hg : good = log.size) : crashN n good log.size = log.size ∧ log.extract 0 (crashN n good log.size) = log := by
  have h : crashN n good log.size = log.size := by unfold crashN; omega
  exact ⟨h, ba_full _ _ (by omega)⟩
/-- The log holds these bodies, and they make the store. -/
structure LogOk (s : Sto) (bs : List (List UInt8)) : Prop where
  log : s.log.data.toList = puts 0 bs
  go : goes stOk stNext ⟨[], []⟩ bs = (s.q, bs)
theorem LogOk.size {s : Sto} {bs : List (List UInt8)} (h : LogOk s bs) : s.log.size = (puts 0 bs).length := by
  rw [ba_len, h.log]
theorem LogOk.app {s s' : Sto} {bs : List (List UInt8)} (h : LogOk s bs) {b : Bt} {B : List UInt8} (hcb : cbQ b = true) (hB : B = batQ b) (hl : B.length ≤ 262144) (hf : stFits s.q b = true)
    (hlog : s'.log = s.log ++ str (sput false s.log.size B)) (hq : s'.q = stPut s.q b) : LogOk s' (bs ++ [B]) := by
  obtain ⟨g1, g2⟩ := gb_put hcb hB hl
  refine ⟨?_, ?_⟩
  · rw [hlog, puts_append, ← h.log, Nat.zero_add, ← ba_len]
    simp [puts]
  · rw [goes_append _ _ _ (by rw [h.go]), h.go]
    have ho : stOk s.q B = true := stOk_of g1 (by rw [g2]; exact hf)
    have hn : stNext s.q B = s'.q := by unfold stNext; rw [g2, hq]
    simp only [goes, ho, if_true, hn]
theorem LogOk.nil {s : Sto} (h1 : s.log = ⟨#[]⟩) (h2 : s.q = ⟨[], []⟩) : LogOk s [] := ⟨by rw [h1]; rfl, by rw [h2]; rfl⟩
theorem LogOk.of {s s' : Sto} {bs : List (List UInt8)} (h : LogOk s bs) (h1 : s'.log = s.log) (h2 : s'.q = s.q) : LogOk s' bs := ⟨by rw [h1]; exact h.log, by rw [h2]; exact h.go⟩
theorem open_puts (W0 w : World) (hT : TabU W0) (hE : Ext W0 w) (pd mf : Nat) (log : ByteArray) (good n : Nat) (hlow : W0.heap.size ≤ pd ∧ W0.heap.size ≤ mf) (h : ShelfAt w pd mf log good [] ⟨#[]⟩) (bs : List (List UInt8)) (Q : Sq)
    (hb : log.data.toList = puts 0 bs) (hg : goes stOk stNext ⟨[], []⟩ bs = (Q, bs)) (hn : bs.length = n) (hC : 512 * n ≤ 390000) :
    Calls Tryz.prog 10 #[.pointer (some ⟨pd, 0, none⟩)] w fun e w' => ∃ s : Sto, e = .returned (.tuple #[.pointer (some ⟨s.ps, 0, none⟩), .int .i64 0]) ∧ StoAt W0 w' (512 * n) s ∧ s.pd = pd ∧ s.mf = mf ∧ s.log = log ∧ s.good = log.size ∧ s.F = [] ∧ s.man = ⟨#[]⟩ ∧ s.q = Q ∧ Touch w w' [pd, mf] := by
  have hs : (scan log.data.toList 0).1.length = n := by rw [hb, scan_all]; exact hn
  have hz : (puts 0 bs).length = log.size := by
    rw [ba_len, hb]
  refine (open_none W0 w hT hE pd mf log good n hlow h hs hC).mono ?_
  rintro e w' ⟨s, h1, h2, h3, h4, h5, h6, h7, h8, h9, h10⟩
  rw [stRe_puts hb, hg] at h5 h6 h9
  simp only [hz] at h5 h6
  exact ⟨s, h1, h2, h3, h4, h5.trans (ba_full _ _ (Nat.le_refl _)), h6, h7, h8, h9, h10⟩
end Go.Proofs.YtimbikbbbfpeeaaGreatDoor
