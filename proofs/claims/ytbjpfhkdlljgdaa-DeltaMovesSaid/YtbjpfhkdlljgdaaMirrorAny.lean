/- project.Mirror, whether a row has a mirror or none. -/
import Derived.Test.YtbjpfhkdlljgdaaMirror
import Derived.Test.YtbjpfhkdlljgdaaRowsIn
namespace Go.Proofs.Ytbjpfhkdlljgdaa
open Go Go.RowKit

/-- What mirrors a row: the partition's key and its one row. -/
def mirOf (x : Vw) (ns : List ByteArray) (pk : ByteArray) (pg : Int) (r : Ro) : Option (ByteArray × Ro) :=
  if bestB (cellOf r.cols x.on) (max r.gone pg) then some ((cellOf r.cols x.on).val, ⟨vkey pk r.key, ⟨⟨#[]⟩, false, (cellOf r.cols x.on).at_, (cellOf r.cols x.on).fin⟩, max r.gone pg, 0, r.cols.filter (keeps ns)⟩) else none
def mirK (m : Option (ByteArray × Ro)) : ByteArray := match m with
  | some p => p.1
  | none => ⟨#[]⟩
def mirR (m : Option (ByteArray × Ro)) : List Ro := match m with
  | some p => [p.2]
  | none => []
theorem mirror_any (s : Value) (x : Vw) (u : Value) (ns : List ByteArray) (pk : ByteArray) (pg : Int) (pu : Value) (r : Ro) (v : Value) (w : World) (hin : ColsIn w v r.cols) (hlc : r.cols.length ≤ 1000000) (hns : StrsIn w u ns)
    (hk : pk.size ≤ 10000000) (hr : r.key.size ≤ 10000000) (hkl : (vkey pk r.key).size ≤ 400) :
    Calls Try.prog 40 #[tabV s, .agg #[.string x.name, .int .i64 x.id, .string x.table, .string x.on, u], .agg #[.string pk, .int .i64 pg, pu], (.agg #[.string r.key, .string r.live.val, .bool r.live.dead, .int .i64 r.live.at_, .int .i64 r.live.fin, .int .i64 r.gone, .int .i64 r.shade, v])] w fun e w' =>
      ∃ rv, e = .returned (.tuple #[.agg #[.string (mirK (mirOf x ns pk pg r)), .int .i64 0, rv], .bool (mirOf x ns pk pg r).isSome]) ∧ ∃ ps, RowsT w' rv ps ∧ ps.map (·.1) = mirR (mirOf x ns pk pg r) ∧ Ext w w' := by
  cases hb : bestB (cellOf r.cols x.on) (max r.gone pg) with
  | true =>
    have e : mirOf x ns pk pg r = some ((cellOf r.cols x.on).val, ⟨vkey pk r.key, ⟨⟨#[]⟩, false, (cellOf r.cols x.on).at_, (cellOf r.cols x.on).fin⟩, max r.gone pg, 0, r.cols.filter (keeps ns)⟩) := by unfold mirOf; rw [if_pos hb]
    rw [e]
    refine (mirror_some s x u ns pk pg pu r v w hin hlc hns hb hk hr hkl).mono ?_
    rintro e w' ⟨b, v', rfl, hwb, hbox, hown, hE⟩
    exact ⟨_, rfl, _, RowsT.one hbox (TIn.own hown), rfl, hE⟩
  | false =>
    have e : mirOf x ns pk pg r = none := by unfold mirOf; rw [if_neg (by rw [hb]; decide)]
    rw [e]
    refine (mirror_none s x u pk pg pu r v w hin hb hk hr).mono ?_
    rintro e w' ⟨rfl, hE⟩
    exact ⟨_, rfl, [], RowsT.nil _, rfl, hE⟩
end Go.Proofs.Ytbjpfhkdlljgdaa
