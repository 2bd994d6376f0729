/- What comes in, read off the start: strings, numbers, names. -/
import Derived.Test.YtihdhefpkmhibaaGreatDoorProg
import Derived.Test.YtihdhefpkmhibaaGreatDoorIn
import Derived.Test.YtihdhefpkmhibaaGreatDoorLw
set_option linter.unusedSimpArgs false
set_option linter.unusedVariables false
namespace Go.Proofs.YtihdhefpkmhibaaGreatDoor
open Go Go.Sl
open Go.ChangeShapes Go.WideShapes Go.ChangeAt Go.RowKit
open Go.ChangeMaps (open_string shut_string)

theorem own : ownKnob Tryz.prog.godebug = none := by kernel_rfl
theorem laidOut : laidOutB Tryz.prog = true := by kernel_rfl
theorem cells_sum : Tryz.prog.cellsOf 22 = 32 := cells_of Tryz.underlying22 Tryz.sizeOf22
theorem cells_id : Tryz.prog.cellsOf 24 = 33 := cells_of Tryz.underlying24 Tryz.sizeOf24
set_option maxRecDepth 100000 in
theorem in_id {H : Type} {enc : TypeId × Value → H} {w : World} {base b0 : Nat} {spare : Nat → Bool} {held : Bool} {v : Value} {d : DataW H} {p : List MemPlace} {r : Reach} (hv : Value.okWide Tryz.prog w r b0 24 v)
    (h : DataW.Trod enc Tryz.prog w base spare held 24 v d p) : ∃ k bs, bs.length = 32 ∧ v = .agg (idc k bs).toArray := by
  obtain ⟨k, bs, h1, h2⟩ := in_kb (P := Tryz.prog) Tryz.underlying24 Tryz.underlying5 Tryz.underlying22 Tryz.underlying5 rfl rfl cells_u8 cells_u8 cells_sum cells_id hv h
  exact ⟨k, bs, h1, h2⟩
end Go.Proofs.YtihdhefpkmhibaaGreatDoor
