/- The sort of a scan, by the kit. -/
import Derived.Test.YtdcjlbfmdkgcpaaGreatDoorProg
import Derived.Test.YtdcjlbfmdkgcpaaGreatDoorSo
import Derived.Test.YtdcjlbfmdkgcpaaGreatDoorSc
import Derived.Test.YtdcjlbfmdkgcpaaGreatDoorShl
set_option linter.unusedSimpArgs false
set_option linter.unusedVariables false
namespace Go.Proofs.YtdcjlbfmdkgcpaaGreatDoor
open Go.Sl

theorem lt_pairs (x y : Str × Str) : Go.Proofs.ltOf (fun x y : Str × Str => cmpS x.1 y.1) x y = slt x.1 y.1 := by
  unfold Go.Proofs.ltOf cmpS
  cases h : slt x.1 y.1 with
  | true => simp [h]
  | false => cases k : slt y.1 x.1 <;> simp [h, k]
theorem swo_pairs : Go.Sort.SWO (Go.Proofs.ltOf fun x y : Str × Str => cmpS x.1 y.1) where
  irrefl x := by rw [lt_pairs]; exact slt_irrefl _
  trans x y z h1 h2 := by rw [lt_pairs] at *; exact slt_trans h1 h2
  ntrans x y z h1 h2 := by
    rw [lt_pairs] at *
    cases h : slt x.1 z.1 with
    | false => rfl
    | true =>
      have := sle_slt h1 h
      rw [h2] at this; cases this

/-- The sort's contract, paid. -/
theorem sortH : SortHyp := fun T cap a xs h =>
  fnc_imp (sortF (enc := encP) Tryz.sortPair Tryz.isAgg57 Tryz.sizeOf57 (fun _ => rfl) (fun x v hv => by simp [encP] at hv; rcases hv with rfl | rfl <;> rfl) (fun x y => cmpS x.1 y.1) swo_pairs (fun args w => Tryz.call232 args w) scan1_is h) (by
    rintro v L' ⟨rfl, ys, hp, hs, rfl⟩
    exact ⟨rfl, ys, hp, hs.imp fun q => by rw [lt_pairs] at q; exact q, rfl⟩)
end Go.Proofs.YtdcjlbfmdkgcpaaGreatDoor
