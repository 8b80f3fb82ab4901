import Derived.Test.YtdjgbkmakjhdgaaDoorSqPl1
import Derived.Test.YtdjgbkmakjhdgaaDoorSx31
namespace Pl
open Go Sx Go.Proofs Go.RowKit
def nodeB (x : Int) : Bool := decide (x ≥ 0) && decide (x < 8)
theorem sbA : Tryd.f15.body = some (bodyOf Tryd.f15) := by kernel_rfl
noncomputable abbrev M0 : Ex := mkExM Tryd.prog []
theorem M0_ok : M0.Sound := mkExM_sound trivial
theorem tsA (l : List Int) (p : Int) : @Eq _
  (fnT M0 [] 100 Tryd.f15 [ints, i64] [i64] (l, p, ()))
  (.req (decide (p < (0 : Int)) = false → conjP [decide (p ≥ if (16 : Int) < (↑l.length : Int) then (16 : Int) else (↑l.length : Int)) = false → conjP [(0 : Int) ≤ p ∧ p < (↑l.length : Int), (0 : Int) ≤ p ∧ p < (↑l.length : Int), decide (l.getD p.toNat (0 : Int) < (0 : Int)) = false → conjP [(0 : Int) ≤ p ∧ p < (↑l.length : Int), (0 : Int) ≤ p ∧ p < (↑l.length : Int)]]]) (
 .fork (decide (p < (0 : Int)) || (decide (p ≥ if (16 : Int) < (↑l.length : Int) then (16 : Int) else (↑l.length : Int)) || (decide (l.getD p.toNat (0 : Int) < (0 : Int)) || decide (l.getD p.toNat (0 : Int) ≥ (8 : Int))))) (
  .leaf (((-1 : Int), ()))) (
  .req ((0 : Int) ≤ p ∧ p < (↑l.length : Int)) (
   .req ((0 : Int) ≤ p ∧ p < (↑l.length : Int)) (
    .leaf ((l.getD p.toNat (0 : Int), ())))))) : Tree (Int × PUnit)) := by kernel_rfl
def atS (l : List Int) (p : Int) : Int := if decide (0 ≤ p) && (decide (p < (l.length : Int)) && (decide (p < 16) && nodeB (l.getD p.toNat 0))) then l.getD p.toNat 0 else -1
end Pl
