import Derived.Test.YtmgglkmpkhdclaaDoorSx30
import Derived.Test.YtmgglkmpkhdclaaDoorProg
import Derived.IntWalk
namespace Pl
open Go Sx Go.Proofs
abbrev i64 : Ty := .int .i64
abbrev ints : Ty := .slice i64
abbrev Plan : Ty := .cat i64 (.cat i64 ints)
abbrev iv (n : Int) : Tv := .one (.int .i64 n)
abbrev bv (n : Bool) : Tv := .one (.bool n)
abbrev cv (n : Bool) : Tv := .one (.cbool n)
noncomputable abbrev E0 : Ex := mkEx Tryd.prog []
theorem E0_ok : E0.Sound := mkEx_sound trivial
abbrev big : Int := 4611686018427387904
def intAt (slots : List (Nat × Tv)) (s : Nat) : Option Int := match Sx.look slots s with | some (.one (.cint _ i)) => some i | some (.one (.int _ i)) => some i | _ => none

theorem getD_lt {l : List Int} {i : Int} (h0 : 0 ≤ i) (h1 : i < l.length) : l.drop i.toNat = l.getD i.toNat 0 :: l.drop (i.toNat + 1) := by
  have hi : i.toNat < l.length := by omega
  rw [List.drop_eq_getElem_cons hi]
  simp [List.getD_eq_getElem?_getD, hi]

theorem wrap1 {i : Int} (h0 : 0 ≤ i) (h1 : i < big) : IntKind.i64.wrap (i + 1) = i + 1 := by
  unfold big at h1
  exact IntWalk.i64_in _ (by omega)

abbrev PlanD : Type := Int × Int × List Int
def sameF (a b : PlanD) : Bool := decide (a = b)
end Pl
