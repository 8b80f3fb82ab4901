import Derived.Test.YtmgglkmpkhdclaaDoorHePl2c
import Derived.Test.YtmgglkmpkhdclaaDoorSx31
namespace Pl
open Go Sx Go.Proofs Go.RowKit
abbrev Claim : Ty := .cat i64 (.cat i64 i64)
abbrev ClaimD : Type := Int × Int × Int
def nodeB (x : Int) : Bool := decide (x ≥ 0) && decide (x < 8)
theorem hbL : Tryd.f20.body = some (bodyOf Tryd.f20) := by kernel_rfl
theorem hbC : Tryd.f9.body = some (bodyOf Tryd.f9) := by kernel_rfl
theorem hbN : Tryd.f23.body = some (bodyOf Tryd.f23) := by kernel_rfl
theorem hbM : Tryd.f13.body = some (bodyOf Tryd.f13) := by kernel_rfl
theorem hbO : Tryd.f18.body = some (bodyOf Tryd.f18) := by kernel_rfl
theorem hbR : Tryd.f11.body = some (bodyOf Tryd.f11) := by kernel_rfl
theorem hbT : Tryd.f14.body = some (bodyOf Tryd.f14) := by kernel_rfl
theorem hbI1 : Tryd.f30.body = some (bodyOf Tryd.f30) := by kernel_rfl
theorem hbI2 : Tryd.f29.body = some (bodyOf Tryd.f29) := by kernel_rfl
theorem hbI3 : Tryd.f28.body = some (bodyOf Tryd.f28) := by kernel_rfl
theorem hbI4 : Tryd.f24.body = some (bodyOf Tryd.f24) := by kernel_rfl
theorem hbA : Tryd.f10.body = some (bodyOf Tryd.f10) := by kernel_rfl
noncomputable abbrev H1 : Ex := mkExM Tryd.prog [(20, fnI E0 [] 100 Tryd.f20), (22, pureSp [i64, i64] [i64] (fun _ => True) (fun x => (cmpI x.1 x.2.1, ()))), (21, pureSp [ints] [i64] (fun x => (List.length (α := Int) x.1 : Int) < big) (fun x => (orL x.1, ())))]
theorem H1_ok : H1.Sound := mkExM_sound ⟨fnI_ok (E := E0) E0_ok Tryd.func20 hbL .nil, pureSp_ok cmp_ok, pureSp_ok or_ok, trivial⟩
theorem thC (a b : ClaimD) : @Eq _
  (fnT H1 [] 100 Tryd.f9 [Claim, Claim] [i64] (a, b, ()))
  (.fork (a.2.2 == (4 : Int)) (
 .fork (b.2.2 == (4 : Int)) (
  .fork (a.2.2 == (4 : Int)) (
   .fork (b.2.2 == (4 : Int)) (
    .leaf (((0 : Int), ()))) (
    .leaf (((1 : Int), ())))) (
   .fork (b.2.2 == (4 : Int)) (
    .leaf (((-1 : Int), ()))) (
    .leaf (((0 : Int), ()))))) (
  .fork (a.2.2 == (4 : Int)) (
   .fork (b.2.2 == (4 : Int)) (
    .leaf (((0 : Int), ()))) (
    .leaf (((1 : Int), ())))) (
   .fork (b.2.2 == (4 : Int)) (
    .leaf (((-1 : Int), ()))) (
    .leaf (((0 : Int), ())))))) (
 .fork (b.2.2 == (4 : Int)) (
  .fork (a.2.2 == (4 : Int)) (
   .fork (b.2.2 == (4 : Int)) (
    .leaf (((0 : Int), ()))) (
    .leaf (((1 : Int), ())))) (
   .fork (b.2.2 == (4 : Int)) (
    .leaf (((-1 : Int), ()))) (
    .leaf (((0 : Int), ()))))) (
  .req (True) (
   .req (True) (
    .req ((2 : Int) < (4611686018427387904 : Int)) (
     .leaf ((Pl.orL [Pl.cmpI a.2.1 b.2.1, Pl.cmpI a.2.2 b.2.2], ()))))))) : Tree (Int × PUnit)) := by kernel_rfl
theorem thM (c : ClaimD) : @Eq _
  (fnT (mkExM Tryd.prog [(23, fnI E0 [] 100 Tryd.f23)]) [] 100 Tryd.f13 [Claim] [.bool] (c, ()))
  (.req (True) (
 .fork (!decide (c.1 ≥ (0 : Int)) || !decide (c.1 < (8 : Int))) (
  .leaf ((false, ()))) (
  .fork (c.2.2 == (0 : Int)) (
   .leaf ((c.2.1 == (0 : Int), ()))) (
   .req (True) (
    .leaf ((decide (c.2.1 ≥ (0 : Int)) && (decide (c.2.1 ≤ (1000000 : Int)) && (decide (c.2.2 ≥ (1 : Int)) && decide (c.2.2 ≤ (4 : Int)))), ())))))) : Tree (Bool × PUnit)) := by kernel_rfl
def leftI (c : ClaimD) : Int := if c.2.2 = 4 then 1 else 0
def cmpC (a b : ClaimD) : Int := if leftI a + leftI b > 0 then leftI a - leftI b else if cmpI a.2.1 b.2.1 = 0 then cmpI a.2.2 b.2.2 else cmpI a.2.1 b.2.1
def mayC (c : ClaimD) : Bool := nodeB c.1 && (if c.2.2 = 0 then decide (c.2.1 = 0) else decide (0 ≤ c.2.1) && (decide (c.2.1 ≤ 1000000) && (decide (1 ≤ c.2.2) && decide (c.2.2 ≤ 4))))
end Pl
