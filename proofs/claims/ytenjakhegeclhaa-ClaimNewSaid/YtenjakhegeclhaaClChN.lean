import Derived.Test.YtenjakhegeclhaaClChO
namespace Pl
open Go Sx Go.Proofs Go.RowKit
def newB (l m : List Int) : Bool := decide (m.length < 3) || (List.range 16).all (fun p => decide (p = 0) || decide (16 ≤ p + m.length) || !(l.getD p 0 == l.getD (p - 1) 0))
structure ANw where
  l0 : List Int
  l1 : List Int
  i2 : Int
def LNw : LoopC ANw where
  n0 := 4
  det st := match rowS st 4 i64, rowS st 3 i64, intS st 5 with | some l0, some l1, some i2 => some ⟨l0, l1, i2⟩ | _, _, _ => none
  inv a := ⟨[(5, iv a.i2), (4, .one (.row 3)), (3, .one (.row 2))],
    [(3, .ro i64 a.l0), (2, .ro i64 a.l1)], 4⟩
  ok a := a.l0.length = 16 ∧ a.l1.length ≤ 8 ∧ 1 ≤ a.i2 ∧ a.i2 ≤ 16 ∧ newB a.l0 a.l1 = true
  mu a := 16 - a.i2.toNat
  fin a := .leaf ⟨2, ⟨[(4, .one (.row 3)), (3, .one (.row 2))], [(3, .ro i64 a.l0), (2, .ro i64 a.l1)], 4⟩⟩
theorem rNw (l0 l1 : List Int) (i2 : Int) : @Eq _
  (LNw.round W4 [] 100 Try.f8 0 ⟨l0, l1, i2⟩)
  (.fork (decide (i2 < IntKind.i64.wrap ((↑l0.length : Int) - (↑l1.length : Int)))) (
 .req (decide ((↑l1.length : Int) ≥ (3 : Int)) = true → conjP [(0 : Int) ≤ i2 ∧ i2 < (↑l0.length : Int), (0 : Int) ≤ i2 ∧ i2 < (↑l0.length : Int), (0 : Int) ≤ IntKind.i64.wrap (i2 - (1 : Int)) ∧ IntKind.i64.wrap (i2 - (1 : Int)) < (↑l0.length : Int), (0 : Int) ≤ IntKind.i64.wrap (i2 - (1 : Int)) ∧ IntKind.i64.wrap (i2 - (1 : Int)) < (↑l0.length : Int)]) (
  .fork (decide ((↑l1.length : Int) ≥ (3 : Int)) && l0.getD i2.toNat (0 : Int) == l0.getD (IntKind.i64.wrap (i2 - (1 : Int))).toNat (0 : Int)) (
   .req (False) (
    .leaf (Option.none))) (
   .req (IntKind.i64.wrap (i2 + (1 : Int)) = IntKind.i64.wrap (i2 + (1 : Int)) ∧ l0 = l0 ∧ l1 = l1) (
    .leaf (Option.some { l0 := l0, l1 := l1, i2 := IntKind.i64.wrap (i2 + (1 : Int)) }))))) (
 .req (l0 = l0 ∧ l1 = l1) (
  .leaf (Option.none))) : Tree (Option Pl.ANw)) := by kernel_rfl
theorem tNw (ms : List Int) : @Eq _
  (fnT W4 [(0, LNw.sp)] 100 Try.f8 [ints] [.bool] (ms, ()))
  (.fork (decide ((↑ms.length : Int) > (100 : Int))) (
 .req (True) (
  .leaf ((true, ())))) (
 .req ((↑ms.length : Int) < (4611686018427387904 : Int)) (
  .req ((↑ms.length : Int) < (4611686018427387904 : Int)) (
   .fork ((↑(Pl.memL ms).length : Int) == (0 : Int)) (
    .req (((↑(Pl.asgL (([] : List Int)) ms).length : Int) == (0 : Int)) = true → conjP [True]) (
     .leaf (((↑(Pl.asgL (([] : List Int)) ms).length : Int) == (0 : Int) && true, ())))) (
    .req (((↑(Pl.asgL (([] : List Int)) ms).length : Int) != (16 : Int)) = false → conjP [True]) (
     .fork ((↑(Pl.asgL (([] : List Int)) ms).length : Int) != (16 : Int) || Pl.movL (([] : List Int)) (Pl.asgL (([] : List Int)) ms) != (16 : Int)) (
      .leaf ((false, ()))) (
      .req ((Pl.asgL (([] : List Int)) ms).length = 16 ∧ (Pl.memL ms).length ≤ 8 ∧ (1 : Int) ≤ (1 : Int) ∧ (1 : Int) ≤ (16 : Int) ∧ Pl.newB (Pl.asgL (([] : List Int)) ms) (Pl.memL ms) = true) (
       .req ((1 : Int) = (1 : Int) ∧ Pl.asgL (([] : List Int)) ms = Pl.asgL (([] : List Int)) ms ∧ Pl.memL ms = Pl.memL ms) (
        .req (((0 : Int) ≤ (0 : Int) ∧ (0 : Int) < (↑(Pl.asgL (([] : List Int)) ms).length : Int)) ∧ ((0 : Int) ≤ (0 : Int) ∧ (0 : Int) < (↑(Pl.asgL (([] : List Int)) ms).length : Int)) ∧ ((0 : Int) ≤ (0 : Int) ∧ (0 : Int) < (↑(Pl.memL ms).length : Int)) ∧ ((0 : Int) ≤ (0 : Int) ∧ (0 : Int) < (↑(Pl.memL ms).length : Int)) ∧ (((Pl.asgL (([] : List Int)) ms).getD 0 (0 : Int) == (Pl.memL ms).getD 0 (0 : Int)) = true → conjP [True])) (
         .leaf (((Pl.asgL (([] : List Int)) ms).getD 0 (0 : Int) == (Pl.memL ms).getD 0 (0 : Int) && true, ()))))))))))) : Tree (Bool × PUnit)) := by kernel_rfl
end Pl
