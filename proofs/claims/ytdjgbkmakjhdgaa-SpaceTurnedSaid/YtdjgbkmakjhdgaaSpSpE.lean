import Derived.Test.YtdjgbkmakjhdgaaSpSpD
namespace Pl
open Go Sx Go.Proofs Go.RowKit
theorem aw_ok : PureOK Try.prog 7 [] [.bool] (fun _ => True) (fun _ => (true, ())) :=
  fn_pure (E := M7) (n := 100) M7_ok Try.func7 sbAw .nil fun x _ => by
    refine Tree.all_eq tAw ?_
    show Tree.all (α := Bool × Unit) _ (fun y => y = (true, ()))
    simp only [all_leaf, all_req, true_and, implies_true, conjP]
abbrev KAw : Nat × Sx.Spec := (7, pureSp [] [.bool] (fun _ => True) (fun _ => (true, ())))
noncomputable abbrev M8 : Ex := mkExM Try.prog [KsT, KAw]
theorem M8_ok : M8.Sound := mkExM_sound ⟨pureSp_ok text_ok, pureSp_ok aw_ok, trivial⟩
structure ATx where
  a : List Int
  b : List Int
  x : ByteArray
  y : ByteArray
  p : Int
def LTx : LoopC ATx where
  n0 := 2
  det st := match rowS st 0 i64, rowS st 1 i64, strS st 5, strS st 6, intS st 31 with | some a, some b, some s0, some s1, some i2 => some ⟨a, b, s0, s1, i2⟩ | _, _, _, _, _ => none
  inv a := ⟨[(31, iv a.p), (6, .one (.str a.y)), (5, .one (.str a.x)), (0, .one (.row 0)), (1, .one (.row 1))],
    [(0, .ro i64 a.a), (1, .ro i64 a.b)], 2⟩
  ok a := 0 ≤ a.p ∧ a.p ≤ 16 ∧ a.x = txtB a.a ∧ a.y = txtB a.b
  mu a := 16 - a.p.toNat
  fin a := .leaf ⟨2, ⟨[], [], 2⟩⟩
theorem rTx (a b : List Int) (x y : ByteArray) (p : Int) : @Eq _
  (LTx.round M8 [] 100 Try.f3 0 ⟨a, b, x, y, p⟩)
  (.fork (decide (p < (16 : Int))) (
 .req (decide (p < (↑a.length : Int)) = true → conjP [(0 : Int) ≤ p ∧ p < (↑a.length : Int), (0 : Int) ≤ p ∧ p < (↑a.length : Int), decide (a.getD p.toNat (0 : Int) ≥ (0 : Int)) = true → conjP [(0 : Int) ≤ p ∧ p < (↑a.length : Int), (0 : Int) ≤ p ∧ p < (↑a.length : Int)]]) (
  .fork (decide (p < (↑a.length : Int)) && (decide (a.getD p.toNat (0 : Int) ≥ (0 : Int)) && decide (a.getD p.toNat (0 : Int) < (8 : Int)))) (
   .req ((0 : Int) ≤ p ∧ p < (↑a.length : Int)) (
    .req ((0 : Int) ≤ p ∧ p < (↑a.length : Int)) (
     .req (decide (p < (↑b.length : Int)) = true → conjP [(0 : Int) ≤ p ∧ p < (↑b.length : Int), (0 : Int) ≤ p ∧ p < (↑b.length : Int), decide (b.getD p.toNat (0 : Int) ≥ (0 : Int)) = true → conjP [(0 : Int) ≤ p ∧ p < (↑b.length : Int), (0 : Int) ≤ p ∧ p < (↑b.length : Int)]]) (
      .fork (decide (p < (↑b.length : Int)) && (decide (b.getD p.toNat (0 : Int) ≥ (0 : Int)) && decide (b.getD p.toNat (0 : Int) < (8 : Int)))) (
       .req ((0 : Int) ≤ p ∧ p < (↑b.length : Int)) (
        .req ((0 : Int) ≤ p ∧ p < (↑b.length : Int)) (
         .req (((0 : Int) ≤ p ∧ p < (↑x.1.1.length : Int)) ∧ ((0 : Int) ≤ p ∧ p < (↑y.1.1.length : Int)) ∧ ((!(byteAt x p == byteAt y p) == (a.getD p.toNat (0 : Int) == b.getD p.toNat (0 : Int))) = false → conjP [(0 : Int) ≤ p ∧ p < (↑x.1.1.length : Int)])) (
          .fork (!(byteAt x p == byteAt y p) == (a.getD p.toNat (0 : Int) == b.getD p.toNat (0 : Int)) || !(byteAt x p == (45 : Int)) == decide (a.getD p.toNat (0 : Int) < (0 : Int))) (
           .req (False) (
            .leaf (Option.none))) (
           .req (IntKind.i64.wrap (p + (1 : Int)) = IntKind.i64.wrap (p + (1 : Int)) ∧ y = y ∧ x = x ∧ a = a ∧ b = b) (
            .leaf (Option.some { a := a, b := b, x := x, y := y, p := IntKind.i64.wrap (p + (1 : Int)) }))))))) (
       .req (((0 : Int) ≤ p ∧ p < (↑x.1.1.length : Int)) ∧ ((0 : Int) ≤ p ∧ p < (↑y.1.1.length : Int)) ∧ ((!(byteAt x p == byteAt y p) == (a.getD p.toNat (0 : Int) == (-1 : Int))) = false → conjP [(0 : Int) ≤ p ∧ p < (↑x.1.1.length : Int)])) (
        .fork (!(byteAt x p == byteAt y p) == (a.getD p.toNat (0 : Int) == (-1 : Int)) || !(byteAt x p == (45 : Int)) == decide (a.getD p.toNat (0 : Int) < (0 : Int))) (
         .req (False) (
          .leaf (Option.none))) (
         .req (IntKind.i64.wrap (p + (1 : Int)) = IntKind.i64.wrap (p + (1 : Int)) ∧ y = y ∧ x = x ∧ a = a ∧ b = b) (
          .leaf (Option.some { a := a, b := b, x := x, y := y, p := IntKind.i64.wrap (p + (1 : Int)) }))))))))) (
   .req (decide (p < (↑b.length : Int)) = true → conjP [(0 : Int) ≤ p ∧ p < (↑b.length : Int), (0 : Int) ≤ p ∧ p < (↑b.length : Int), decide (b.getD p.toNat (0 : Int) ≥ (0 : Int)) = true → conjP [(0 : Int) ≤ p ∧ p < (↑b.length : Int), (0 : Int) ≤ p ∧ p < (↑b.length : Int)]]) (
    .fork (decide (p < (↑b.length : Int)) && (decide (b.getD p.toNat (0 : Int) ≥ (0 : Int)) && decide (b.getD p.toNat (0 : Int) < (8 : Int)))) (
     .req ((0 : Int) ≤ p ∧ p < (↑b.length : Int)) (
      .req ((0 : Int) ≤ p ∧ p < (↑b.length : Int)) (
       .req (((0 : Int) ≤ p ∧ p < (↑x.1.1.length : Int)) ∧ ((0 : Int) ≤ p ∧ p < (↑y.1.1.length : Int)) ∧ ((!(byteAt x p == byteAt y p) == ((-1 : Int) == b.getD p.toNat (0 : Int))) = false → conjP [(0 : Int) ≤ p ∧ p < (↑x.1.1.length : Int)])) (
        .fork (!(byteAt x p == byteAt y p) == ((-1 : Int) == b.getD p.toNat (0 : Int)) || !(byteAt x p == (45 : Int)) == true) (
         .req (False) (
          .leaf (Option.none))) (
         .req (IntKind.i64.wrap (p + (1 : Int)) = IntKind.i64.wrap (p + (1 : Int)) ∧ y = y ∧ x = x ∧ a = a ∧ b = b) (
          .leaf (Option.some { a := a, b := b, x := x, y := y, p := IntKind.i64.wrap (p + (1 : Int)) }))))))) (
     .req (((0 : Int) ≤ p ∧ p < (↑x.1.1.length : Int)) ∧ ((0 : Int) ≤ p ∧ p < (↑y.1.1.length : Int)) ∧ ((!(byteAt x p == byteAt y p) == true) = false → conjP [(0 : Int) ≤ p ∧ p < (↑x.1.1.length : Int)])) (
      .fork (!(byteAt x p == byteAt y p) == true || !(byteAt x p == (45 : Int)) == true) (
       .req (False) (
        .leaf (Option.none))) (
       .req (IntKind.i64.wrap (p + (1 : Int)) = IntKind.i64.wrap (p + (1 : Int)) ∧ y = y ∧ x = x ∧ a = a ∧ b = b) (
        .leaf (Option.some { a := a, b := b, x := x, y := y, p := IntKind.i64.wrap (p + (1 : Int)) }))))))))) (
 .req (True) (
  .leaf (Option.none))) : Tree (Option Pl.ATx)) := by kernel_rfl
theorem tTx (a b : List Int) : @Eq _
  (fnT M8 [(0, LTx.sp)] 100 Try.f3 [ints, ints] [.bool] (a, b, ()))
  (.req (True) (
 .fork (decide ((↑a.length : Int) > (100 : Int)) || decide ((↑b.length : Int) > (100 : Int))) (
  .req (True) (
   .leaf ((true, ())))) (
  .req (True) (
   .req (True) (
    .req (True) (
     .fork (false) (
      .leaf ((false, ()))) (
      .req ((0 : Int) ≤ (0 : Int) ∧ (0 : Int) ≤ (16 : Int) ∧ Pl.txtB a = Pl.txtB a ∧ Pl.txtB b = Pl.txtB b) (
       .req ((0 : Int) = (0 : Int) ∧ Pl.txtB b = Pl.txtB b ∧ Pl.txtB a = Pl.txtB a ∧ a = a ∧ b = b) (
        .req (True) (
         .leaf ((true, ()))))))))))) : Tree (Bool × PUnit)) := by kernel_rfl
end Pl
