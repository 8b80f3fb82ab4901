import Derived.Test.YtenjakhegeclhaaClCf
namespace Pl
open Go Sx Go.Proofs Go.RowKit
theorem bodySm : Try.f12.body = some (bodyOf Try.f12) := by kernel_rfl
theorem aw_t : (fnT W3 [] 100 Try.f11 [] [.bool] ()).all fun y => y = (true, ()) := by
  rw [tAw]
  show Tree.all (α := Bool × Unit) _ Yes
  simp only [all_leaf, all_fork, all_req, yes_t, yes_f, yes_iff]
  simp
theorem aw_ok : PureOK Try.prog 11 [] [.bool] (fun _ => True) (fun _ => (true, ())) :=
  fn_pure (E := W3) (n := 100) W3_ok Try.func11 bodyAw .nil fun x _ => aw_t
structure ASm where
  a : List Int
  b : List Int
  i0 : Int
def LSm : LoopC ASm where
  n0 := 2
  det st := match rowS st 0 i64, rowS st 1 i64, intS st 13 with | some a, some b, some i0 => some ⟨a, b, i0⟩ | _, _, _ => none
  inv a := ⟨[(13, iv a.i0), (12, iv (↑a.a.length : Int)), (0, .one (.row 0)), (1, .one (.row 1))],
    [(0, .ro i64 a.a), (1, .ro i64 a.b)], 2⟩
  ok a := 0 ≤ a.i0 ∧ a.i0 ≤ a.a.length ∧ a.b.length = a.a.length ∧ (a.a.length : Int) < big
  mu a := a.a.length - a.i0.toNat
  fin a := .fork (decide (a.a.drop a.i0.toNat = a.b.drop a.i0.toNat)) (.leaf ⟨2, ⟨[], [], 2⟩⟩) (.leaf ⟨1, ⟨[(4, .one (.cbool false))], [], 2⟩⟩)
theorem rSm (a b : List Int) (i0 : Int) : @Eq _
  (LSm.round E0 [] 100 Try.f12 0 ⟨a, b, i0⟩)
  (.fork (decide (i0 < (↑a.length : Int))) (
 .req ((0 : Int) ≤ i0 ∧ i0 < (↑a.length : Int)) (
  .req ((0 : Int) ≤ i0 ∧ i0 < (↑a.length : Int)) (
   .req ((0 : Int) ≤ i0 ∧ i0 < (↑b.length : Int)) (
    .req ((0 : Int) ≤ i0 ∧ i0 < (↑b.length : Int)) (
     .fork (a.getD i0.toNat (0 : Int) != b.getD i0.toNat (0 : Int)) (
      .fork (decide (List.drop i0.toNat a = List.drop i0.toNat b)) (
       .req (False) (
        .leaf (Option.none))) (
       .req (True) (
        .leaf (Option.none)))) (
      .req (IntKind.i64.wrap (i0 + (1 : Int)) = IntKind.i64.wrap (i0 + (1 : Int)) ∧ (↑a.length : Int) = (↑a.length : Int) ∧ a = a ∧ b = b) (
       .leaf (Option.some { a := a, b := b, i0 := IntKind.i64.wrap (i0 + (1 : Int)) })))))))) (
 .fork (decide (List.drop i0.toNat a = List.drop i0.toNat b)) (
  .req (True) (
   .leaf (Option.none))) (
  .req (False) (
   .leaf (Option.none)))) : Tree (Option Pl.ASm)) := by kernel_rfl
theorem tSm (a b : List Int) : @Eq _
  (fnT E0 [(0, LSm.sp)] 100 Try.f12 [ints, ints] [.bool] (a, b, ()))
  (.fork ((↑a.length : Int) != (↑b.length : Int)) (
 .leaf ((false, ()))) (
 .req ((0 : Int) ≤ (0 : Int) ∧ (0 : Int) ≤ (↑a.length : Int) ∧ b.length = a.length ∧ (↑a.length : Int) < (4611686018427387904 : Int)) (
  .req ((0 : Int) = (0 : Int) ∧ (↑a.length : Int) = (↑a.length : Int) ∧ a = a ∧ b = b) (
   .fork (decide (a = b)) (
    .leaf ((true, ()))) (
    .leaf ((false, ())))))) : Tree (Bool × PUnit)) := by kernel_rfl
end Pl
