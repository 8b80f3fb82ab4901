import Derived.Test.YtdjgbkmakjhdgaaDoorSqSpD
namespace Pl
open Go Sx Go.Proofs Go.RowKit
theorem aw_ok : PureOK Tryd.prog 4 [] [.bool] (fun _ => True) (fun _ => (true, ())) :=
  fn_pure (E := M7) (n := 100) M7_ok Tryd.func4 sbAw .nil fun x _ => by
    refine Tree.all_eq tAw ?_
    show Tree.all (α := Bool × Unit) _ (fun y => y = (true, ()))
    simp only [all_leaf, all_req, true_and, implies_true, conjP]
abbrev KAw : Nat × Sx.Spec := (4, pureSp [] [.bool] (fun _ => True) (fun _ => (true, ())))
noncomputable abbrev M8 : Ex := mkExM Tryd.prog [KsT, KAw]
theorem M8_ok : M8.Sound := mkExM_sound ⟨pureSp_ok text_ok, pureSp_ok aw_ok, trivial⟩
structure ATx where
  a : List Int
  b : List Int
  x : ByteArray
  y : ByteArray
  p : Int
def LTx : LoopC ATx where
  n0 := 2
  det st := match rowS st 0 i64, rowS st 1 i64, strS st 5, strS st 6, intS st 31 with | some a, some b, some s0, some s1, some i2 => some ⟨a, b, s0, s1, i2⟩ | _, _, _, _, _ => none
  inv a := ⟨[(31, iv a.p), (6, .one (.str a.y)), (5, .one (.str a.x)), (0, .one (.row 0)), (1, .one (.row 1))],
    [(0, .ro i64 a.a), (1, .ro i64 a.b)], 2⟩
  ok a := 0 ≤ a.p ∧ a.p ≤ 16 ∧ a.x = txtB a.a ∧ a.y = txtB a.b
  mu a := 16 - a.p.toNat
  fin a := .leaf ⟨2, ⟨[], [], 2⟩⟩
end Pl
