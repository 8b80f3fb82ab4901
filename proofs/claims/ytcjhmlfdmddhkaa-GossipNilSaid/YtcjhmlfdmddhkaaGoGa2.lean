import Derived.Test.YtcjhmlfdmddhkaaGoGa
namespace Pl
open Go Sx Go.Proofs Go.RowKit
theorem gbL : Try.f8.body = some (bodyOf Try.f8) := by kernel_rfl
noncomputable abbrev g7 : Ex := mkExM Try.prog [KHv]
noncomputable abbrev g8 : Ex := mkExM Try.prog [KrS, (12, fnI g4 [] 100 Try.f12), (14, fnI g4 [] 100 Try.f14), (16, fnI g3 [] 100 Try.f16), (8, fnI g7 [] 100 Try.f8), (9, pureSp [] [.bool] (fun _ => True) (fun _ => (true, ())))]

theorem g7_ok : g7.Sound := mkExM_sound ⟨fnI_ok (E := E0) E0_ok Try.func19 bodyH .nil, trivial⟩
theorem g8_ok : g8.Sound := mkExM_sound ⟨pureSp_ok rsame_ok, fnI_ok (E := g4) g4_ok Try.func12 gbT .nil, fnI_ok (E := g4) g4_ok Try.func14 gbH .nil, fnI_ok (E := g3) g3_ok Try.func16 gbK .nil, fnI_ok (E := g7) g7_ok Try.func8 gbL .nil, pureSp_ok aw_ok, trivial⟩
theorem tNl (c : CallD) : @Eq _
  (fnT g8 [] 100 Try.f4 [Call] [.bool] (c, ()))
  (.fork (decide ((↑c.2.2.1.2.1.2.2.length : Int) > (100 : Int))) (
 .req (True) (
  .leaf ((true, ())))) (
 .fork (decide ((↑c.2.2.2.1.length : Int) > (20 : Int))) (
  .req (True) (
   .leaf ((true, ())))) (
  .req ((8 = 8 ∧ 16 = 16) ∧ (8 = 8 ∧ 16 = 16) ∧ (0 : Int) < (17592186044416 : Int) ∧ (0 : Int) < (17592186044416 : Int)) (
   .fork (true) (
    .req (True) (
     .leaf ((true, ())))) (
    .leaf ((false, ())))))) : Tree (Bool × PUnit)) := by kernel_rfl
theorem nil_ok : PureOK Try.prog 4 [Call] [.bool] (fun _ => True) (fun _ => (true, ())) :=
  fn_pure (E := g8) (n := 100) g8_ok Try.func4 (by kernel_rfl) .nil fun x _ => by
    obtain ⟨c, _⟩ : CallD × Unit := x
    refine Tree.all_eq (tNl c) ?_
    show Tree.all (α := Bool × Unit) _ Yes
    simp only [all_leaf, all_fork, all_req, conjP, true_and, and_true, yes_t, yes_f, yes_iff, implies_true]
    exact fun _ _ => ⟨⟨by omega, by omega⟩, fun e => e.symm⟩
end Pl
