import Derived.Test.YtcjhmlfdmddhkaaGoPl3
import Derived.Test.YtcjhmlfdmddhkaaGoPl4
namespace Pl
open Go Sx Go.Proofs Go.RowKit

abbrev small : Int := 17592186044416
abbrev S1 : TDs [Plan] → Prop := fun x => (List.length (α := Int) x.1.2.2 : Int) < small
abbrev S2 : TDs [Plan, Plan] → Prop := fun x => (List.length (α := Int) x.1.2.2 : Int) < small ∧ (List.length (α := Int) x.2.1.2.2 : Int) < small
theorem body20 : Try.f59.body = some (bodyOf Try.f59) := by kernel_rfl
theorem body10 : Try.f37.body = some (bodyOf Try.f37) := by kernel_rfl
theorem body19 : Try.f32.body = some (bodyOf Try.f32) := by kernel_rfl
noncomputable abbrev E9 : Ex := mkEx Try.prog [(40, pureSp [ints] [ints] (fun x => (List.length (α := Int) x.1 : Int) < small) (fun x => x))]
theorem E9_ok : E9.Sound := mkEx_sound ⟨pureSp_ok clone_ok, trivial⟩
theorem t20 (v b : Int) (l : List Int) :
  fnT E9 [] 100 Try.f59 [Plan] [Plan] ((v, b, l), ()) =
.req ((↑l.length : Int) < (17592186044416 : Int)) (
 .leaf (((v, b, l), ()))) := by kernel_rfl
theorem copied_ok : PureOK Try.prog 59 [Plan] [Plan] S1 (fun x => x) :=
  fn_pure (E := E9) (n := 100) E9_ok Try.func59 body20 .nil fun x h => Tree.all_eq (t20 x.1.1 x.1.2.1 x.1.2.2) ⟨h, rfl⟩
noncomputable abbrev E10 : Ex := mkEx Try.prog [(59, pureSp [Plan] [Plan] S1 (fun x => x)), (54, pureSp [Plan, Plan] [i64] (fun x => (List.length (α := Int) x.1.2.2 : Int) < big) (fun x => (cmpP x.1 x.2.1, ())))]
theorem E10_ok : E10.Sound := mkEx_sound ⟨pureSp_ok copied_ok, pureSp_ok cmpP_ok, trivial⟩
theorem t10 (v b v' b' : Int) (l l' : List Int) :
  fnT E10 [] 100 Try.f37 [Plan, Plan] [Plan] ((v, b, l), (v', b', l'), ()) =
.req ((↑l'.length : Int) < (4611686018427387904 : Int)) (
 .fork (decide (Pl.cmpP (v', b', l') (v, b, l) > (0 : Int))) (
  .req ((↑l'.length : Int) < (17592186044416 : Int)) (
   .leaf (((v', b', l'), ())))) (
  .req ((↑l.length : Int) < (17592186044416 : Int)) (
   .leaf (((v, b, l), ()))))) := by kernel_rfl
theorem t19 (v b v' b' : Int) (l l' : List Int) :
  fnT E10 [] 100 Try.f32 [Plan, Plan] [.bool] ((v, b, l), (v', b', l'), ()) =
.req ((↑l.length : Int) < (4611686018427387904 : Int)) (
 .leaf ((Pl.cmpP (v, b, l) (v', b', l') == (0 : Int), ()))) := by kernel_rfl
def joinP (a b : PlanD) : PlanD := if cmpP b a > 0 then b else a
theorem join_ok : PureOK Try.prog 37 [Plan, Plan] [Plan] S2 (fun x => (joinP x.1 x.2.1, ())) :=
  fn_pure (E := E10) (n := 100) E10_ok Try.func37 body10 .nil fun x h => by
    obtain ⟨⟨v, b, l⟩, ⟨v', b', l'⟩, _⟩ : PlanD × PlanD × Unit := x
    obtain ⟨h1, h2⟩ : (l.length : Int) < small ∧ (l'.length : Int) < small := h
    refine Tree.all_eq (t10 v b v' b' l l') ?_
    show Tree.all _ fun y => y = (joinP (v, b, l) (v', b', l'), ())
    unfold small at h1 h2
    simp only [Tree.all, decide_eq_true_eq, decide_eq_false_iff_not]
    refine ⟨by omega, fun c => ⟨h2, ?_⟩, fun c => ⟨h1, ?_⟩⟩
    · rw [joinP, if_pos c]
    · rw [joinP, if_neg c]
theorem psame_ok : PureOK Try.prog 32 [Plan, Plan] [.bool] S2 (fun x => (cmpP x.1 x.2.1 == 0, ())) :=
  fn_pure (E := E10) (n := 100) E10_ok Try.func32 body19 .nil fun x h => by
    obtain ⟨⟨v, b, l⟩, ⟨v', b', l'⟩, _⟩ : PlanD × PlanD × Unit := x
    obtain ⟨h1, h2⟩ : (l.length : Int) < small ∧ (l'.length : Int) < small := h
    refine Tree.all_eq (t19 v b v' b' l l') ?_
    unfold small at h1 h2
    exact ⟨by omega, rfl⟩
end Pl
