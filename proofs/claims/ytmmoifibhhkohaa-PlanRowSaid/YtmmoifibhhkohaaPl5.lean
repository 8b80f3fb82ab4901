import Derived.Test.YtmmoifibhhkohaaPl4
namespace Pl
open Go Sx Go.Proofs Go.RowKit

abbrev small : Int := 17592186044416
abbrev S1 : TDs [Plan] → Prop := fun x => (List.length (α := Int) x.1.2.2 : Int) < small
abbrev S2 : TDs [Plan, Plan] → Prop := fun x => (List.length (α := Int) x.1.2.2 : Int) < small ∧ (List.length (α := Int) x.2.1.2.2 : Int) < small
theorem body20 : Try.f20.body = some (bodyOf Try.f20) := by kernel_rfl
theorem body10 : Try.f10.body = some (bodyOf Try.f10) := by kernel_rfl
theorem body19 : Try.f19.body = some (bodyOf Try.f19) := by kernel_rfl
theorem body13 : Try.f13.body = some (bodyOf Try.f13) := by kernel_rfl
noncomputable abbrev E9 : Ex := mkEx Try.prog [(29, pureSp [ints] [ints] (fun x => (List.length (α := Int) x.1 : Int) < small) (fun x => x))]
theorem E9_ok : E9.Sound := mkEx_sound ⟨pureSp_ok clone_ok, trivial⟩
theorem t20 (v b : Int) (l : List Int) :
  fnT E9 [] 100 Try.f20 [Plan] [Plan] ((v, b, l), ()) =
.req ((↑l.length : Int) < (17592186044416 : Int)) (
 .leaf (((v, b, l), ()))) := by kernel_rfl
theorem copied_ok : PureOK Try.prog 20 [Plan] [Plan] S1 (fun x => x) :=
  fn_pure (E := E9) (n := 100) E9_ok Try.func20 body20 .nil fun x h => Tree.all_eq (t20 x.1.1 x.1.2.1 x.1.2.2) ⟨h, rfl⟩
noncomputable abbrev E10 : Ex := mkEx Try.prog [(20, pureSp [Plan] [Plan] S1 (fun x => x)), (12, pureSp [Plan, Plan] [i64] (fun x => (List.length (α := Int) x.1.2.2 : Int) < big) (fun x => (cmpP x.1 x.2.1, ())))]
theorem E10_ok : E10.Sound := mkEx_sound ⟨pureSp_ok copied_ok, pureSp_ok cmpP_ok, trivial⟩
theorem t10 (v b v' b' : Int) (l l' : List Int) :
  fnT E10 [] 100 Try.f10 [Plan, Plan] [Plan] ((v, b, l), (v', b', l'), ()) =
.req ((↑l'.length : Int) < (4611686018427387904 : Int)) (
 .fork (decide (Pl.cmpP (v', b', l') (v, b, l) > (0 : Int))) (
  .req ((↑l'.length : Int) < (17592186044416 : Int)) (
   .leaf (((v', b', l'), ())))) (
  .req ((↑l.length : Int) < (17592186044416 : Int)) (
   .leaf (((v, b, l), ()))))) := by kernel_rfl
theorem t19 (v b v' b' : Int) (l l' : List Int) :
  fnT E10 [] 100 Try.f19 [Plan, Plan] [.bool] ((v, b, l), (v', b', l'), ()) =
.req ((↑l.length : Int) < (4611686018427387904 : Int)) (
 .leaf ((Pl.cmpP (v, b, l) (v', b', l') == (0 : Int), ()))) := by kernel_rfl
def joinP (a b : PlanD) : PlanD := if cmpP b a > 0 then b else a
noncomputable abbrev E11 : Ex := mkEx Try.prog [(14, pureSp [Plan] [.bool] (fun x => (List.length (α := Int) x.1.2.2 : Int) < big) (fun x => (mayB x.1, ()))), (24, pureSp [i64] [.bool] (fun _ => True) (fun x => (nodeB x.1, ()))),
  (25, pureSp [ints] [.bool] (fun x => (List.length (α := Int) x.1 : Int) < big) (fun x => (fullB x.1, ()))), (20, pureSp [Plan] [Plan] S1 (fun x => x))]
theorem E11_ok : E11.Sound := mkEx_sound ⟨pureSp_ok may_ok, pureSp_ok node_ok, pureSp_ok full_ok, pureSp_ok copied_ok, trivial⟩
theorem t13 (v b : Int) (l : List Int) (by' : Int) (t : List Int) :
  fnT E11 [] 100 Try.f13 [Plan, i64, ints] [Plan, i64] ((v, b, l), by', t, ()) =
.req ((↑l.length : Int) < (4611686018427387904 : Int)) (
 .fork (!Pl.mayB (v, b, l)) (
  .leaf ((((0 : Int), (0 : Int), []), (1 : Int), ()))) (
  .req (True) (
   .fork (!Pl.nodeB by') (
    .leaf ((((0 : Int), (0 : Int), []), (1 : Int), ()))) (
    .req ((↑t.length : Int) < (4611686018427387904 : Int)) (
     .fork (!Pl.fullB t) (
      .leaf ((((0 : Int), (0 : Int), []), (1 : Int), ()))) (
      .fork (v == (1000000 : Int)) (
       .leaf ((((0 : Int), (0 : Int), []), (6 : Int), ()))) (
       .req ((↑t.length : Int) < (17592186044416 : Int)) (
        .leaf (((IntKind.i64.wrap (v + (1 : Int)), by', t), (0 : Int), ())))))))))) := by kernel_rfl
theorem join_ok : PureOK Try.prog 10 [Plan, Plan] [Plan] S2 (fun x => (joinP x.1 x.2.1, ())) :=
  fn_pure (E := E10) (n := 100) E10_ok Try.func10 body10 .nil fun x h => by
    obtain ⟨⟨v, b, l⟩, ⟨v', b', l'⟩, _⟩ : PlanD × PlanD × Unit := x
    obtain ⟨h1, h2⟩ : (l.length : Int) < small ∧ (l'.length : Int) < small := h
    refine Tree.all_eq (t10 v b v' b' l l') ?_
    show Tree.all _ fun y => y = (joinP (v, b, l) (v', b', l'), ())
    unfold small at h1 h2
    simp only [Tree.all, decide_eq_true_eq, decide_eq_false_iff_not]
    refine ⟨by omega, fun c => ⟨h2, ?_⟩, fun c => ⟨h1, ?_⟩⟩
    · rw [joinP, if_pos c]; rfl
    · rw [joinP, if_neg c]; rfl
theorem psame_ok : PureOK Try.prog 19 [Plan, Plan] [.bool] S2 (fun x => (cmpP x.1 x.2.1 == 0, ())) :=
  fn_pure (E := E10) (n := 100) E10_ok Try.func19 body19 .nil fun x h => by
    obtain ⟨⟨v, b, l⟩, ⟨v', b', l'⟩, _⟩ : PlanD × PlanD × Unit := x
    obtain ⟨h1, h2⟩ : (l.length : Int) < small ∧ (l'.length : Int) < small := h
    refine Tree.all_eq (t19 v b v' b' l l') ?_
    unfold small at h1 h2
    exact ⟨by omega, rfl⟩
def nextP (p : PlanD) (n : Int) (t : List Int) : PlanD × Int :=
  if mayB p && nodeB n && fullB t then if p.1 = 1000000 then ((0, 0, []), 6) else ((p.1 + 1, n, t), 0) else ((0, 0, []), 1)
abbrev S3 : TDs [Plan, i64, ints] → Prop := fun x => (List.length (α := Int) x.1.2.2 : Int) < small ∧ (List.length (α := Int) x.2.2.1 : Int) < small
abbrev N3 : TDs [Plan, i64, ints] → TDs [Plan, i64] := fun x => let r := nextP x.1 x.2.1 x.2.2.1; (r.1, r.2, ())
theorem mayB_bound {v b : Int} {l : List Int} (h : mayB (v, b, l) = true) : 0 ≤ v ∧ v ≤ 1000000 := by
  unfold mayB at h
  split at h <;> simp at h <;> omega
theorem next_ok : PureOK Try.prog 13 [Plan, i64, ints] [Plan, i64] S3 N3 :=
  fn_pure (E := E11) (n := 100) E11_ok Try.func13 body13 .nil fun x h => by
    obtain ⟨⟨v, b, l⟩, n, t, _⟩ : PlanD × Int × List Int × Unit := x
    obtain ⟨h1, h2⟩ : (l.length : Int) < small ∧ (t.length : Int) < small := h
    refine Tree.all_eq (t13 v b l n t) ?_
    show Tree.all _ fun y => y = ((nextP (v, b, l) n t).1, (nextP (v, b, l) n t).2, ())
    unfold small at h1 h2
    simp only [Tree.all, Bool.not_eq_true', Bool.not_eq_false', beq_iff_eq, beq_eq_false_iff_ne, ne_eq]
    refine ⟨by omega, fun c => ?_, fun c => ⟨trivial, fun d => ?_, fun d => ⟨by omega, fun e => ?_, fun e => ⟨fun f => ?_, fun f => ⟨h2, ?_⟩⟩⟩⟩⟩
    · simp [nextP, c]; rfl
    · simp [nextP, d]; rfl
    · simp [nextP, e]; rfl
    · subst f; simp [nextP, c, d, e]; rfl
    · have := mayB_bound c
      rw [IntWalk.i64_in (v + 1) (by omega)]
      simp [nextP, c, d, e, f]; rfl
end Pl
