import Derived.Test.YtmmoifibhhkohaaPl13
import Derived.Test.YtmmoifibhhkohaaSx28
namespace Pl
open Go Sx Go.Proofs Go.RowKit
theorem clone_own : PureOwnOK Try.prog 29 [ints] [ints] (fun x => (List.length (α := Int) x.1 : Int) < 17592186044416) (fun x => x) := clone_fok.own
noncomputable abbrev H1 : Ex := mkEx Try.prog [(29, ownSp [ints] [ints] (fun x => (List.length (α := Int) x.1 : Int) < 17592186044416) (fun x => x))]
theorem H1_ok : H1.Sound := mkEx_sound ⟨ownSp_ok clone_own, trivial⟩
theorem t20o (v b : Int) (l : List Int) :
  fnO H1 [] 100 Try.f20 [Plan] [Plan] ((v, b, l), ()) =
.req ((↑l.length : Int) < (17592186044416 : Int)) (
 .leaf (((v, b, l), ()))) := by kernel_rfl
theorem copied_own : PureOwnOK Try.prog 20 [Plan] [Plan] S1 (fun x => x) :=
  fn_own (E := H1) (n := 100) H1_ok Try.func20 body20 .nil fun x h => Tree.all_eq (t20o x.1.1 x.1.2.1 x.1.2.2) ⟨h, rfl⟩
noncomputable abbrev H2 : Ex := mkEx Try.prog [(20, ownSp [Plan] [Plan] S1 (fun x => x)), K12]
theorem H2_ok : H2.Sound := mkEx_sound ⟨ownSp_ok copied_own, pureSp_ok cmpP_ok, trivial⟩
theorem t10o (v b v' b' : Int) (l l' : List Int) :
  fnO H2 [] 100 Try.f10 [Plan, Plan] [Plan] ((v, b, l), (v', b', l'), ()) =
.req ((↑l'.length : Int) < (4611686018427387904 : Int)) (
 .fork (decide (Pl.cmpP (v', b', l') (v, b, l) > (0 : Int))) (
  .req ((↑l'.length : Int) < (17592186044416 : Int)) (
   .leaf (((v', b', l'), ())))) (
  .req ((↑l.length : Int) < (17592186044416 : Int)) (
   .leaf (((v, b, l), ()))))) := by kernel_rfl
theorem join_own : PureOwnOK Try.prog 10 [Plan, Plan] [Plan] S2 (fun x => (joinP x.1 x.2.1, ())) :=
  fn_own (E := H2) (n := 100) H2_ok Try.func10 body10 .nil fun x h => by
    obtain ⟨⟨v, b, l⟩, ⟨v', b', l'⟩, _⟩ : PlanD × PlanD × Unit := x
    obtain ⟨h1, h2⟩ : (l.length : Int) < small ∧ (l'.length : Int) < small := h
    refine Tree.all_eq (t10o v b v' b' l l') ?_
    show Tree.all _ fun y => y = (joinP (v, b, l) (v', b', l'), ())
    unfold small at h1 h2
    simp only [Tree.all, decide_eq_true_eq, decide_eq_false_iff_not]
    refine ⟨by omega, fun c => ⟨h2, ?_⟩, fun c => ⟨h1, ?_⟩⟩
    · rw [joinP, if_pos c]; rfl
    · rw [joinP, if_neg c]; rfl
noncomputable abbrev H3 : Ex := mkEx Try.prog [K14, K24, K25, (20, ownSp [Plan] [Plan] S1 (fun x => x))]
theorem H3_ok : H3.Sound := mkEx_sound ⟨pureSp_ok may_ok, pureSp_ok node_ok, pureSp_ok full_ok, ownSp_ok copied_own, trivial⟩
theorem t13o (v b : Int) (l : List Int) (by' : Int) (t : List Int) :
  fnO H3 [] 100 Try.f13 [Plan, i64, ints] [Plan, i64] ((v, b, l), by', t, ()) =
.req ((↑l.length : Int) < (4611686018427387904 : Int)) (
 .fork (!Pl.mayB (v, b, l)) (
  .leaf ((((0 : Int), (0 : Int), []), (1 : Int), ()))) (
  .req (True) (
   .fork (!Pl.nodeB by') (
    .leaf ((((0 : Int), (0 : Int), []), (1 : Int), ()))) (
    .req ((↑t.length : Int) < (4611686018427387904 : Int)) (
     .fork (!Pl.fullB t) (
      .leaf ((((0 : Int), (0 : Int), []), (1 : Int), ()))) (
      .fork (v == (1000000 : Int)) (
       .leaf ((((0 : Int), (0 : Int), []), (6 : Int), ()))) (
       .req ((↑t.length : Int) < (17592186044416 : Int)) (
        .leaf (((IntKind.i64.wrap (v + (1 : Int)), by', t), (0 : Int), ())))))))))) := by kernel_rfl
theorem next_own : PureOwnOK Try.prog 13 [Plan, i64, ints] [Plan, i64] S3 N3 :=
  fn_own (E := H3) (n := 100) H3_ok Try.func13 body13 .nil fun x h => by
    obtain ⟨⟨v, b, l⟩, n, t, _⟩ : PlanD × Int × List Int × Unit := x
    obtain ⟨h1, h2⟩ : (l.length : Int) < small ∧ (t.length : Int) < small := h
    refine Tree.all_eq (t13o v b l n t) ?_
    show Tree.all _ fun y => y = ((nextP (v, b, l) n t).1, (nextP (v, b, l) n t).2, ())
    unfold small at h1 h2
    simp only [Tree.all, Bool.not_eq_true', Bool.not_eq_false', beq_iff_eq, beq_eq_false_iff_ne, ne_eq]
    refine ⟨by omega, fun c => ?_, fun c => ⟨trivial, fun d => ?_, fun d => ⟨by omega, fun e => ?_, fun e => ⟨fun f => ?_, fun f => ⟨h2, ?_⟩⟩⟩⟩⟩
    · simp [nextP, c]; rfl
    · simp [nextP, d]; rfl
    · simp [nextP, e]; rfl
    · subst f; simp [nextP, c, d, e]; rfl
    · have := mayB_bound c
      rw [IntWalk.i64_in (v + 1) (by omega)]
      simp [nextP, c, d, e, f]; rfl
noncomputable abbrev HL : Ex := mkEx Try.prog [(8, pureSp [plans] [.bool] (fun x => (List.length (α := PlanD) x.1 : Int) < big) (fun x => (fewL x.1, ()))), (9, pureSp [] [.bool] (fun _ => True) (fun _ => (true, ()))),
  (10, ownSp [Plan, Plan] [Plan] S2 (fun x => (joinP x.1 x.2.1, ()))), (11, pureSp [Plan, Plan] [.bool] pre11 F11), (13, ownSp [Plan, i64, ints] [Plan, i64] S3 N3), K14]
theorem HL_ok : HL.Sound := mkEx_sound ⟨pureSp_ok few_ok, pureSp_ok awake_ok, ownSp_ok join_own, pureSp_ok same_ok, ownSp_ok next_own, pureSp_ok may_ok, trivial⟩
theorem body4 : Try.f4.body = some (bodyOf Try.f4) := by kernel_rfl
end Pl
