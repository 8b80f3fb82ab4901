import Derived.Test.YtmmoifibhhkohaaPl11
import Derived.Test.YtmmoifibhhkohaaPl10
namespace Pl
open Go Sx Go.Proofs Go.RowKit
abbrev tiny : Int := 7000000000000
theorem rjoin_ok : PureOK Try.prog 18 [Plan, Plan] [Plan] (fun x => (List.length (α := Int) x.1.2.2 : Int) < tiny ∧ (List.length (α := Int) x.2.1.2.2 : Int) < tiny) (fun x => (joinP x.1 x.2.1, ())) :=
  fn_pure (E := F3) (n := 100) F3_ok Try.func18 body18 .nil fun x h => by
    obtain ⟨⟨v, b, l⟩, ⟨v', b', l'⟩, _⟩ : PlanD × PlanD × Unit := x
    obtain ⟨h1, h2⟩ : (l.length : Int) < tiny ∧ (l'.length : Int) < tiny := h
    refine Tree.all_eq (t18 v b v' b' l l') ?_
    show Tree.all _ fun y => y = (joinP (v, b, l) (v', b', l'), ())
    unfold tiny at h1 h2
    simp only [Tree.all, decide_eq_true_eq, decide_eq_false_iff_not]
    refine ⟨by omega, fun c => ⟨by omega, ?_⟩, fun c => ⟨by omega, ?_⟩⟩
    · rw [joinP, if_pos c]; rfl
    · rw [joinP, if_neg c]; rfl
theorem rnext_ok : PureOK Try.prog 15 [Plan, i64, ints] [Plan, i64] (fun x => (List.length (α := Int) x.1.2.2 : Int) < tiny ∧ (List.length (α := Int) x.2.2.1 : Int) < tiny) N3 :=
  fn_pure (E := F3) (n := 100) F3_ok Try.func15 body15 .nil fun x h => by
    obtain ⟨⟨v, b, l⟩, n, t, _⟩ : PlanD × Int × List Int × Unit := x
    obtain ⟨h1, h2⟩ : (l.length : Int) < tiny ∧ (t.length : Int) < tiny := h
    refine Tree.all_eq (t15 v b l n t) ?_
    show Tree.all _ fun y => y = ((nextP (v, b, l) n t).1, (nextP (v, b, l) n t).2, ())
    unfold tiny at h1 h2
    simp only [Tree.all, Bool.not_eq_true', Bool.not_eq_false', beq_iff_eq, beq_eq_false_iff_ne, ne_eq]
    refine ⟨by omega, fun c => ?_, fun c => ⟨trivial, fun d => ?_, fun d => ⟨by omega, fun e => ?_, fun e => ⟨fun f => ?_, fun f => ⟨by omega, ?_⟩⟩⟩⟩⟩
    · simp [nextP, c]; rfl
    · simp [nextP, d]; rfl
    · simp [nextP, e]; rfl
    · subst f; simp [nextP, c, d, e]; rfl
    · have := mayB_bound c
      rw [IntWalk.i64_in (v + 1) (by omega)]
      simp [nextP, c, d, e, f]; rfl
noncomputable abbrev EF : Ex := mkEx Try.prog ((15, pureSp [Plan, i64, ints] [Plan, i64] (fun x => (List.length (α := Int) x.1.2.2 : Int) < tiny ∧ (List.length (α := Int) x.2.2.1 : Int) < tiny) N3) ::
  (18, pureSp [Plan, Plan] [Plan] (fun x => (List.length (α := Int) x.1.2.2 : Int) < tiny ∧ (List.length (α := Int) x.2.1.2.2 : Int) < tiny) (fun x => (joinP x.1 x.2.1, ()))) ::
  (17, pureSp [Plan, Plan] [i64] (fun x => (List.length (α := Int) x.1.2.2 : Int) < big) (fun x => (cmpP x.1 x.2.1, ()))) :: (16, pureSp [Plan] [.bool] (fun x => (List.length (α := Int) x.1.2.2 : Int) < big) (fun x => (mayB x.1, ()))) :: tabL)
theorem EF_ok : EF.Sound := mkEx_sound ⟨pureSp_ok rnext_ok, pureSp_ok rjoin_ok, pureSp_ok rcompare_ok, pureSp_ok rmay_ok, pureSp_ok few_ok, pureSp_ok awake_ok, pureSp_ok join_ok, pureSp_ok same_ok, pureSp_ok cmpP_ok, pureSp_ok next_ok, pureSp_ok may_ok, pureSp_ok psame_ok, trivial⟩
theorem t7 (v b : Int) (l : List Int) (v' b' : Int) (l' : List Int) (n : Int) (t : List Int) :
  fnT EF [] 100 Try.f7 [Plan, Plan, i64, ints] [.bool] ((v, b, l), (v', b', l'), n, t, ()) =
.req ((2 : Int) < (4611686018427387904 : Int)) (
 .fork (!Pl.fewL [(v, b, l), (v', b', l')]) (
  .req (True) (
   .leaf ((true, ())))) (
  .fork (decide ((↑t.length : Int) > (100 : Int))) (
   .req (True) (
    .leaf ((true, ())))) (
   .req ((↑l.length : Int) < (17592186044416 : Int) ∧ (↑t.length : Int) < (17592186044416 : Int)) (
    .req ((↑l.length : Int) < (7000000000000 : Int) ∧ (↑t.length : Int) < (7000000000000 : Int)) (
     .req ((↑l.length : Int) < (4611686018427387904 : Int)) (
      .req ((↑l.length : Int) < (4611686018427387904 : Int)) (
       .fork (Pl.mayB (v, b, l) == Pl.mayB (v, b, l)) (
        .req ((↑l.length : Int) < (4611686018427387904 : Int)) (
         .req ((↑l.length : Int) < (4611686018427387904 : Int)) (
          .fork (Pl.cmpP (v, b, l) (v', b', l') == Pl.cmpP (v, b, l) (v', b', l')) (
           .req ((↑l.length : Int) < (17592186044416 : Int) ∧ (↑l'.length : Int) < (17592186044416 : Int)) (
            .req ((↑l.length : Int) < (7000000000000 : Int) ∧ (↑l'.length : Int) < (7000000000000 : Int)) (
             .req ((↑(Pl.joinP (v, b, l) (v', b', l')).2.2.length : Int) < (4611686018427387904 : Int)) (
              .fork (Pl.sameF (Pl.joinP (v, b, l) (v', b', l')) (Pl.joinP (v, b, l) (v', b', l'))) (
               .req ((↑l.length : Int) < (17592186044416 : Int) ∧ (↑l'.length : Int) < (17592186044416 : Int)) (
                .req ((↑l.length : Int) < (4611686018427387904 : Int)) (
                 .fork ((Pl.cmpP (v, b, l) (v', b', l') == (0 : Int)) == Pl.sameF (v, b, l) (v', b', l')) (
                  .req ((↑(Pl.nextP (v, b, l) n t).1.2.2.length : Int) < (4611686018427387904 : Int)) (
                   .fork (Pl.sameF (Pl.nextP (v, b, l) n t).1 (Pl.nextP (v, b, l) n t).1) (
                    .fork ((Pl.nextP (v, b, l) n t).2 == (Pl.nextP (v, b, l) n t).2) (
                     .req (True) (
                      .leaf ((true, ())))) (
                     .leaf ((false, ())))) (
                    .leaf ((false, ()))))) (
                  .leaf ((false, ())))))) (
               .leaf ((false, ()))))))) (
           .leaf ((false, ())))))) (
        .leaf ((false, ())))))))))) := by kernel_rfl
theorem next_len (p : PlanD) (n : Int) (t : List Int) (h : t.length ≤ 100) : (nextP p n t).1.2.2.length ≤ 100 := by
  unfold nextP; split
  · split
    · simp
    · exact h
  · simp
theorem forms_t (v b : Int) (l : List Int) (v' b' : Int) (l' : List Int) (n : Int) (t : List Int) : (fnT EF [] 100 Try.f7 [Plan, Plan, i64, ints] [.bool] ((v, b, l), (v', b', l'), n, t, ())).all fun r => r = (true, ()) := by
  rw [t7]
  by_cases c0 : fewL [(v, b, l), (v', b', l')] = true
  · by_cases c1 : (t.length : Int) > 100
    · simp only [Tree.all, c0, c1, Bool.not_true, decide_true, Bool.false_eq_true, false_implies, true_implies, and_true, Bool.true_eq_false]
      exact ⟨by omega, trivial, trivial, rfl⟩
    · have hlen : l.length ≤ 100 ∧ l'.length ≤ 100 := by
        simp [fewL] at c0; exact c0
      obtain ⟨m1, m2⟩ := hlen
      have j1 := join_len (v, b, l) (v', b', l') m1 m2
      have j2 := next_len (v, b, l) n t (by omega)
      have g1 : decide ((t.length : Int) > 100) = false := decide_eq_false c1
      simp only [Tree.all, c0, g1, zero_same, sameF_self, Bool.not_true, Bool.false_eq_true, false_implies, true_implies, and_true, Bool.true_eq_false, beq_self_eq_true, true_and]
      refine ⟨by omega, ⟨by omega, by omega⟩, ⟨by omega, by omega⟩, by omega, by omega, by omega, by omega, ⟨by omega, by omega⟩, ⟨by omega, by omega⟩, by omega, ⟨by omega, by omega⟩, by omega, by omega, rfl⟩
  · have c0 : fewL [(v, b, l), (v', b', l')] = false := by simpa using c0
    simp only [Tree.all, c0, Bool.not_false, false_implies, true_implies, and_true, Bool.true_eq_false]
    exact ⟨by omega, trivial, rfl⟩
theorem forms_ok : PureOK Try.prog 7 [Plan, Plan, i64, ints] [.bool] (fun _ => True) (fun _ => (true, ())) :=
  fn_pure (E := EF) (n := 100) EF_ok Try.func7 body7 .nil fun x _ => forms_t x.1.1 x.1.2.1 x.1.2.2 x.2.1.1 x.2.1.2.1 x.2.1.2.2 x.2.2.1 x.2.2.2.1
end Pl
