import Derived.Test.YtmmoifibhhkohaaPl9
namespace Pl
open Go Sx Go.Proofs Go.RowKit
theorem t3 (v b : Int) (l : List Int) (v' b' : Int) (l' : List Int) (v2 b2 : Int) (l2 : List Int) (n : Int) (t : List Int) :
  fnT EL [] 100 Try.f3 [Plan, Plan, Plan, i64, ints] [.bool] ((v, b, l), (v', b', l'), (v2, b2, l2), n, t, ()) =
.req ((3 : Int) < (4611686018427387904 : Int)) (
 .fork (!Pl.fewL [(v, b, l), (v', b', l'), (v2, b2, l2)]) (
  .req (True) (
   .leaf ((true, ())))) (
  .fork (decide ((↑t.length : Int) > (100 : Int))) (
   .req (True) (
    .leaf ((true, ())))) (
   .req ((↑l.length : Int) < (17592186044416 : Int) ∧ (↑l'.length : Int) < (17592186044416 : Int)) (
    .req ((↑l'.length : Int) < (17592186044416 : Int) ∧ (↑l.length : Int) < (17592186044416 : Int)) (
     .req ((↑(Pl.joinP (v, b, l) (v', b', l')).2.2.length : Int) < (4611686018427387904 : Int)) (
      .fork (!Pl.sameF (Pl.joinP (v, b, l) (v', b', l')) (Pl.joinP (v', b', l') (v, b, l))) (
       .leaf ((false, ()))) (
       .req ((↑(Pl.joinP (v, b, l) (v', b', l')).2.2.length : Int) < (4611686018427387904 : Int)) (
        .fork (!Pl.sameF (Pl.joinP (v, b, l) (v', b', l')) (v, b, l)) (
         .req ((↑(Pl.joinP (v, b, l) (v', b', l')).2.2.length : Int) < (4611686018427387904 : Int)) (
          .fork (!Pl.sameF (Pl.joinP (v, b, l) (v', b', l')) (v', b', l')) (
           .leaf ((false, ()))) (
           .req ((↑(Pl.joinP (v, b, l) (v', b', l')).2.2.length : Int) < (17592186044416 : Int) ∧ (↑l2.length : Int) < (17592186044416 : Int)) (
            .req ((↑l'.length : Int) < (17592186044416 : Int) ∧ (↑l2.length : Int) < (17592186044416 : Int)) (
             .req ((↑l.length : Int) < (17592186044416 : Int) ∧ (↑(Pl.joinP (v', b', l') (v2, b2, l2)).2.2.length : Int) < (17592186044416 : Int)) (
              .req ((↑(Pl.joinP (Pl.joinP (v, b, l) (v', b', l')) (v2, b2, l2)).2.2.length : Int) < (4611686018427387904 : Int)) (
               .fork (!Pl.sameF (Pl.joinP (Pl.joinP (v, b, l) (v', b', l')) (v2, b2, l2)) (Pl.joinP (v, b, l) (Pl.joinP (v', b', l') (v2, b2, l2)))) (
                .leaf ((false, ()))) (
                .req ((↑l.length : Int) < (17592186044416 : Int) ∧ (↑l.length : Int) < (17592186044416 : Int)) (
                 .req ((↑(Pl.joinP (v, b, l) (v, b, l)).2.2.length : Int) < (4611686018427387904 : Int)) (
                  .fork (!Pl.sameF (Pl.joinP (v, b, l) (v, b, l)) (v, b, l)) (
                   .leaf ((false, ()))) (
                   .req ((↑l.length : Int) < (4611686018427387904 : Int)) (
                    .fork (decide (Pl.cmpP (v, b, l) (Pl.joinP (v, b, l) (v', b', l')) > (0 : Int))) (
                     .leaf ((false, ()))) (
                     .req ((↑l'.length : Int) < (4611686018427387904 : Int)) (
                      .fork (decide (Pl.cmpP (v', b', l') (Pl.joinP (v, b, l) (v', b', l')) > (0 : Int))) (
                       .leaf ((false, ()))) (
                       .req ((↑l.length : Int) < (4611686018427387904 : Int)) (
                        .req ((↑l'.length : Int) < (4611686018427387904 : Int)) (
                         .req ((↑l.length : Int) < (4611686018427387904 : Int)) (
                          .req ((↑l'.length : Int) < (4611686018427387904 : Int)) (
                           .fork (Pl.cmpP (v, b, l) (v', b', l') != IntKind.i64.wrap ((0 : Int) - Pl.cmpP (v', b', l') (v, b, l))) (
                            .leaf ((false, ()))) (
                            .req ((↑l.length : Int) < (4611686018427387904 : Int)) (
                             .fork (!(Pl.cmpP (v, b, l) (v', b', l') == (0 : Int)) == Pl.sameF (v, b, l) (v', b', l')) (
                              .leaf ((false, ()))) (
                              .fork (decide (Pl.cmpP (v, b, l) (v', b', l') ≤ (0 : Int))) (
                               .fork (decide (Pl.cmpP (v', b', l') (v2, b2, l2) ≤ (0 : Int))) (
                                .fork (decide (Pl.cmpP (v, b, l) (v2, b2, l2) > (0 : Int))) (
                                 .leaf ((false, ()))) (
                                 .req ((↑l.length : Int) < (17592186044416 : Int) ∧ (↑t.length : Int) < (17592186044416 : Int)) (
                                  .fork ((Pl.nextP (v, b, l) n t).2 != (0 : Int)) (
                                   .req (True) (
                                    .leaf ((true, ())))) (
                                   .req ((↑(Pl.nextP (v, b, l) n t).1.2.2.length : Int) < (4611686018427387904 : Int)) (
                                    .fork (Pl.cmpP (Pl.nextP (v, b, l) n t).1 (v, b, l) == (1 : Int)) (
                                     .req ((↑(Pl.nextP (v, b, l) n t).1.2.2.length : Int) < (4611686018427387904 : Int)) (
                                      .fork (Pl.mayB (Pl.nextP (v, b, l) n t).1) (
                                       .fork ((Pl.nextP (v, b, l) n t).1.1 == IntKind.i64.wrap (v + (1 : Int))) (
                                        .req ((↑(Pl.nextP (v, b, l) n t).1.2.2.length : Int) < (17592186044416 : Int) ∧ (↑l.length : Int) < (17592186044416 : Int)) (
                                         .req ((↑(Pl.joinP (Pl.nextP (v, b, l) n t).1 (v, b, l)).2.2.length : Int) < (4611686018427387904 : Int)) (
                                          .fork (Pl.sameF (Pl.joinP (Pl.nextP (v, b, l) n t).1 (v, b, l)) (Pl.nextP (v, b, l) n t).1) (
                                           .req (True) (
                                            .leaf ((true, ())))) (
                                           .leaf ((false, ())))))) (
                                        .leaf ((false, ())))) (
                                       .leaf ((false, ()))))) (
                                     .leaf ((false, ())))))))) (
                                .req ((↑l.length : Int) < (17592186044416 : Int) ∧ (↑t.length : Int) < (17592186044416 : Int)) (
                                 .fork ((Pl.nextP (v, b, l) n t).2 != (0 : Int)) (
                                  .req (True) (
                                   .leaf ((true, ())))) (
                                  .req ((↑(Pl.nextP (v, b, l) n t).1.2.2.length : Int) < (4611686018427387904 : Int)) (
                                   .fork (Pl.cmpP (Pl.nextP (v, b, l) n t).1 (v, b, l) == (1 : Int)) (
                                    .req ((↑(Pl.nextP (v, b, l) n t).1.2.2.length : Int) < (4611686018427387904 : Int)) (
                                     .fork (Pl.mayB (Pl.nextP (v, b, l) n t).1) (
                                      .fork ((Pl.nextP (v, b, l) n t).1.1 == IntKind.i64.wrap (v + (1 : Int))) (
                                       .req ((↑(Pl.nextP (v, b, l) n t).1.2.2.length : Int) < (17592186044416 : Int) ∧ (↑l.length : Int) < (17592186044416 : Int)) (
                                        .req ((↑(Pl.joinP (Pl.nextP (v, b, l) n t).1 (v, b, l)).2.2.length : Int) < (4611686018427387904 : Int)) (
                                         .fork (Pl.sameF (Pl.joinP (Pl.nextP (v, b, l) n t).1 (v, b, l)) (Pl.nextP (v, b, l) n t).1) (
                                          .req (True) (
                                           .leaf ((true, ())))) (
                                          .leaf ((false, ())))))) (
                                       .leaf ((false, ())))) (
                                      .leaf ((false, ()))))) (
                                    .leaf ((false, ())))))))) (
                               .req ((↑l.length : Int) < (17592186044416 : Int) ∧ (↑t.length : Int) < (17592186044416 : Int)) (
                                .fork ((Pl.nextP (v, b, l) n t).2 != (0 : Int)) (
                                 .req (True) (
                                  .leaf ((true, ())))) (
                                 .req ((↑(Pl.nextP (v, b, l) n t).1.2.2.length : Int) < (4611686018427387904 : Int)) (
                                  .fork (Pl.cmpP (Pl.nextP (v, b, l) n t).1 (v, b, l) == (1 : Int)) (
                                   .req ((↑(Pl.nextP (v, b, l) n t).1.2.2.length : Int) < (4611686018427387904 : Int)) (
                                    .fork (Pl.mayB (Pl.nextP (v, b, l) n t).1) (
                                     .fork ((Pl.nextP (v, b, l) n t).1.1 == IntKind.i64.wrap (v + (1 : Int))) (
                                      .req ((↑(Pl.nextP (v, b, l) n t).1.2.2.length : Int) < (17592186044416 : Int) ∧ (↑l.length : Int) < (17592186044416 : Int)) (
                                       .req ((↑(Pl.joinP (Pl.nextP (v, b, l) n t).1 (v, b, l)).2.2.length : Int) < (4611686018427387904 : Int)) (
                                        .fork (Pl.sameF (Pl.joinP (Pl.nextP (v, b, l) n t).1 (v, b, l)) (Pl.nextP (v, b, l) n t).1) (
                                         .req (True) (
                                          .leaf ((true, ())))) (
                                         .leaf ((false, ())))))) (
                                      .leaf ((false, ())))) (
                                     .leaf ((false, ()))))) (
                                   .leaf ((false, ()))))))))))))))))))))))))))))) (
         .req ((↑(Pl.joinP (v, b, l) (v', b', l')).2.2.length : Int) < (17592186044416 : Int) ∧ (↑l2.length : Int) < (17592186044416 : Int)) (
          .req ((↑l'.length : Int) < (17592186044416 : Int) ∧ (↑l2.length : Int) < (17592186044416 : Int)) (
           .req ((↑l.length : Int) < (17592186044416 : Int) ∧ (↑(Pl.joinP (v', b', l') (v2, b2, l2)).2.2.length : Int) < (17592186044416 : Int)) (
            .req ((↑(Pl.joinP (Pl.joinP (v, b, l) (v', b', l')) (v2, b2, l2)).2.2.length : Int) < (4611686018427387904 : Int)) (
             .fork (!Pl.sameF (Pl.joinP (Pl.joinP (v, b, l) (v', b', l')) (v2, b2, l2)) (Pl.joinP (v, b, l) (Pl.joinP (v', b', l') (v2, b2, l2)))) (
              .leaf ((false, ()))) (
              .req ((↑l.length : Int) < (17592186044416 : Int) ∧ (↑l.length : Int) < (17592186044416 : Int)) (
               .req ((↑(Pl.joinP (v, b, l) (v, b, l)).2.2.length : Int) < (4611686018427387904 : Int)) (
                .fork (!Pl.sameF (Pl.joinP (v, b, l) (v, b, l)) (v, b, l)) (
                 .leaf ((false, ()))) (
                 .req ((↑l.length : Int) < (4611686018427387904 : Int)) (
                  .fork (decide (Pl.cmpP (v, b, l) (Pl.joinP (v, b, l) (v', b', l')) > (0 : Int))) (
                   .leaf ((false, ()))) (
                   .req ((↑l'.length : Int) < (4611686018427387904 : Int)) (
                    .fork (decide (Pl.cmpP (v', b', l') (Pl.joinP (v, b, l) (v', b', l')) > (0 : Int))) (
                     .leaf ((false, ()))) (
                     .req ((↑l.length : Int) < (4611686018427387904 : Int)) (
                      .req ((↑l'.length : Int) < (4611686018427387904 : Int)) (
                       .req ((↑l.length : Int) < (4611686018427387904 : Int)) (
                        .req ((↑l'.length : Int) < (4611686018427387904 : Int)) (
                         .fork (Pl.cmpP (v, b, l) (v', b', l') != IntKind.i64.wrap ((0 : Int) - Pl.cmpP (v', b', l') (v, b, l))) (
                          .leaf ((false, ()))) (
                          .req ((↑l.length : Int) < (4611686018427387904 : Int)) (
                           .fork (!(Pl.cmpP (v, b, l) (v', b', l') == (0 : Int)) == Pl.sameF (v, b, l) (v', b', l')) (
                            .leaf ((false, ()))) (
                            .fork (decide (Pl.cmpP (v, b, l) (v', b', l') ≤ (0 : Int))) (
                             .fork (decide (Pl.cmpP (v', b', l') (v2, b2, l2) ≤ (0 : Int))) (
                              .fork (decide (Pl.cmpP (v, b, l) (v2, b2, l2) > (0 : Int))) (
                               .leaf ((false, ()))) (
                               .req ((↑l.length : Int) < (17592186044416 : Int) ∧ (↑t.length : Int) < (17592186044416 : Int)) (
                                .fork ((Pl.nextP (v, b, l) n t).2 != (0 : Int)) (
                                 .req (True) (
                                  .leaf ((true, ())))) (
                                 .req ((↑(Pl.nextP (v, b, l) n t).1.2.2.length : Int) < (4611686018427387904 : Int)) (
                                  .fork (Pl.cmpP (Pl.nextP (v, b, l) n t).1 (v, b, l) == (1 : Int)) (
                                   .req ((↑(Pl.nextP (v, b, l) n t).1.2.2.length : Int) < (4611686018427387904 : Int)) (
                                    .fork (Pl.mayB (Pl.nextP (v, b, l) n t).1) (
                                     .fork ((Pl.nextP (v, b, l) n t).1.1 == IntKind.i64.wrap (v + (1 : Int))) (
                                      .req ((↑(Pl.nextP (v, b, l) n t).1.2.2.length : Int) < (17592186044416 : Int) ∧ (↑l.length : Int) < (17592186044416 : Int)) (
                                       .req ((↑(Pl.joinP (Pl.nextP (v, b, l) n t).1 (v, b, l)).2.2.length : Int) < (4611686018427387904 : Int)) (
                                        .fork (Pl.sameF (Pl.joinP (Pl.nextP (v, b, l) n t).1 (v, b, l)) (Pl.nextP (v, b, l) n t).1) (
                                         .req (True) (
                                          .leaf ((true, ())))) (
                                         .leaf ((false, ())))))) (
                                      .leaf ((false, ())))) (
                                     .leaf ((false, ()))))) (
                                   .leaf ((false, ())))))))) (
                              .req ((↑l.length : Int) < (17592186044416 : Int) ∧ (↑t.length : Int) < (17592186044416 : Int)) (
                               .fork ((Pl.nextP (v, b, l) n t).2 != (0 : Int)) (
                                .req (True) (
                                 .leaf ((true, ())))) (
                                .req ((↑(Pl.nextP (v, b, l) n t).1.2.2.length : Int) < (4611686018427387904 : Int)) (
                                 .fork (Pl.cmpP (Pl.nextP (v, b, l) n t).1 (v, b, l) == (1 : Int)) (
                                  .req ((↑(Pl.nextP (v, b, l) n t).1.2.2.length : Int) < (4611686018427387904 : Int)) (
                                   .fork (Pl.mayB (Pl.nextP (v, b, l) n t).1) (
                                    .fork ((Pl.nextP (v, b, l) n t).1.1 == IntKind.i64.wrap (v + (1 : Int))) (
                                     .req ((↑(Pl.nextP (v, b, l) n t).1.2.2.length : Int) < (17592186044416 : Int) ∧ (↑l.length : Int) < (17592186044416 : Int)) (
                                      .req ((↑(Pl.joinP (Pl.nextP (v, b, l) n t).1 (v, b, l)).2.2.length : Int) < (4611686018427387904 : Int)) (
                                       .fork (Pl.sameF (Pl.joinP (Pl.nextP (v, b, l) n t).1 (v, b, l)) (Pl.nextP (v, b, l) n t).1) (
                                        .req (True) (
                                         .leaf ((true, ())))) (
                                        .leaf ((false, ())))))) (
                                     .leaf ((false, ())))) (
                                    .leaf ((false, ()))))) (
                                  .leaf ((false, ())))))))) (
                             .req ((↑l.length : Int) < (17592186044416 : Int) ∧ (↑t.length : Int) < (17592186044416 : Int)) (
                              .fork ((Pl.nextP (v, b, l) n t).2 != (0 : Int)) (
                               .req (True) (
                                .leaf ((true, ())))) (
                               .req ((↑(Pl.nextP (v, b, l) n t).1.2.2.length : Int) < (4611686018427387904 : Int)) (
                                .fork (Pl.cmpP (Pl.nextP (v, b, l) n t).1 (v, b, l) == (1 : Int)) (
                                 .req ((↑(Pl.nextP (v, b, l) n t).1.2.2.length : Int) < (4611686018427387904 : Int)) (
                                  .fork (Pl.mayB (Pl.nextP (v, b, l) n t).1) (
                                   .fork ((Pl.nextP (v, b, l) n t).1.1 == IntKind.i64.wrap (v + (1 : Int))) (
                                    .req ((↑(Pl.nextP (v, b, l) n t).1.2.2.length : Int) < (17592186044416 : Int) ∧ (↑l.length : Int) < (17592186044416 : Int)) (
                                     .req ((↑(Pl.joinP (Pl.nextP (v, b, l) n t).1 (v, b, l)).2.2.length : Int) < (4611686018427387904 : Int)) (
                                      .fork (Pl.sameF (Pl.joinP (Pl.nextP (v, b, l) n t).1 (v, b, l)) (Pl.nextP (v, b, l) n t).1) (
                                       .req (True) (
                                        .leaf ((true, ())))) (
                                       .leaf ((false, ())))))) (
                                    .leaf ((false, ())))) (
                                   .leaf ((false, ()))))) (
                                 .leaf ((false, ()))))))))))))))))))))))))))))))))))) := by kernel_rfl
theorem join_len (a b : PlanD) (h : a.2.2.length ≤ 100) (k : b.2.2.length ≤ 100) : (joinP a b).2.2.length ≤ 100 := by
  rcases join_either a b with e | e <;> rw [e] <;> assumption
theorem wrap_cmp (a b : PlanD) : IntKind.i64.wrap (0 - cmpP b a) = cmpP a b := by
  have := cmpP_neg a b
  have h := cmpP_vals a b
  rw [IntWalk.i64_in _ (by omega)]; omega
theorem zero_same (a b : PlanD) : (cmpP a b == 0) = sameF a b := by
  unfold sameF
  have := cmpP_zero a b
  by_cases h : a = b
  · simp [h, cmpP_self]
  · have h2 : cmpP a b ≠ 0 := fun e => h (this.1 e)
    simp [h, h2]
theorem joins_t (v b : Int) (l : List Int) (v' b' : Int) (l' : List Int) (v2 b2 : Int) (l2 : List Int) (n : Int) (t : List Int) : (fnT EL [] 100 Try.f3 [Plan, Plan, Plan, i64, ints] [.bool] ((v, b, l), (v', b', l'), (v2, b2, l2), n, t, ())).all fun r => r = (true, ()) := by
  rw [t3]
  generalize ha : ((v, b, l) : PlanD) = p
  generalize hb : ((v', b', l') : PlanD) = q
  generalize hc : ((v2, b2, l2) : PlanD) = r
  rw [wrap_cmp p q, zero_same p q, join_comm q p, join_assoc p q r, join_self p]
  simp only [sameF_self, Bool.not_true]
  have f1 : ¬ cmpP p (joinP p q) > 0 := by have := le_join p q; omega
  have f2 : ¬ cmpP q (joinP p q) > 0 := by have := le_join' p q; omega
  have f3 : cmpP p q ≤ 0 → cmpP q r ≤ 0 → ¬ cmpP p r > 0 := fun h k => by have := cmpP_trans p q r h k; omega
  have f4 : sameF (joinP p q) p = false → sameF (joinP p q) q = false → False := by
    intro h k
    rcases join_either p q with e | e <;> rw [e] at h k <;> simp [sameF] at h k
  by_cases c0 : fewL [p, q, r] = true
  · by_cases c1 : (t.length : Int) > 100
    · simp only [Tree.all, c0, c1, Bool.not_true, decide_true, Bool.false_eq_true, false_implies, true_implies, and_true, Bool.true_eq_false]
      exact ⟨by omega, trivial, trivial, rfl⟩
    · have hlen : p.2.2.length ≤ 100 ∧ q.2.2.length ≤ 100 ∧ r.2.2.length ≤ 100 := by
        simp [fewL] at c0; exact c0
      obtain ⟨m1, m2, m3⟩ := hlen
      have n1 : l.length ≤ 100 := by rw [← ha] at m1; exact m1
      have n2 : l'.length ≤ 100 := by rw [← hb] at m2; exact m2
      have n3 : l2.length ≤ 100 := by rw [← hc] at m3; exact m3
      have j1 := join_len p q m1 m2
      have j2 := join_len q r m2 m3
      have j3 := join_len p (joinP q r) m1 j2
      have big1 : ∀ k : Nat, k ≤ 100 → ((k : Int) < 17592186044416) ∧ ((k : Int) < 4611686018427387904) := fun k h => by omega
      have a1 := big1 _ n1
      have a2 := big1 _ n2
      have a3 := big1 _ n3
      have a4 := big1 _ (show t.length ≤ 100 by omega)
      have a5 := big1 _ j1
      have a6 := big1 _ j2
      have a7 := big1 _ j3
      have a8 := big1 _ m1
      have g1 : decide ((t.length : Int) > 100) = false := decide_eq_false c1
      have g2 : decide (cmpP p (joinP p q) > 0) = false := decide_eq_false f1
      have g3 : decide (cmpP q (joinP p q) > 0) = false := decide_eq_false f2
      have three : ((3 : Int) < 4611686018427387904) := by omega
      simp only [Tree.all, c0, g1, g2, g3, a1, a2, a3, a4, a5, a6, a7, a8, three, Bool.not_true, Bool.false_eq_true, false_implies, true_implies, and_true, true_and, bne_self_eq_false, beq_self_eq_true]
      by_cases hn : (nextP p n t).2 = 0
      · obtain ⟨e1, _⟩ := next_zero hn
        have hv : p.1 = v := by rw [← ha]
        have hab : cmpP (p.1 + 1, n, t) p = 1 := by rw [← ha]; exact next_above v b l n t
        have hmay : mayB (p.1 + 1, n, t) = true := by rw [← ha] at hn ⊢; exact may_next hn
        have hjo : joinP (p.1 + 1, n, t) p = (p.1 + 1, n, t) := by
          have := cmpP_neg (p.1 + 1, n, t) p
          unfold joinP
          rw [if_neg (by omega)]
        have hb2 := mayB_bound (v := p.1) (b := p.2.1) (l := p.2.2) (next_zero hn).2.1
        have hwr : IntKind.i64.wrap (v + 1) = p.1 + 1 := by rw [IntWalk.i64_in _ (by omega)]; omega
        rw [hwr, e1]
        simp only [hab, hmay, hjo, a4, sameF_self, bne_self_eq_false, beq_self_eq_true, Bool.false_eq_true, Bool.true_eq_false, false_implies, true_implies, and_true, true_and]
        exact ⟨fun h => ⟨fun k => (f4 (by simpa using h) (by simpa using k)).elim, fun _ => ⟨fun h => ⟨fun k => ⟨fun g => (f3 (of_decide_eq_true h) (of_decide_eq_true k) (of_decide_eq_true g)).elim, fun _ => rfl⟩, fun _ => rfl⟩, fun _ => rfl⟩⟩,
          fun _ => ⟨fun h => ⟨fun k => ⟨fun g => (f3 (of_decide_eq_true h) (of_decide_eq_true k) (of_decide_eq_true g)).elim, fun _ => rfl⟩, fun _ => rfl⟩, fun _ => rfl⟩⟩
      · have hn' : ((nextP p n t).2 != 0) = true := by simpa using hn
        simp only [hn', Bool.true_eq_false, false_implies, true_implies, and_true]
        exact ⟨fun h => ⟨fun k => (f4 (by simpa using h) (by simpa using k)).elim, fun _ => ⟨fun h => ⟨fun k => ⟨fun g => (f3 (of_decide_eq_true h) (of_decide_eq_true k) (of_decide_eq_true g)).elim, fun _ => rfl⟩, fun _ => rfl⟩, fun _ => rfl⟩⟩,
          fun _ => ⟨fun h => ⟨fun k => ⟨fun g => (f3 (of_decide_eq_true h) (of_decide_eq_true k) (of_decide_eq_true g)).elim, fun _ => rfl⟩, fun _ => rfl⟩, fun _ => rfl⟩⟩
  · have c0 : fewL [p, q, r] = false := by simpa using c0
    simp only [Tree.all, c0, Bool.not_false, Bool.false_eq_true, false_implies, true_implies, and_true, Bool.true_eq_false]
    exact ⟨by omega, trivial, rfl⟩
theorem joins_ok : PureOK Try.prog 3 [Plan, Plan, Plan, i64, ints] [.bool] (fun _ => True) (fun _ => (true, ())) :=
  fn_pure (E := EL) (n := 100) EL_ok Try.func3 body3 .nil fun x _ => joins_t x.1.1 x.1.2.1 x.1.2.2 x.2.1.1 x.2.1.2.1 x.2.1.2.2 x.2.2.1.1 x.2.2.1.2.1 x.2.2.1.2.2 x.2.2.2.1 x.2.2.2.2.1
end Pl
