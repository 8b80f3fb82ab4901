import Derived.Test.YtmgglkmpkhdclaaDoorHeHe2
namespace Pl
open Go Sx Go.Proofs Go.RowKit
theorem loud_ok : PureOK Tryd.prog 18 [Claim, Claim] [Claim] (fun _ => True) (fun x => (loudC x.1 x.2.1, ())) :=
  fn_pure (E := H3) (n := 100) H3_ok Tryd.func18 hbO .nil fun x _ => by
    refine Tree.all_eq (thO x.1 x.2.1) ?_
    show Tree.all (α := ClaimD × Unit) _ (fun y => y = (loudC x.1 x.2.1, ()))
    simp only [all_leaf, all_fork, all_req, true_and, and_true, decide_eq_true_eq, decide_eq_false_iff_not, loudC]
    exact ⟨fun c => by rw [if_pos c], fun c => by rw [if_neg c]⟩
theorem ref_ok : PureOK Tryd.prog 11 [i64, i64, Claim] [i64, i64] (fun _ => True) (fun x => ((refC x.1 x.2.1 x.2.2.1).1, (refC x.1 x.2.1 x.2.2.1).2, ())) :=
  fn_pure (E := H3) (n := 100) H3_ok Tryd.func11 hbR .nil fun x _ => by
    obtain ⟨s, i, c, _⟩ : Int × Int × ClaimD × Unit := x
    refine Tree.all_eq (thR s i c) ?_
    show Tree.all (α := Int × Int × Unit) _ (fun y => y = ((refC s i c).1, (refC s i c).2, ()))
    simp only [all_leaf, all_fork, all_req, true_and, and_true, implies_true, conjP]
    have hg : (!decide (s ≥ 0) || (!decide (s < 8) || (decide (i < 0) || (decide (i > 1000000) || !mayC c)))) = !(nodeB s && (decide (0 ≤ i) && (decide (i ≤ 1000000) && mayC c))) := by
      have e1 : decide (0 ≤ i) = !decide (i < 0) := by rw [Bool.eq_iff_iff]; simp
      have e2 : decide (i ≤ 1000000) = !decide (i > 1000000) := by rw [Bool.eq_iff_iff]; simp
      unfold nodeB
      rw [e1, e2]
      generalize decide (s ≥ 0) = p1
      generalize decide (s < 8) = p2
      generalize decide (i < 0) = p3
      generalize decide (i > 1000000) = p4
      generalize mayC c = p5
      cases p1 <;> cases p2 <;> cases p3 <;> cases p4 <;> cases p5 <;> rfl
    rw [hg]
    refine ⟨fun h => ?_, fun h => ⟨fun k => ?_, fun k => ⟨fun l => ?_, fun l => ?_⟩⟩⟩
    · unfold refC; rw [if_neg (by rw [Bool.not_eq_true'] at h; rw [h]; decide)]
    · rw [Bool.not_eq_false'] at h
      unfold refC; rw [if_pos h, if_neg]
      simp only [Bool.or_eq_true, Bool.not_eq_true', bne_iff_ne, ne_eq, Bool.or_eq_false_iff, beq_eq_false_iff_ne, decide_eq_true_eq] at k
      rintro ⟨a1, a2, a3⟩
      rcases k with k | ⟨k1, k2⟩ | k
      · exact k a1
      · rcases a2 with a2 | a2
        · exact k1 a2
        · exact k2 a2
      · exact absurd k (by omega)
    all_goals
      rw [Bool.not_eq_false'] at h
      have hk : c.1 = s ∧ (c.2.2 = 2 ∨ c.2.2 = 3) ∧ i ≤ c.2.1 := by
        simp only [Bool.or_eq_false_iff, Bool.not_eq_false', bne_eq_false_iff_eq, Bool.or_eq_true, beq_iff_eq, decide_eq_false_iff_not] at k
        have k3 := k.2.2
        exact ⟨k.1, k.2.1, Int.not_lt.1 k3⟩
      unfold refC; rw [if_pos h, if_pos hk]
    · rw [if_pos (by simpa using l)]
    · rw [if_neg (by simpa using l)]
      have hm : 0 ≤ c.2.1 ∧ c.2.1 ≤ 1000000 := by
        simp only [Bool.and_eq_true] at h
        have h := h.2.2.2
        unfold mayC at h
        have h0 : ¬ c.2.2 = 0 := by rcases hk.2.1 with e | e <;> rw [e] <;> decide
        rw [if_neg h0] at h
        simp only [Bool.and_eq_true, decide_eq_true_eq] at h
        exact ⟨h.2.1, h.2.2.1⟩
      rw [IntWalk.i64_in (c.2.1 + 1) (by omega)]
theorem G1_ok : G1.Sound := mkExM_sound ⟨fnI_ok (E := E0) E0_ok Tryd.func30 hbI1 .nil, trivial⟩
theorem G2_ok : G2.Sound := mkExM_sound ⟨fnI_ok (E := G1) G1_ok Tryd.func29 hbI2 .nil, trivial⟩
theorem G3_ok : G3.Sound := mkExM_sound ⟨fnI_ok (E := G2) G2_ok Tryd.func28 hbI3 .nil, trivial⟩
theorem G4_ok : G4.Sound := mkExM_sound ⟨pureSp_ok mayC_ok, fnI_ok (E := G3) G3_ok Tryd.func24 hbI4 .nil, trivial⟩
theorem G5_ok : G5.Sound := mkExM_sound ⟨pureSp_ok cmpC_ok, fnI_ok (E := H3) H3_ok Tryd.func11 hbR .nil, fnI_ok (E := G4) G4_ok Tryd.func14 hbT .nil, trivial⟩
theorem aw_ok : PureOK Tryd.prog 10 [] [.bool] (fun _ => True) (fun _ => (true, ())) :=
  fn_pure (E := G5) (n := 100) G5_ok Tryd.func10 hbA .nil fun x _ => by
    refine Tree.all_eq thA ?_
    show Tree.all (α := Bool × Unit) _ (fun y => y = (true, ()))
    simp only [all_leaf, all_fork, all_req, true_and, and_true, implies_true, Bool.false_eq_true, false_implies, true_implies, forall_const, reduceCtorEq]
    omega
abbrev KAw : Nat × Sx.Spec := (10, pureSp [] [.bool] (fun _ => True) (fun _ => (true, ())))
abbrev KhO : Nat × Sx.Spec := (18, pureSp [Claim, Claim] [Claim] (fun _ => True) (fun x => (loudC x.1 x.2.1, ())))
abbrev KhR : Nat × Sx.Spec := (11, pureSp [i64, i64, Claim] [i64, i64] (fun _ => True) (fun x => ((refC x.1 x.2.1 x.2.2.1).1, (refC x.1 x.2.1 x.2.2.1).2, ())))
theorem hbN1 : Tryd.f12.body = some (bodyOf Tryd.f12) := by kernel_rfl
noncomputable abbrev J1 : Ex := mkExM Tryd.prog [KAw, KhC, KhM, KhO, KhR, (12, fnI E0 [] 100 Tryd.f12)]
theorem J1_ok : J1.Sound := mkExM_sound ⟨pureSp_ok aw_ok, pureSp_ok cmpC_ok, pureSp_ok mayC_ok, pureSp_ok loud_ok, pureSp_ok ref_ok, fnI_ok (E := E0) E0_ok Tryd.func12 hbN1 .nil, trivial⟩
theorem tOr (a b c : ClaimD) : @Eq _
  (fnT J1 [] 100 Tryd.f3 [Claim, Claim, Claim] [.bool] (a, b, c, ()))
  (.req (True) (
 .req (True) (
  .req (True) (
   .req (True ∧ ((Pl.cmpC a b == IntKind.i64.wrap ((0 : Int) - Pl.cmpC b a)) = true → conjP ((decide (Pl.cmpC a b ≥ (-1 : Int)) = true → conjP ((decide (Pl.cmpC a b ≤ (1 : Int)) = true → conjP [True, (Pl.cmpC a a == (0 : Int)) = true → conjP [decide (Pl.cmpC a b > (0 : Int)) = true → conjP [decide (Pl.cmpC a b ≥ (0 : Int)) = true → conjP [True], decide (Pl.cmpC a b ≥ (0 : Int)) = false → conjP [decide (Pl.cmpC b c > (0 : Int)) = true → conjP [True], decide (Pl.cmpC b c > (0 : Int)) = false → conjP ((decide (Pl.cmpC a c < (0 : Int)) = true → conjP [True]) :: ([] : List Prop))]], decide (Pl.cmpC a b > (0 : Int)) = false → conjP [decide (Pl.cmpC b c > (0 : Int)) = true → conjP [decide (Pl.cmpC a b ≥ (0 : Int)) = true → conjP [True], decide (Pl.cmpC a b ≥ (0 : Int)) = false → conjP [decide (Pl.cmpC b c > (0 : Int)) = true → conjP [True], decide (Pl.cmpC b c > (0 : Int)) = false → conjP ((decide (Pl.cmpC a c < (0 : Int)) = true → conjP [True]) :: ([] : List Prop))]], decide (Pl.cmpC b c > (0 : Int)) = false → conjP ((decide (Pl.cmpC a c ≤ (0 : Int)) = true → conjP [decide (Pl.cmpC a b ≥ (0 : Int)) = true → conjP [True], decide (Pl.cmpC a b ≥ (0 : Int)) = false → conjP [decide (Pl.cmpC b c > (0 : Int)) = true → conjP [True], decide (Pl.cmpC b c > (0 : Int)) = false → conjP ((decide (Pl.cmpC a c < (0 : Int)) = true → conjP [True]) :: ([] : List Prop))]]) :: ([] : List Prop))]]]) :: ([] : List Prop))) :: ([] : List Prop)))) (
    .leaf ((Pl.cmpC a b == IntKind.i64.wrap ((0 : Int) - Pl.cmpC b a) && (decide (Pl.cmpC a b ≥ (-1 : Int)) && (decide (Pl.cmpC a b ≤ (1 : Int)) && (Pl.cmpC a a == (0 : Int) && bif decide (Pl.cmpC a b > (0 : Int)) then bif decide (Pl.cmpC a b ≥ (0 : Int)) then true else bif decide (Pl.cmpC b c > (0 : Int)) then true else decide (Pl.cmpC a c < (0 : Int)) && true else bif decide (Pl.cmpC b c > (0 : Int)) then bif decide (Pl.cmpC a b ≥ (0 : Int)) then true else bif decide (Pl.cmpC b c > (0 : Int)) then true else decide (Pl.cmpC a c < (0 : Int)) && true else decide (Pl.cmpC a c ≤ (0 : Int)) && bif decide (Pl.cmpC a b ≥ (0 : Int)) then true else bif decide (Pl.cmpC b c > (0 : Int)) then true else decide (Pl.cmpC a c < (0 : Int)) && true))), ())))))) : Tree (Bool × PUnit)) := by kernel_rfl
theorem tRe (s i : Int) (c : ClaimD) : @Eq _
  (fnT J1 [] 100 Tryd.f4 [i64, i64, Claim] [.bool] (s, i, c, ()))
  (.req (True) (
 .fork ((Pl.refC s i c).2 == (1 : Int)) (
  .req (((Pl.refC s i c).1 == (0 : Int)) = true → conjP [decide (s ≥ (0 : Int)) = true → conjP [(!decide (s < (8 : Int))) = true → conjP [True], (!decide (s < (8 : Int))) = false → conjP [decide (i < (0 : Int)) = true → conjP [True], decide (i < (0 : Int)) = false → conjP [decide (i > (1000000 : Int)) = true → conjP [True], decide (i > (1000000 : Int)) = false → conjP [True, (!Pl.mayC c) = true → conjP [True]]]]], decide (s ≥ (0 : Int)) = false → conjP [True]]) (
   .leaf (((Pl.refC s i c).1 == (0 : Int) && bif decide (s ≥ (0 : Int)) then bif !decide (s < (8 : Int)) then true else bif decide (i < (0 : Int)) then true else bif decide (i > (1000000 : Int)) then true else !Pl.mayC c && true else true, ())))) (
  .fork ((Pl.refC s i c).2 == (6 : Int)) (
   .req (((Pl.refC s i c).1 == i) = true → conjP (((c.2.1 == (1000000 : Int)) = true → conjP [True]) :: ([] : List Prop))) (
    .leaf (((Pl.refC s i c).1 == i && (c.2.1 == (1000000 : Int) && true), ())))) (
   .req (((Pl.refC s i c).2 != (0 : Int)) = false → conjP [decide ((Pl.refC s i c).1 < i) = false → conjP [decide ((Pl.refC s i c).1 > (1000000 : Int)) = false → conjP [True]]]) (
    .fork ((Pl.refC s i c).2 != (0 : Int) || (decide ((Pl.refC s i c).1 < i) || (decide ((Pl.refC s i c).1 > (1000000 : Int)) || !Pl.mayC (s, (Pl.refC s i c).1, (1 : Int))))) (
     .leaf ((false, ()))) (
     .req ((c.1 != s) = false → conjP [(c.2.2 == (4 : Int)) = false → conjP [True]]) (
      .fork (c.1 != s || (c.2.2 == (4 : Int) || decide (Pl.cmpC (s, i, (1 : Int)) c ≥ (0 : Int)))) (
       .req (((Pl.refC s i c).1 == i) = true → conjP [True]) (
        .leaf (((Pl.refC s i c).1 == i && true, ())))) (
       .req (((c.2.2 == (1 : Int)) = true → conjP [((Pl.refC s i c).1 == i) = true → conjP [True], ((Pl.refC s i c).1 == i) = false → conjP [True, decide (Pl.cmpC (s, (Pl.refC s i c).1, (1 : Int)) c > (0 : Int)) = true → conjP ((((Pl.refC s i c).1 == IntKind.i64.wrap (c.2.1 + (1 : Int))) = true → conjP [True]) :: ([] : List Prop))]]) ∧ ((c.2.2 == (1 : Int)) = false → conjP [True, decide (Pl.cmpC (s, (Pl.refC s i c).1, (1 : Int)) c > (0 : Int)) = true → conjP ((((Pl.refC s i c).1 == IntKind.i64.wrap (c.2.1 + (1 : Int))) = true → conjP [True]) :: ([] : List Prop))])) (
        .leaf ((bif c.2.2 == (1 : Int) then bif (Pl.refC s i c).1 == i then true else decide (Pl.cmpC (s, (Pl.refC s i c).1, (1 : Int)) c > (0 : Int)) && ((Pl.refC s i c).1 == IntKind.i64.wrap (c.2.1 + (1 : Int)) && true) else decide (Pl.cmpC (s, (Pl.refC s i c).1, (1 : Int)) c > (0 : Int)) && ((Pl.refC s i c).1 == IntKind.i64.wrap (c.2.1 + (1 : Int)) && true), ())))))))))) : Tree (Bool × PUnit)) := by kernel_rfl
theorem tLo (a b c : ClaimD) : @Eq _
  (fnT J1 [] 100 Tryd.f8 [Claim, Claim, Claim] [.bool] (a, b, c, ()))
  (.req (True) (
 .req (True) (
  .req (True) (
   .req (True) (
    .req (True) (
     .req (True) (
      .req ((((Pl.loudC a b).1 == a.1 && ((Pl.loudC a b).2.1 == a.2.1 && ((Pl.loudC a b).2.2 == a.2.2 && true))) = true → conjP [True, decide (Pl.cmpC (Pl.loudC a b) a ≥ (0 : Int)) = true → conjP [True, decide (Pl.cmpC (Pl.loudC a b) b ≥ (0 : Int)) = true → conjP [True, (Pl.cmpC (Pl.loudC a b) (Pl.loudC b a) == (0 : Int)) = true → conjP [True, (Pl.cmpC (Pl.loudC (Pl.loudC a b) c) (Pl.loudC a (Pl.loudC b c)) == (0 : Int)) = true → conjP [True, ((Pl.loudC a a).1 == a.1 && ((Pl.loudC a a).2.1 == a.2.1 && ((Pl.loudC a a).2.2 == a.2.2 && true))) = true → conjP [True]]]]]]) ∧ (((Pl.loudC a b).1 == a.1 && ((Pl.loudC a b).2.1 == a.2.1 && ((Pl.loudC a b).2.2 == a.2.2 && true))) = false → conjP ((((Pl.loudC a b).1 == b.1 && ((Pl.loudC a b).2.1 == b.2.1 && ((Pl.loudC a b).2.2 == b.2.2 && true))) = true → conjP [True, decide (Pl.cmpC (Pl.loudC a b) a ≥ (0 : Int)) = true → conjP [True, decide (Pl.cmpC (Pl.loudC a b) b ≥ (0 : Int)) = true → conjP [True, (Pl.cmpC (Pl.loudC a b) (Pl.loudC b a) == (0 : Int)) = true → conjP [True, (Pl.cmpC (Pl.loudC (Pl.loudC a b) c) (Pl.loudC a (Pl.loudC b c)) == (0 : Int)) = true → conjP [True, ((Pl.loudC a a).1 == a.1 && ((Pl.loudC a a).2.1 == a.2.1 && ((Pl.loudC a a).2.2 == a.2.2 && true))) = true → conjP [True]]]]]]) :: ([] : List Prop)))) (
       .leaf ((bif (Pl.loudC a b).1 == a.1 && ((Pl.loudC a b).2.1 == a.2.1 && ((Pl.loudC a b).2.2 == a.2.2 && true)) then decide (Pl.cmpC (Pl.loudC a b) a ≥ (0 : Int)) && (decide (Pl.cmpC (Pl.loudC a b) b ≥ (0 : Int)) && (Pl.cmpC (Pl.loudC a b) (Pl.loudC b a) == (0 : Int) && (Pl.cmpC (Pl.loudC (Pl.loudC a b) c) (Pl.loudC a (Pl.loudC b c)) == (0 : Int) && ((Pl.loudC a a).1 == a.1 && ((Pl.loudC a a).2.1 == a.2.1 && ((Pl.loudC a a).2.2 == a.2.2 && true)) && true)))) else (Pl.loudC a b).1 == b.1 && ((Pl.loudC a b).2.1 == b.2.1 && ((Pl.loudC a b).2.2 == b.2.2 && true)) && (decide (Pl.cmpC (Pl.loudC a b) a ≥ (0 : Int)) && (decide (Pl.cmpC (Pl.loudC a b) b ≥ (0 : Int)) && (Pl.cmpC (Pl.loudC a b) (Pl.loudC b a) == (0 : Int) && (Pl.cmpC (Pl.loudC (Pl.loudC a b) c) (Pl.loudC a (Pl.loudC b c)) == (0 : Int) && ((Pl.loudC a a).1 == a.1 && ((Pl.loudC a a).2.1 == a.2.1 && ((Pl.loudC a a).2.2 == a.2.2 && true)) && true))))), ()))))))))) : Tree (Bool × PUnit)) := by kernel_rfl
theorem tLe (n i m : Int) : @Eq _
  (fnT J1 [] 100 Tryd.f5 [i64, i64, i64] [.bool] (n, i, m, ()))
  (.req ((8 : Int) ≠ (0 : Int)) (
 .req ((1000 : Int) ≠ (0 : Int)) (
  .req ((1000 : Int) ≠ (0 : Int)) (
   .req (True ∧ ((Pl.cmpC (IntKind.i64.wrap ((IntKind.u64.wrap n).tmod (8 : Int)), IntKind.i64.wrap ((IntKind.u64.wrap i).tmod (1000 : Int)), (1 : Int)) (IntKind.i64.wrap ((IntKind.u64.wrap n).tmod (8 : Int)), IntKind.i64.wrap ((IntKind.u64.wrap i).tmod (1000 : Int)), (1 : Int)) != (0 : Int)) = false → conjP [True])) (
    .fork (Pl.cmpC (IntKind.i64.wrap ((IntKind.u64.wrap n).tmod (8 : Int)), IntKind.i64.wrap ((IntKind.u64.wrap i).tmod (1000 : Int)), (1 : Int)) (IntKind.i64.wrap ((IntKind.u64.wrap n).tmod (8 : Int)), IntKind.i64.wrap ((IntKind.u64.wrap i).tmod (1000 : Int)), (1 : Int)) != (0 : Int) || !Pl.mayC (IntKind.i64.wrap ((IntKind.u64.wrap n).tmod (8 : Int)), IntKind.i64.wrap ((IntKind.u64.wrap i).tmod (1000 : Int)), (1 : Int))) (
     .leaf ((false, ()))) (
     .req (True ∧ ((Pl.cmpC (IntKind.i64.wrap ((IntKind.u64.wrap n).tmod (8 : Int)), IntKind.i64.wrap ((IntKind.u64.wrap i).tmod (1000 : Int)), (1 : Int)) (IntKind.i64.wrap ((IntKind.u64.wrap n).tmod (8 : Int)), IntKind.i64.wrap ((IntKind.u64.wrap i).tmod (1000 : Int)), (2 : Int)) != (-1 : Int)) = false → conjP [True])) (
      .fork (Pl.cmpC (IntKind.i64.wrap ((IntKind.u64.wrap n).tmod (8 : Int)), IntKind.i64.wrap ((IntKind.u64.wrap i).tmod (1000 : Int)), (1 : Int)) (IntKind.i64.wrap ((IntKind.u64.wrap n).tmod (8 : Int)), IntKind.i64.wrap ((IntKind.u64.wrap i).tmod (1000 : Int)), (2 : Int)) != (-1 : Int) || !Pl.mayC (IntKind.i64.wrap ((IntKind.u64.wrap n).tmod (8 : Int)), IntKind.i64.wrap ((IntKind.u64.wrap i).tmod (1000 : Int)), (1 : Int))) (
       .leaf ((false, ()))) (
       .req (True ∧ ((Pl.cmpC (IntKind.i64.wrap ((IntKind.u64.wrap n).tmod (8 : Int)), IntKind.i64.wrap ((IntKind.u64.wrap i).tmod (1000 : Int)), (1 : Int)) (IntKind.i64.wrap ((IntKind.u64.wrap n).tmod (8 : Int)), IntKind.i64.wrap ((IntKind.u64.wrap i).tmod (1000 : Int)), (3 : Int)) != (-1 : Int)) = false → conjP [True])) (
        .fork (Pl.cmpC (IntKind.i64.wrap ((IntKind.u64.wrap n).tmod (8 : Int)), IntKind.i64.wrap ((IntKind.u64.wrap i).tmod (1000 : Int)), (1 : Int)) (IntKind.i64.wrap ((IntKind.u64.wrap n).tmod (8 : Int)), IntKind.i64.wrap ((IntKind.u64.wrap i).tmod (1000 : Int)), (3 : Int)) != (-1 : Int) || !Pl.mayC (IntKind.i64.wrap ((IntKind.u64.wrap n).tmod (8 : Int)), IntKind.i64.wrap ((IntKind.u64.wrap i).tmod (1000 : Int)), (1 : Int))) (
         .leaf ((false, ()))) (
         .req (True ∧ ((Pl.cmpC (IntKind.i64.wrap ((IntKind.u64.wrap n).tmod (8 : Int)), IntKind.i64.wrap ((IntKind.u64.wrap i).tmod (1000 : Int)), (1 : Int)) (IntKind.i64.wrap ((IntKind.u64.wrap n).tmod (8 : Int)), IntKind.i64.wrap (IntKind.i64.wrap ((IntKind.u64.wrap i).tmod (1000 : Int)) + IntKind.i64.wrap ((1 : Int) + IntKind.i64.wrap ((IntKind.u64.wrap m).tmod (1000 : Int)))), (1 : Int)) != (-1 : Int)) = false → conjP [True])) (
          .fork (Pl.cmpC (IntKind.i64.wrap ((IntKind.u64.wrap n).tmod (8 : Int)), IntKind.i64.wrap ((IntKind.u64.wrap i).tmod (1000 : Int)), (1 : Int)) (IntKind.i64.wrap ((IntKind.u64.wrap n).tmod (8 : Int)), IntKind.i64.wrap (IntKind.i64.wrap ((IntKind.u64.wrap i).tmod (1000 : Int)) + IntKind.i64.wrap ((1 : Int) + IntKind.i64.wrap ((IntKind.u64.wrap m).tmod (1000 : Int)))), (1 : Int)) != (-1 : Int) || !Pl.mayC (IntKind.i64.wrap ((IntKind.u64.wrap n).tmod (8 : Int)), IntKind.i64.wrap ((IntKind.u64.wrap i).tmod (1000 : Int)), (1 : Int))) (
           .leaf ((false, ()))) (
           .req (True ∧ (false = false → conjP [True])) (
            .fork (!Pl.mayC (IntKind.i64.wrap ((IntKind.u64.wrap n).tmod (8 : Int)), IntKind.i64.wrap ((IntKind.u64.wrap i).tmod (1000 : Int)), (1 : Int))) (
             .leaf ((false, ()))) (
             .req (True ∧ ((Pl.cmpC (IntKind.i64.wrap ((IntKind.u64.wrap n).tmod (8 : Int)), IntKind.i64.wrap ((IntKind.u64.wrap i).tmod (1000 : Int)), (2 : Int)) (IntKind.i64.wrap ((IntKind.u64.wrap n).tmod (8 : Int)), IntKind.i64.wrap ((IntKind.u64.wrap i).tmod (1000 : Int)), (1 : Int)) != (1 : Int)) = false → conjP [True])) (
              .fork (Pl.cmpC (IntKind.i64.wrap ((IntKind.u64.wrap n).tmod (8 : Int)), IntKind.i64.wrap ((IntKind.u64.wrap i).tmod (1000 : Int)), (2 : Int)) (IntKind.i64.wrap ((IntKind.u64.wrap n).tmod (8 : Int)), IntKind.i64.wrap ((IntKind.u64.wrap i).tmod (1000 : Int)), (1 : Int)) != (1 : Int) || !Pl.mayC (IntKind.i64.wrap ((IntKind.u64.wrap n).tmod (8 : Int)), IntKind.i64.wrap ((IntKind.u64.wrap i).tmod (1000 : Int)), (2 : Int))) (
               .leaf ((false, ()))) (
               .req (True ∧ ((Pl.cmpC (IntKind.i64.wrap ((IntKind.u64.wrap n).tmod (8 : Int)), IntKind.i64.wrap ((IntKind.u64.wrap i).tmod (1000 : Int)), (2 : Int)) (IntKind.i64.wrap ((IntKind.u64.wrap n).tmod (8 : Int)), IntKind.i64.wrap ((IntKind.u64.wrap i).tmod (1000 : Int)), (2 : Int)) != (0 : Int)) = false → conjP [True])) (
                .fork (Pl.cmpC (IntKind.i64.wrap ((IntKind.u64.wrap n).tmod (8 : Int)), IntKind.i64.wrap ((IntKind.u64.wrap i).tmod (1000 : Int)), (2 : Int)) (IntKind.i64.wrap ((IntKind.u64.wrap n).tmod (8 : Int)), IntKind.i64.wrap ((IntKind.u64.wrap i).tmod (1000 : Int)), (2 : Int)) != (0 : Int) || !Pl.mayC (IntKind.i64.wrap ((IntKind.u64.wrap n).tmod (8 : Int)), IntKind.i64.wrap ((IntKind.u64.wrap i).tmod (1000 : Int)), (2 : Int))) (
                 .leaf ((false, ()))) (
                 .req (True ∧ ((Pl.cmpC (IntKind.i64.wrap ((IntKind.u64.wrap n).tmod (8 : Int)), IntKind.i64.wrap ((IntKind.u64.wrap i).tmod (1000 : Int)), (2 : Int)) (IntKind.i64.wrap ((IntKind.u64.wrap n).tmod (8 : Int)), IntKind.i64.wrap ((IntKind.u64.wrap i).tmod (1000 : Int)), (3 : Int)) != (-1 : Int)) = false → conjP [True])) (
                  .fork (Pl.cmpC (IntKind.i64.wrap ((IntKind.u64.wrap n).tmod (8 : Int)), IntKind.i64.wrap ((IntKind.u64.wrap i).tmod (1000 : Int)), (2 : Int)) (IntKind.i64.wrap ((IntKind.u64.wrap n).tmod (8 : Int)), IntKind.i64.wrap ((IntKind.u64.wrap i).tmod (1000 : Int)), (3 : Int)) != (-1 : Int) || !Pl.mayC (IntKind.i64.wrap ((IntKind.u64.wrap n).tmod (8 : Int)), IntKind.i64.wrap ((IntKind.u64.wrap i).tmod (1000 : Int)), (2 : Int))) (
                   .leaf ((false, ()))) (
                   .req (True ∧ ((Pl.cmpC (IntKind.i64.wrap ((IntKind.u64.wrap n).tmod (8 : Int)), IntKind.i64.wrap ((IntKind.u64.wrap i).tmod (1000 : Int)), (2 : Int)) (IntKind.i64.wrap ((IntKind.u64.wrap n).tmod (8 : Int)), IntKind.i64.wrap (IntKind.i64.wrap ((IntKind.u64.wrap i).tmod (1000 : Int)) + IntKind.i64.wrap ((1 : Int) + IntKind.i64.wrap ((IntKind.u64.wrap m).tmod (1000 : Int)))), (1 : Int)) != (-1 : Int)) = false → conjP [True])) (
                    .fork (Pl.cmpC (IntKind.i64.wrap ((IntKind.u64.wrap n).tmod (8 : Int)), IntKind.i64.wrap ((IntKind.u64.wrap i).tmod (1000 : Int)), (2 : Int)) (IntKind.i64.wrap ((IntKind.u64.wrap n).tmod (8 : Int)), IntKind.i64.wrap (IntKind.i64.wrap ((IntKind.u64.wrap i).tmod (1000 : Int)) + IntKind.i64.wrap ((1 : Int) + IntKind.i64.wrap ((IntKind.u64.wrap m).tmod (1000 : Int)))), (1 : Int)) != (-1 : Int) || !Pl.mayC (IntKind.i64.wrap ((IntKind.u64.wrap n).tmod (8 : Int)), IntKind.i64.wrap ((IntKind.u64.wrap i).tmod (1000 : Int)), (2 : Int))) (
                     .leaf ((false, ()))) (
                     .req (True ∧ (false = false → conjP [True])) (
                      .fork (!Pl.mayC (IntKind.i64.wrap ((IntKind.u64.wrap n).tmod (8 : Int)), IntKind.i64.wrap ((IntKind.u64.wrap i).tmod (1000 : Int)), (2 : Int))) (
                       .leaf ((false, ()))) (
                       .req (True ∧ ((Pl.cmpC (IntKind.i64.wrap ((IntKind.u64.wrap n).tmod (8 : Int)), IntKind.i64.wrap ((IntKind.u64.wrap i).tmod (1000 : Int)), (3 : Int)) (IntKind.i64.wrap ((IntKind.u64.wrap n).tmod (8 : Int)), IntKind.i64.wrap ((IntKind.u64.wrap i).tmod (1000 : Int)), (1 : Int)) != (1 : Int)) = false → conjP [True])) (
                        .fork (Pl.cmpC (IntKind.i64.wrap ((IntKind.u64.wrap n).tmod (8 : Int)), IntKind.i64.wrap ((IntKind.u64.wrap i).tmod (1000 : Int)), (3 : Int)) (IntKind.i64.wrap ((IntKind.u64.wrap n).tmod (8 : Int)), IntKind.i64.wrap ((IntKind.u64.wrap i).tmod (1000 : Int)), (1 : Int)) != (1 : Int) || !Pl.mayC (IntKind.i64.wrap ((IntKind.u64.wrap n).tmod (8 : Int)), IntKind.i64.wrap ((IntKind.u64.wrap i).tmod (1000 : Int)), (3 : Int))) (
                         .leaf ((false, ()))) (
                         .req (True ∧ ((Pl.cmpC (IntKind.i64.wrap ((IntKind.u64.wrap n).tmod (8 : Int)), IntKind.i64.wrap ((IntKind.u64.wrap i).tmod (1000 : Int)), (3 : Int)) (IntKind.i64.wrap ((IntKind.u64.wrap n).tmod (8 : Int)), IntKind.i64.wrap ((IntKind.u64.wrap i).tmod (1000 : Int)), (2 : Int)) != (1 : Int)) = false → conjP [True])) (
                          .fork (Pl.cmpC (IntKind.i64.wrap ((IntKind.u64.wrap n).tmod (8 : Int)), IntKind.i64.wrap ((IntKind.u64.wrap i).tmod (1000 : Int)), (3 : Int)) (IntKind.i64.wrap ((IntKind.u64.wrap n).tmod (8 : Int)), IntKind.i64.wrap ((IntKind.u64.wrap i).tmod (1000 : Int)), (2 : Int)) != (1 : Int) || !Pl.mayC (IntKind.i64.wrap ((IntKind.u64.wrap n).tmod (8 : Int)), IntKind.i64.wrap ((IntKind.u64.wrap i).tmod (1000 : Int)), (3 : Int))) (
                           .leaf ((false, ()))) (
                           .req (True ∧ ((Pl.cmpC (IntKind.i64.wrap ((IntKind.u64.wrap n).tmod (8 : Int)), IntKind.i64.wrap ((IntKind.u64.wrap i).tmod (1000 : Int)), (3 : Int)) (IntKind.i64.wrap ((IntKind.u64.wrap n).tmod (8 : Int)), IntKind.i64.wrap ((IntKind.u64.wrap i).tmod (1000 : Int)), (3 : Int)) != (0 : Int)) = false → conjP [True])) (
                            .fork (Pl.cmpC (IntKind.i64.wrap ((IntKind.u64.wrap n).tmod (8 : Int)), IntKind.i64.wrap ((IntKind.u64.wrap i).tmod (1000 : Int)), (3 : Int)) (IntKind.i64.wrap ((IntKind.u64.wrap n).tmod (8 : Int)), IntKind.i64.wrap ((IntKind.u64.wrap i).tmod (1000 : Int)), (3 : Int)) != (0 : Int) || !Pl.mayC (IntKind.i64.wrap ((IntKind.u64.wrap n).tmod (8 : Int)), IntKind.i64.wrap ((IntKind.u64.wrap i).tmod (1000 : Int)), (3 : Int))) (
                             .leaf ((false, ()))) (
                             .req (True ∧ ((Pl.cmpC (IntKind.i64.wrap ((IntKind.u64.wrap n).tmod (8 : Int)), IntKind.i64.wrap ((IntKind.u64.wrap i).tmod (1000 : Int)), (3 : Int)) (IntKind.i64.wrap ((IntKind.u64.wrap n).tmod (8 : Int)), IntKind.i64.wrap (IntKind.i64.wrap ((IntKind.u64.wrap i).tmod (1000 : Int)) + IntKind.i64.wrap ((1 : Int) + IntKind.i64.wrap ((IntKind.u64.wrap m).tmod (1000 : Int)))), (1 : Int)) != (-1 : Int)) = false → conjP [True])) (
                              .fork (Pl.cmpC (IntKind.i64.wrap ((IntKind.u64.wrap n).tmod (8 : Int)), IntKind.i64.wrap ((IntKind.u64.wrap i).tmod (1000 : Int)), (3 : Int)) (IntKind.i64.wrap ((IntKind.u64.wrap n).tmod (8 : Int)), IntKind.i64.wrap (IntKind.i64.wrap ((IntKind.u64.wrap i).tmod (1000 : Int)) + IntKind.i64.wrap ((1 : Int) + IntKind.i64.wrap ((IntKind.u64.wrap m).tmod (1000 : Int)))), (1 : Int)) != (-1 : Int) || !Pl.mayC (IntKind.i64.wrap ((IntKind.u64.wrap n).tmod (8 : Int)), IntKind.i64.wrap ((IntKind.u64.wrap i).tmod (1000 : Int)), (3 : Int))) (
                               .leaf ((false, ()))) (
                               .req (True ∧ (false = false → conjP [True])) (
                                .fork (!Pl.mayC (IntKind.i64.wrap ((IntKind.u64.wrap n).tmod (8 : Int)), IntKind.i64.wrap ((IntKind.u64.wrap i).tmod (1000 : Int)), (3 : Int))) (
                                 .leaf ((false, ()))) (
                                 .req (True ∧ ((Pl.cmpC (IntKind.i64.wrap ((IntKind.u64.wrap n).tmod (8 : Int)), IntKind.i64.wrap (IntKind.i64.wrap ((IntKind.u64.wrap i).tmod (1000 : Int)) + IntKind.i64.wrap ((1 : Int) + IntKind.i64.wrap ((IntKind.u64.wrap m).tmod (1000 : Int)))), (1 : Int)) (IntKind.i64.wrap ((IntKind.u64.wrap n).tmod (8 : Int)), IntKind.i64.wrap ((IntKind.u64.wrap i).tmod (1000 : Int)), (1 : Int)) != (1 : Int)) = false → conjP [True])) (
                                  .fork (Pl.cmpC (IntKind.i64.wrap ((IntKind.u64.wrap n).tmod (8 : Int)), IntKind.i64.wrap (IntKind.i64.wrap ((IntKind.u64.wrap i).tmod (1000 : Int)) + IntKind.i64.wrap ((1 : Int) + IntKind.i64.wrap ((IntKind.u64.wrap m).tmod (1000 : Int)))), (1 : Int)) (IntKind.i64.wrap ((IntKind.u64.wrap n).tmod (8 : Int)), IntKind.i64.wrap ((IntKind.u64.wrap i).tmod (1000 : Int)), (1 : Int)) != (1 : Int) || !Pl.mayC (IntKind.i64.wrap ((IntKind.u64.wrap n).tmod (8 : Int)), IntKind.i64.wrap (IntKind.i64.wrap ((IntKind.u64.wrap i).tmod (1000 : Int)) + IntKind.i64.wrap ((1 : Int) + IntKind.i64.wrap ((IntKind.u64.wrap m).tmod (1000 : Int)))), (1 : Int))) (
                                   .leaf ((false, ()))) (
                                   .req (True ∧ ((Pl.cmpC (IntKind.i64.wrap ((IntKind.u64.wrap n).tmod (8 : Int)), IntKind.i64.wrap (IntKind.i64.wrap ((IntKind.u64.wrap i).tmod (1000 : Int)) + IntKind.i64.wrap ((1 : Int) + IntKind.i64.wrap ((IntKind.u64.wrap m).tmod (1000 : Int)))), (1 : Int)) (IntKind.i64.wrap ((IntKind.u64.wrap n).tmod (8 : Int)), IntKind.i64.wrap ((IntKind.u64.wrap i).tmod (1000 : Int)), (2 : Int)) != (1 : Int)) = false → conjP [True])) (
                                    .fork (Pl.cmpC (IntKind.i64.wrap ((IntKind.u64.wrap n).tmod (8 : Int)), IntKind.i64.wrap (IntKind.i64.wrap ((IntKind.u64.wrap i).tmod (1000 : Int)) + IntKind.i64.wrap ((1 : Int) + IntKind.i64.wrap ((IntKind.u64.wrap m).tmod (1000 : Int)))), (1 : Int)) (IntKind.i64.wrap ((IntKind.u64.wrap n).tmod (8 : Int)), IntKind.i64.wrap ((IntKind.u64.wrap i).tmod (1000 : Int)), (2 : Int)) != (1 : Int) || !Pl.mayC (IntKind.i64.wrap ((IntKind.u64.wrap n).tmod (8 : Int)), IntKind.i64.wrap (IntKind.i64.wrap ((IntKind.u64.wrap i).tmod (1000 : Int)) + IntKind.i64.wrap ((1 : Int) + IntKind.i64.wrap ((IntKind.u64.wrap m).tmod (1000 : Int)))), (1 : Int))) (
                                     .leaf ((false, ()))) (
                                     .req (True ∧ ((Pl.cmpC (IntKind.i64.wrap ((IntKind.u64.wrap n).tmod (8 : Int)), IntKind.i64.wrap (IntKind.i64.wrap ((IntKind.u64.wrap i).tmod (1000 : Int)) + IntKind.i64.wrap ((1 : Int) + IntKind.i64.wrap ((IntKind.u64.wrap m).tmod (1000 : Int)))), (1 : Int)) (IntKind.i64.wrap ((IntKind.u64.wrap n).tmod (8 : Int)), IntKind.i64.wrap ((IntKind.u64.wrap i).tmod (1000 : Int)), (3 : Int)) != (1 : Int)) = false → conjP [True])) (
                                      .fork (Pl.cmpC (IntKind.i64.wrap ((IntKind.u64.wrap n).tmod (8 : Int)), IntKind.i64.wrap (IntKind.i64.wrap ((IntKind.u64.wrap i).tmod (1000 : Int)) + IntKind.i64.wrap ((1 : Int) + IntKind.i64.wrap ((IntKind.u64.wrap m).tmod (1000 : Int)))), (1 : Int)) (IntKind.i64.wrap ((IntKind.u64.wrap n).tmod (8 : Int)), IntKind.i64.wrap ((IntKind.u64.wrap i).tmod (1000 : Int)), (3 : Int)) != (1 : Int) || !Pl.mayC (IntKind.i64.wrap ((IntKind.u64.wrap n).tmod (8 : Int)), IntKind.i64.wrap (IntKind.i64.wrap ((IntKind.u64.wrap i).tmod (1000 : Int)) + IntKind.i64.wrap ((1 : Int) + IntKind.i64.wrap ((IntKind.u64.wrap m).tmod (1000 : Int)))), (1 : Int))) (
                                       .leaf ((false, ()))) (
                                       .req (True ∧ ((Pl.cmpC (IntKind.i64.wrap ((IntKind.u64.wrap n).tmod (8 : Int)), IntKind.i64.wrap (IntKind.i64.wrap ((IntKind.u64.wrap i).tmod (1000 : Int)) + IntKind.i64.wrap ((1 : Int) + IntKind.i64.wrap ((IntKind.u64.wrap m).tmod (1000 : Int)))), (1 : Int)) (IntKind.i64.wrap ((IntKind.u64.wrap n).tmod (8 : Int)), IntKind.i64.wrap (IntKind.i64.wrap ((IntKind.u64.wrap i).tmod (1000 : Int)) + IntKind.i64.wrap ((1 : Int) + IntKind.i64.wrap ((IntKind.u64.wrap m).tmod (1000 : Int)))), (1 : Int)) != (0 : Int)) = false → conjP [True])) (
                                        .fork (Pl.cmpC (IntKind.i64.wrap ((IntKind.u64.wrap n).tmod (8 : Int)), IntKind.i64.wrap (IntKind.i64.wrap ((IntKind.u64.wrap i).tmod (1000 : Int)) + IntKind.i64.wrap ((1 : Int) + IntKind.i64.wrap ((IntKind.u64.wrap m).tmod (1000 : Int)))), (1 : Int)) (IntKind.i64.wrap ((IntKind.u64.wrap n).tmod (8 : Int)), IntKind.i64.wrap (IntKind.i64.wrap ((IntKind.u64.wrap i).tmod (1000 : Int)) + IntKind.i64.wrap ((1 : Int) + IntKind.i64.wrap ((IntKind.u64.wrap m).tmod (1000 : Int)))), (1 : Int)) != (0 : Int) || !Pl.mayC (IntKind.i64.wrap ((IntKind.u64.wrap n).tmod (8 : Int)), IntKind.i64.wrap (IntKind.i64.wrap ((IntKind.u64.wrap i).tmod (1000 : Int)) + IntKind.i64.wrap ((1 : Int) + IntKind.i64.wrap ((IntKind.u64.wrap m).tmod (1000 : Int)))), (1 : Int))) (
                                         .leaf ((false, ()))) (
                                         .req (True ∧ (false = false → conjP [True])) (
                                          .fork (!Pl.mayC (IntKind.i64.wrap ((IntKind.u64.wrap n).tmod (8 : Int)), IntKind.i64.wrap (IntKind.i64.wrap ((IntKind.u64.wrap i).tmod (1000 : Int)) + IntKind.i64.wrap ((1 : Int) + IntKind.i64.wrap ((IntKind.u64.wrap m).tmod (1000 : Int)))), (1 : Int))) (
                                           .leaf ((false, ()))) (
                                           .req (True ∧ (false = false → conjP [True])) (
                                            .fork (!Pl.mayC (IntKind.i64.wrap ((IntKind.u64.wrap n).tmod (8 : Int)), (0 : Int), (4 : Int))) (
                                             .leaf ((false, ()))) (
                                             .req (True ∧ (false = false → conjP [True])) (
                                              .fork (!Pl.mayC (IntKind.i64.wrap ((IntKind.u64.wrap n).tmod (8 : Int)), (0 : Int), (4 : Int))) (
                                               .leaf ((false, ()))) (
                                               .req (True ∧ (false = false → conjP [True])) (
                                                .fork (!Pl.mayC (IntKind.i64.wrap ((IntKind.u64.wrap n).tmod (8 : Int)), (0 : Int), (4 : Int))) (
                                                 .leaf ((false, ()))) (
                                                 .req (True ∧ (false = false → conjP [True])) (
                                                  .fork (!Pl.mayC (IntKind.i64.wrap ((IntKind.u64.wrap n).tmod (8 : Int)), (0 : Int), (4 : Int))) (
                                                   .leaf ((false, ()))) (
                                                   .req (True ∧ (false = false → conjP [True])) (
                                                    .fork (!Pl.mayC (IntKind.i64.wrap ((IntKind.u64.wrap n).tmod (8 : Int)), (0 : Int), (4 : Int))) (
                                                     .leaf ((false, ()))) (
                                                     .req (True) (
                                                      .leaf ((true, ())))))))))))))))))))))))))))))))))))))))))))))))))))))))) : Tree (Bool × PUnit)) := by kernel_rfl
end Pl
