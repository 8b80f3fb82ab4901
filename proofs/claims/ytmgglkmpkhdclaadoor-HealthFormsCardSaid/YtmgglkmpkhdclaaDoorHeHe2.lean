import Derived.Test.YtmgglkmpkhdclaaDoorHeHe
namespace Pl
open Go Sx Go.Proofs Go.RowKit
theorem cmpC_ok : PureOK Tryd.prog 9 [Claim, Claim] [i64] (fun _ => True) (fun x => (cmpC x.1 x.2.1, ())) :=
  fn_pure (E := H1) (n := 100) H1_ok Tryd.func9 hbC .nil fun x _ => by
    obtain ⟨⟨an, ai, ah⟩, ⟨bn, bi, bh⟩, _⟩ := x
    refine Tree.all_eq (thC (an, ai, ah) (bn, bi, bh)) ?_
    show Tree.all (α := Int × Unit) _ (fun y => y = (cmpC (an, ai, ah) (bn, bi, bh), ()))
    simp only [all_leaf, all_fork, all_req, true_and, and_true, beq_iff_eq, beq_eq_false_iff_ne, ne_eq, cmpC, leftI]
    have hor : orL [cmpI ai bi, cmpI ah bh] = if cmpI ai bi = 0 then cmpI ah bh else cmpI ai bi := by
      simp only [orL]; split
      · split
        · rename_i h; exact h.symm
        · rfl
      · rfl
    rw [hor]
    by_cases h1 : ah = 4 <;> by_cases h2 : bh = 4 <;> simp [h1, h2]
noncomputable abbrev H2 : Ex := mkExM Tryd.prog [(23, fnI E0 [] 100 Tryd.f23)]
theorem H2_ok : H2.Sound := mkExM_sound ⟨fnI_ok (E := E0) E0_ok Tryd.func23 hbN .nil, trivial⟩
theorem mayC_ok : PureOK Tryd.prog 13 [Claim] [.bool] (fun _ => True) (fun x => (mayC x.1, ())) :=
  fn_pure (E := H2) (n := 100) H2_ok Tryd.func13 hbM .nil fun x _ => by
    obtain ⟨⟨n, i, h⟩, _⟩ := x
    refine Tree.all_eq (thM (n, i, h)) ?_
    show Tree.all (α := Bool × Unit) _ (fun y => y = (mayC (n, i, h), ()))
    simp only [all_leaf, all_fork, all_req, true_and, and_true, beq_iff_eq, beq_eq_false_iff_ne, ne_eq, mayC, nodeB]
    refine ⟨fun c => ?_, fun c => ⟨fun d => ?_, fun d => ?_⟩⟩
    · rw [← Bool.not_and, Bool.not_eq_true'] at c; rw [c]; rfl
    · rw [← Bool.not_and, Bool.not_eq_false'] at c; rw [c, if_pos d]; simp [Bool.beq_eq_decide_eq]
    · rw [← Bool.not_and, Bool.not_eq_false'] at c; rw [c, if_neg d]; simp
abbrev KhC : Nat × Sx.Spec := (9, pureSp [Claim, Claim] [i64] (fun _ => True) (fun x => (cmpC x.1 x.2.1, ())))
abbrev KhM : Nat × Sx.Spec := (13, pureSp [Claim] [.bool] (fun _ => True) (fun x => (mayC x.1, ())))
noncomputable abbrev H3 : Ex := mkExM Tryd.prog [KhC, KhM, (23, fnI E0 [] 100 Tryd.f23)]
theorem H3_ok : H3.Sound := mkExM_sound ⟨pureSp_ok cmpC_ok, pureSp_ok mayC_ok, fnI_ok (E := E0) E0_ok Tryd.func23 hbN .nil, trivial⟩
def loudC (a b : ClaimD) : ClaimD := if cmpC b a > 0 then b else a
theorem thO (a b : ClaimD) : @Eq _
  (fnT H3 [] 100 Tryd.f18 [Claim, Claim] [Claim] (a, b, ()))
  (.req (True) (
 .fork (decide (Pl.cmpC b a > (0 : Int))) (
  .leaf ((b, ()))) (
  .leaf ((a, ())))) : Tree ((Int × Int × Int) × PUnit)) := by kernel_rfl
theorem thR (s i : Int) (c : ClaimD) : @Eq _
  (fnT H3 [] 100 Tryd.f11 [i64, i64, Claim] [i64, i64] (s, i, c, ()))
  (.req (True) (
 .req (decide (s ≥ (0 : Int)) = true → conjP [(!decide (s < (8 : Int))) = false → conjP [decide (i < (0 : Int)) = false → conjP [decide (i > (1000000 : Int)) = false → conjP [True]]]]) (
  .fork (!decide (s ≥ (0 : Int)) || (!decide (s < (8 : Int)) || (decide (i < (0 : Int)) || (decide (i > (1000000 : Int)) || !Pl.mayC c)))) (
   .leaf (((0 : Int), (1 : Int), ()))) (
   .req (True) (
    .fork (c.1 != s || (!(c.2.2 == (2 : Int) || c.2.2 == (3 : Int)) || decide (c.2.1 < i))) (
     .leaf ((i, (0 : Int), ()))) (
     .fork (c.2.1 == (1000000 : Int)) (
      .leaf ((i, (6 : Int), ()))) (
      .leaf ((IntKind.i64.wrap (c.2.1 + (1 : Int)), (0 : Int), ())))))))) : Tree (Int × Int × PUnit)) := by kernel_rfl
def refC (s i : Int) (c : ClaimD) : Int × Int :=
  if nodeB s && (decide (0 ≤ i) && (decide (i ≤ 1000000) && mayC c)) then
    (if c.1 = s ∧ (c.2.2 = 2 ∨ c.2.2 = 3) ∧ i ≤ c.2.1 then (if c.2.1 = 1000000 then (i, 6) else (c.2.1 + 1, 0)) else (i, 0))
  else (0, 1)
noncomputable abbrev G1 : Ex := mkExM Tryd.prog [(30, fnI E0 [] 100 Tryd.f30)]
noncomputable abbrev G2 : Ex := mkExM Tryd.prog [(29, fnI G1 [] 100 Tryd.f29)]
noncomputable abbrev G3 : Ex := mkExM Tryd.prog [(28, fnI G2 [] 100 Tryd.f28)]
noncomputable abbrev KIt : Nat × Sx.Spec := (24, fnI G3 [] 100 Tryd.f24)
noncomputable abbrev G4 : Ex := mkExM Tryd.prog [KhM, KIt]
noncomputable abbrev KRf : Nat × Sx.Spec := (11, fnI H3 [] 100 Tryd.f11)
noncomputable abbrev KTx : Nat × Sx.Spec := (14, fnI G4 [] 100 Tryd.f14)
noncomputable abbrev G5 : Ex := mkExM Tryd.prog [KhC, KRf, KTx]
theorem thA  : @Eq _
  (fnT G5 [] 100 Tryd.f10 [] [.bool] ())
  (.req (True) (
 .fork (false) (
  .req (True) (
   .fork (true) (
    .req (True) (
     .fork (false) (
      .fork (false) (
       .leaf ((false, ()))) (
       .leaf ((false, ())))) (
      .req ((0 : Int) ≤ (3 : Int) ∧ (3 : Int) ≤ (4 : Int) ∧ (4 : Int) ≤ (36 : Int)) (
       .req ((2 : Int) ≤ (9223372036854775807 : Int)) (
        .req ((9 : Int) ≤ (9223372036854775807 : Int)) (
         .req ((10 : Int) ≤ (9223372036854775807 : Int)) (
          .req ((0 : Int) ≤ (2 : Int) ∧ (2 : Int) ≤ (3 : Int) ∧ (3 : Int) ≤ (36 : Int)) (
           .req ((11 : Int) ≤ (9223372036854775807 : Int)) (
            .fork (true) (
             .leaf ((false, ()))) (
             .leaf ((false, ())))))))))))) (
    .leaf ((false, ()))))) (
  .req (True) (
   .fork (true) (
    .req (True) (
     .fork (false) (
      .fork (false) (
       .leaf ((true, ()))) (
       .leaf ((false, ())))) (
      .req ((0 : Int) ≤ (3 : Int) ∧ (3 : Int) ≤ (4 : Int) ∧ (4 : Int) ≤ (36 : Int)) (
       .req ((2 : Int) ≤ (9223372036854775807 : Int)) (
        .req ((9 : Int) ≤ (9223372036854775807 : Int)) (
         .req ((10 : Int) ≤ (9223372036854775807 : Int)) (
          .req ((0 : Int) ≤ (2 : Int) ∧ (2 : Int) ≤ (3 : Int) ∧ (3 : Int) ≤ (36 : Int)) (
           .req ((11 : Int) ≤ (9223372036854775807 : Int)) (
            .fork (true) (
             .leaf ((true, ()))) (
             .leaf ((false, ())))))))))))) (
    .leaf ((false, ())))))) : Tree (Bool × PUnit)) := by kernel_rfl
end Pl
