import Derived.Test.YtenjakhegeclhaaClCe3
namespace Pl
open Go Sx Go.Proofs Go.RowKit
def asgM (now m q : List Int) : List Int := (asg1 m (asg0 now m 16 0 (List.replicate 16 0) q).1 16 0 (asg0 now m 16 0 (List.replicate 16 0) q).1 (asg0 now m 16 0 (List.replicate 16 0) q).2).1
def asgL (now ms : List Int) : List Int := if (memL ms).length = 0 then [] else asgM now (memL ms) (quotaL now ms)
theorem asg1_len (m t0 : List Int) : ∀ (c p : Nat) (to la : List Int), (asg1 m t0 c p to la).1.length = to.length
  | 0, _, _, _ => rfl
  | c + 1, p, to, la => by simp only [asg1]; split <;> rw [asg1_len m t0 c] <;> simp
theorem quotaL_all (now ms : List Int) (h : (memL ms).length ≠ 0) : (quotaL now ms).sum = 16 ∧ (quotaL now ms).length = (memL ms).length ∧ ∀ x ∈ quotaL now ms, 0 ≤ x ∧ x ≤ 40 := by
  unfold quotaL
  rw [if_neg h]
  exact quotaM_all now (memL ms) (by omega) (memL_len ms)
theorem assign_t (now ms : List Int) (h : (ms.length : Int) < big) : (fnO W2 [(0, LA0.sp), (1, LA1.sp)] 100 Try.f17 [ints, ints] [ints] (now, ms, ())).all fun y => y = (asgL now ms, ()) := by
  rw [tAs]
  show Tree.all (α := List Int × Unit) _ (fun y => y = (asgL now ms, ()))
  simp only [all_leaf, all_fork, all_req, beq_iff_eq, beq_eq_false_iff_ne, ne_eq]
  refine ⟨h, h, fun c => by unfold asgL; rw [if_pos (by omega)], fun c => ?_⟩
  have hc : (memL ms).length ≠ 0 := by omega
  obtain ⟨q1, q2, q3⟩ := quotaL_all now ms hc
  obtain ⟨a1, a2, a3, a4⟩ := asg0_all now (memL ms) (fun x hx => (memL_nn ms x hx).1) 16 0 (List.replicate 16 0) (quotaL now ms) (by omega) (by simp) q2 q3 (by simp; omega)
  have h8 := memL_len ms
  rw [tab_eq a1]
  rw [tab_eq ((asg1_len _ _ _ _ _ _).trans a1)]
  refine ⟨⟨?_, q2, h8, by omega, by omega, q3⟩, ?_⟩
  · repeat' (first | exact trivial | rfl | apply And.intro)
  refine ⟨by repeat' (first | exact trivial | rfl | apply And.intro), ⟨?_, ?_, a2, h8, by omega, by omega, a3, ?_⟩, by repeat' (first | exact trivial | rfl | apply And.intro), ?_, ?_⟩
  all_goals first | exact a4 | omega | (unfold asgL; rw [if_neg hc]; rfl) | repeat' (first | exact trivial | rfl | apply And.intro)
theorem assign_own : PureOwnOK Try.prog 17 [ints, ints] [ints] (fun x => (List.length (α := Int) x.2.1 : Int) < big) (fun x => (asgL x.1 x.2.1, ())) :=
  fn_own (E := W2) (n := 100) W2_ok Try.func17 bodyAs (LpsOK.cons (lA0 0 LA0.sp rfl) (.cons lA1 .nil)) fun x h => assign_t x.1 x.2.1 h
theorem assign_ok : PureOK Try.prog 17 [ints, ints] [ints] (fun x => (List.length (α := Int) x.2.1 : Int) < big) (fun x => (asgL x.1 x.2.1, ())) := assign_own.pure
abbrev KAs : Nat × Sx.Spec := (17, pureSp [ints, ints] [ints] (fun x => (List.length (α := Int) x.2.1 : Int) < big) (fun x => (asgL x.1 x.2.1, ())))
abbrev KQu : Nat × Sx.Spec := (15, pureSp [ints, ints] [ints] (fun x => (List.length (α := Int) x.2.1 : Int) < big) (fun x => (quotaL x.1 x.2.1, ())))
theorem bodyAw : Try.f11.body = some (bodyOf Try.f11) := by kernel_rfl
theorem bodyFew : Try.f10.body = some (bodyOf Try.f10) := by kernel_rfl
noncomputable abbrev W3 : Ex := mkExM Try.prog [KAs, KMo]
theorem W3_ok : W3.Sound := mkExM_sound ⟨pureSp_ok assign_ok, pureSp_ok mov_ok, trivial⟩
theorem tAw  : @Eq _
  (fnT W3 [] 100 Try.f11 [] [.bool] ())
  (.req ((0 : Int) ≤ (16 : Int) ∧ (16 : Int) ≤ (16 : Int) ∧ (128 : Int) ≤ (140737488355328 : Int) ∧ (16 : Int) ≤ (140737488355328 : Int)) (
 .req ((2 : Int) < (4611686018427387904 : Int)) (
  .fork (true) (
   .req ((0 : Int) ≤ (7 : Int) ∧ (7 : Int) < (16 : Int)) (
    .req ((0 : Int) ≤ (7 : Int) ∧ (7 : Int) < (16 : Int)) (
     .fork (true) (
      .req ((0 : Int) ≤ (8 : Int) ∧ (8 : Int) < (16 : Int)) (
       .req ((0 : Int) ≤ (8 : Int) ∧ (8 : Int) < (16 : Int)) (
        .fork (true) (
         .req ((0 : Int) ≤ (16 : Int) ∧ (16 : Int) ≤ (16 : Int) ∧ (128 : Int) ≤ (140737488355328 : Int) ∧ (16 : Int) ≤ (140737488355328 : Int)) (
          .req (True) (
           .leaf ((true, ()))))) (
         .leaf ((false, ())))))) (
      .leaf ((false, ())))))) (
   .leaf ((false, ()))))) : Tree (Bool × PUnit)) := by kernel_rfl
end Pl
namespace Pl
open Go Sx Go.Proofs Go.RowKit
theorem bodySm : Try.f12.body = some (bodyOf Try.f12) := by kernel_rfl
theorem aw_t : (fnT W3 [] 100 Try.f11 [] [.bool] ()).all fun y => y = (true, ()) := by
  rw [tAw]
  show Tree.all (α := Bool × Unit) _ Yes
  simp only [all_leaf, all_fork, all_req, yes_t, yes_f, yes_iff]
  simp
theorem aw_ok : PureOK Try.prog 11 [] [.bool] (fun _ => True) (fun _ => (true, ())) :=
  fn_pure (E := W3) (n := 100) W3_ok Try.func11 bodyAw .nil fun x _ => aw_t
structure ASm where
  a : List Int
  b : List Int
  i0 : Int
def LSm : LoopC ASm where
  n0 := 2
  det st := match rowS st 0 i64, rowS st 1 i64, intS st 13 with | some a, some b, some i0 => some ⟨a, b, i0⟩ | _, _, _ => none
  inv a := ⟨[(13, iv a.i0), (12, iv (↑a.a.length : Int)), (0, .one (.row 0)), (1, .one (.row 1))],
    [(0, .ro i64 a.a), (1, .ro i64 a.b)], 2⟩
  ok a := 0 ≤ a.i0 ∧ a.i0 ≤ a.a.length ∧ a.b.length = a.a.length ∧ (a.a.length : Int) < big
  mu a := a.a.length - a.i0.toNat
  fin a := .fork (decide (a.a.drop a.i0.toNat = a.b.drop a.i0.toNat)) (.leaf ⟨2, ⟨[], [], 2⟩⟩) (.leaf ⟨1, ⟨[(4, .one (.cbool false))], [], 2⟩⟩)
theorem rSm (a b : List Int) (i0 : Int) : @Eq _
  (LSm.round E0 [] 100 Try.f12 0 ⟨a, b, i0⟩)
  (.fork (decide (i0 < (↑a.length : Int))) (
 .req ((0 : Int) ≤ i0 ∧ i0 < (↑a.length : Int)) (
  .req ((0 : Int) ≤ i0 ∧ i0 < (↑a.length : Int)) (
   .req ((0 : Int) ≤ i0 ∧ i0 < (↑b.length : Int)) (
    .req ((0 : Int) ≤ i0 ∧ i0 < (↑b.length : Int)) (
     .fork (a.getD i0.toNat (0 : Int) != b.getD i0.toNat (0 : Int)) (
      .fork (decide (List.drop i0.toNat a = List.drop i0.toNat b)) (
       .req (False) (
        .leaf (Option.none))) (
       .req (True) (
        .leaf (Option.none)))) (
      .req (IntKind.i64.wrap (i0 + (1 : Int)) = IntKind.i64.wrap (i0 + (1 : Int)) ∧ (↑a.length : Int) = (↑a.length : Int) ∧ a = a ∧ b = b) (
       .leaf (Option.some { a := a, b := b, i0 := IntKind.i64.wrap (i0 + (1 : Int)) })))))))) (
 .fork (decide (List.drop i0.toNat a = List.drop i0.toNat b)) (
  .req (True) (
   .leaf (Option.none))) (
  .req (False) (
   .leaf (Option.none)))) : Tree (Option Pl.ASm)) := by kernel_rfl
theorem tSm (a b : List Int) : @Eq _
  (fnT E0 [(0, LSm.sp)] 100 Try.f12 [ints, ints] [.bool] (a, b, ()))
  (.fork ((↑a.length : Int) != (↑b.length : Int)) (
 .leaf ((false, ()))) (
 .req ((0 : Int) ≤ (0 : Int) ∧ (0 : Int) ≤ (↑a.length : Int) ∧ b.length = a.length ∧ (↑a.length : Int) < (4611686018427387904 : Int)) (
  .req ((0 : Int) = (0 : Int) ∧ (↑a.length : Int) = (↑a.length : Int) ∧ a = a ∧ b = b) (
   .fork (decide (a = b)) (
    .leaf ((true, ()))) (
    .leaf ((false, ())))))) : Tree (Bool × PUnit)) := by kernel_rfl
end Pl
