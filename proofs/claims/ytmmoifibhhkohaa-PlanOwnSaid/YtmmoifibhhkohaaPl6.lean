import Derived.Test.YtmmoifibhhkohaaPl5
namespace Pl
open Go Sx Go.Proofs Go.RowKit

abbrev plans : Ty := .slice Plan
def fewL (l : List PlanD) : Bool := l.all fun p => decide (p.2.2.length ≤ 100)
structure A8 where
  l : List PlanD
  i : Int
def L8 : LoopC A8 where
  n0 := 1
  det st := match Sx.look st.gh 0, intAt st.slots 7 with
    | some (.ro (.cat (.int .i64) (.cat (.int .i64) (.slice (.int .i64)))) l), some i => some ⟨l, i⟩
    | _, _ => none
  inv a := ⟨[(7, iv a.i), (6, iv a.l.length), (5, .one (.row 0))], [(0, .ro Plan a.l)], 1⟩
  ok a := 0 ≤ a.i ∧ a.i ≤ a.l.length ∧ (a.l.length : Int) < big
  mu a := a.l.length - a.i.toNat
  fin a := .fork (fewL (a.l.drop a.i.toNat)) (.leaf ⟨2, ⟨[], [], 1⟩⟩) (.leaf ⟨1, ⟨[(2, cv false)], [], 1⟩⟩)
theorem body8 : Try.f8.body = some (bodyOf Try.f8) := by kernel_rfl
theorem r8 (l : List PlanD) (i : Int) :
  L8.round E0 [] 100 Try.f8 0 ⟨l, i⟩ =
.fork (decide (i < (↑l.length : Int))) (
 .req ((0 : Int) ≤ i ∧ i < (↑l.length : Int)) (
  .req ((0 : Int) ≤ i ∧ i < (↑l.length : Int)) (
   .fork (decide ((↑(l.getD i.toNat ((0 : Int), (0 : Int), [])).2.2.length : Int) > (100 : Int))) (
    .fork (Pl.fewL (List.drop i.toNat l)) (
     .req (False) (
      .leaf (Option.none))) (
     .req (True) (
      .leaf (Option.none)))) (
    .req (IntKind.i64.wrap (i + (1 : Int)) = IntKind.i64.wrap (i + (1 : Int)) ∧ (↑l.length : Int) = (↑l.length : Int) ∧ l = l) (
     .leaf (Option.some { l := l, i := IntKind.i64.wrap (i + (1 : Int)) })))))) (
 .fork (Pl.fewL (List.drop i.toNat l)) (
  .req (True) (
   .leaf (Option.none))) (
  .req (False) (
   .leaf (Option.none)))) := by kernel_rfl
theorem t8 (l : List PlanD) :
  fnT E0 [(0, L8.sp)] 100 Try.f8 [plans] [.bool] (l, ()) =
.req ((0 : Int) ≤ (0 : Int) ∧ (0 : Int) ≤ (↑l.length : Int) ∧ (↑l.length : Int) < (4611686018427387904 : Int)) (
 .req ((0 : Int) = (0 : Int) ∧ (↑l.length : Int) = (↑l.length : Int) ∧ l = l) (
  .fork (Pl.fewL l) (
   .leaf ((true, ()))) (
   .leaf ((false, ()))))) := by kernel_rfl
theorem body9 : Try.f9.body = some (bodyOf Try.f9) := by kernel_rfl
noncomputable abbrev E12 : Ex := mkEx Try.prog [(13, pureSp [Plan, i64, ints] [Plan, i64] S3 N3), (14, pureSp [Plan] [.bool] (fun x => (List.length (α := Int) x.1.2.2 : Int) < big) (fun x => (mayB x.1, ()))),
  (12, pureSp [Plan, Plan] [i64] (fun x => (List.length (α := Int) x.1.2.2 : Int) < big) (fun x => (cmpP x.1 x.2.1, ())))]
theorem E12_ok : E12.Sound := mkEx_sound ⟨pureSp_ok next_ok, pureSp_ok may_ok, pureSp_ok cmpP_ok, trivial⟩
theorem t9  :
  fnT E12 [] 100 Try.f9 [] [.bool] () =
.req ((0 : Int) ≤ (16 : Int) ∧ (16 : Int) ≤ (16 : Int) ∧ (128 : Int) ≤ (140737488355328 : Int) ∧ (16 : Int) ≤ (140737488355328 : Int)) (
 .req ((0 : Int) < (17592186044416 : Int) ∧ (16 : Int) < (17592186044416 : Int)) (
  .fork (true) (
   .fork (true) (
    .fork (true) (
     .fork (true) (
      .req ((16 : Int) < (4611686018427387904 : Int)) (
       .fork (true) (
        .req ((16 : Int) < (4611686018427387904 : Int)) (
         .leaf ((true, ())))) (
        .leaf ((false, ()))))) (
      .leaf ((false, ())))) (
     .leaf ((false, ())))) (
    .leaf ((false, ())))) (
   .leaf ((false, ()))))) := by kernel_rfl
theorem cutg {α : Type} {l : List α} {i : Int} {z : α} (h0 : 0 ≤ i) (h1 : i < l.length) : ∃ x r, l.getD i.toNat z = x ∧ l.drop i.toNat = x :: r ∧ l.drop (i + 1).toNat = r := by
  have hi : i.toNat < l.length := by omega
  refine ⟨l[i.toNat], l.drop (i.toNat + 1), ?_, List.drop_eq_getElem_cons hi, by rw [toNat1 h0]⟩
  simp [List.getD_eq_getElem?_getD, hi]
theorem endsg {α : Type} {l : List α} {i : Int} (h1 : ¬ i < l.length) : l.drop i.toNat = [] := List.drop_eq_nil_of_le (by omega)
theorem l8 : LpsOK Try.prog Try.f8 [(0, L8.sp)] := by
  refine .cons (L8.sound E0_ok (lps := []) (n := 100) (inner rfl) (fun _ => rfl) ?_) .nil
  rintro ⟨l, i⟩ ⟨h1, h2, h3⟩
  simp only at h1 h2 h3
  rw [r8]
  simp only [Tree.all, decide_eq_true_eq, decide_eq_false_iff_not]
  refine ⟨fun c => ?_, fun c => ?_⟩
  · obtain ⟨x, r, e1, e2, e3⟩ := cutg (z := ((0 : Int), (0 : Int), ([] : List Int))) h1 c
    rw [e1, e2]
    refine ⟨⟨h1, c⟩, ⟨h1, c⟩, fun d => ⟨fun e => ?_, fun _ => ⟨trivial, trivial⟩⟩, fun d => ⟨by simp, ?_⟩⟩
    · simp [fewL] at e
      omega
    · rw [wrap1 h1 (by omega)]
      refine ⟨⟨by dsimp only; omega, by dsimp only; omega, h3⟩, by simp only [L8]; omega, by simp only [L8]; rw [e2, e3]; simp [fewL, show x.2.2.length ≤ 100 by omega]⟩
  · rw [endsg c]; simp [fewL, LoopC.Next]
theorem few_ok : PureOK Try.prog 8 [plans] [.bool] (fun x => (List.length (α := PlanD) x.1 : Int) < big) (fun x => (fewL x.1, ())) :=
  fn_pure (E := E0) (n := 100) E0_ok Try.func8 body8 l8 fun x h => by
    refine Tree.all_eq (t8 x.1) ?_
    exact ⟨⟨by omega, by omega, h⟩, ⟨rfl, rfl, rfl⟩, fun c => by rw [c]; rfl, fun c => by rw [c]; rfl⟩
theorem awake_ok : PureOK Try.prog 9 [] [.bool] (fun _ => True) (fun _ => (true, ())) :=
  fn_pure (E := E12) (n := 100) E12_ok Try.func9 body9 .nil fun x _ => by
    refine Tree.all_eq t9 ?_
    refine ⟨by omega, by omega, fun _ => ⟨fun _ => ⟨fun _ => ⟨fun _ => ⟨by omega, fun _ => ⟨by omega, rfl⟩, fun h => by cases h⟩, fun h => by cases h⟩, fun h => by cases h⟩, fun h => by cases h⟩, fun h => by cases h⟩

noncomputable abbrev tabL : List (Nat × Sx.Spec) := [(8, pureSp [plans] [.bool] (fun x => (List.length (α := PlanD) x.1 : Int) < big) (fun x => (fewL x.1, ()))), (9, pureSp [] [.bool] (fun _ => True) (fun _ => (true, ()))),
  (10, pureSp [Plan, Plan] [Plan] S2 (fun x => (joinP x.1 x.2.1, ()))), (11, pureSp [Plan, Plan] [.bool] pre11 F11), (12, pureSp [Plan, Plan] [i64] (fun x => (List.length (α := Int) x.1.2.2 : Int) < big) (fun x => (cmpP x.1 x.2.1, ()))),
  (13, pureSp [Plan, i64, ints] [Plan, i64] S3 N3), (14, pureSp [Plan] [.bool] (fun x => (List.length (α := Int) x.1.2.2 : Int) < big) (fun x => (mayB x.1, ()))), (19, pureSp [Plan, Plan] [.bool] S2 (fun x => (cmpP x.1 x.2.1 == 0, ())))]
noncomputable abbrev EL : Ex := mkEx Try.prog tabL
theorem EL_ok : EL.Sound := mkEx_sound ⟨pureSp_ok few_ok, pureSp_ok awake_ok, pureSp_ok join_ok, pureSp_ok same_ok, pureSp_ok cmpP_ok, pureSp_ok next_ok, pureSp_ok may_ok, pureSp_ok psame_ok, trivial⟩
theorem body3 : Try.f3.body = some (bodyOf Try.f3) := by kernel_rfl
theorem body6 : Try.f6.body = some (bodyOf Try.f6) := by kernel_rfl
end Pl
