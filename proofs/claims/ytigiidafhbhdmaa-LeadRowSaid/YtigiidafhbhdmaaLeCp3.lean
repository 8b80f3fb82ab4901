import Derived.Test.YtigiidafhbhdmaaLeLi2
import Derived.Test.YtigiidafhbhdmaaLeLp
namespace Pl
open Go Sx Go.Proofs Go.RowKit
theorem bodyL2 : Try.f6.body = some (bodyOf Try.f6) := by kernel_rfl
abbrev KMo' : Nat × Sx.Spec := (17, pureSp [ints, ints] [i64] (fun _ => True) (fun x => (movL x.1 x.2.1, ())))
noncomputable abbrev Z3 : Ex := mkExM Try.prog [KAw, KHv, KSt, KrM, KrB, KrS, KLe, KOf, KAs, KMo', KrT]
theorem Z3_ok : Z3.Sound := mkExM_sound ⟨pureSp_ok aw_ok, fnI_ok (E := E0) E0_ok Try.func8 bodyH .nil, pureSpL_ok stage_pok, pureSp_ok rmay_ok, pureSp_ok rbelow_ok, pureSp_ok rsame_ok, pureSp_ok leader_ok, pureSp_ok rof_ok, pureSp_ok assign_ok, pureSp_ok mov_ok, pureSp_ok rtarget_ok, trivial⟩
theorem tL2 (r : RingD) (s : Int) (h : List Int) : @Eq _
  (fnT Z3 [] 100 Try.f6 [Ring, i64, ints] [.bool] (r, s, h, ()))
  (.fork (decide ((↑r.2.1.2.2.length : Int) > (100 : Int))) (
 .req (True) (
  .leaf ((true, ())))) (
 .fork (decide ((↑h.length : Int) > (60 : Int))) (
  .req (True) (
   .leaf ((true, ())))) (
  .req ((8 = 8 ∧ 16 = 16) ∧ (↑r.2.1.2.2.length : Int) < (17592186044416 : Int) ∧ (↑h.length : Int) < (4611686018427387904 : Int)) (
   .lt [(Ty.rep 8 (Ty.int IntKind.i64)).cat
    (((Ty.int IntKind.i64).cat ((Ty.int IntKind.i64).cat (Ty.int IntKind.i64).slice)).cat
      (Ty.rep 16 ((Ty.int IntKind.i64).cat (Ty.int IntKind.i64)))),
  Ty.int IntKind.i64] (((Pl.stageR (tab 8 r.1 (0 : Int), r.2.1, tab 16 r.2.2 ((0 : Int), (0 : Int))) s h).1, (Pl.stageR (tab 8 r.1 (0 : Int), r.2.1, tab 16 r.2.2 ((0 : Int), (0 : Int))) s h).2, ())) (fun (y1 : (List Int × (Int × Int × List Int) × List (Int × Int)) × Int × PUnit) => (
    .fork (y1.2.1 != (0 : Int)) (
     .req (((8 = 8 ∧ 16 = 16) ∧ (8 = 8 ∧ 16 = 16) ∧ (↑y1.1.2.1.2.2.length : Int) < (17592186044416 : Int) ∧ (0 : Int) < (17592186044416 : Int)) ∧ (Pl.sameR (tab 8 y1.1.1 (0 : Int), y1.1.2.1, tab 16 y1.1.2.2 ((0 : Int), (0 : Int))) (List.replicate 8 (0 : Int), ((0 : Int), (0 : Int), ([] : List Int)), List.replicate 16 ((0 : Int), (0 : Int))) = true → conjP [True])) (
      .leaf ((Pl.sameR (tab 8 y1.1.1 (0 : Int), y1.1.2.1, tab 16 y1.1.2.2 ((0 : Int), (0 : Int))) (List.replicate 8 (0 : Int), ((0 : Int), (0 : Int), ([] : List Int)), List.replicate 16 ((0 : Int), (0 : Int))) && true, ())))) (
     .req (True) (
      .fork (decide (s < (0 : Int)) || decide (s ≥ (8 : Int))) (
       .leaf ((false, ()))) (
       .req ((8 = 8 ∧ 16 = 16) ∧ (↑y1.1.2.1.2.2.length : Int) < (17592186044416 : Int) ∧ (↑h.length : Int) < (4611686018427387904 : Int)) (
        .lt [(Ty.rep 8 (Ty.int IntKind.i64)).cat
    (((Ty.int IntKind.i64).cat ((Ty.int IntKind.i64).cat (Ty.int IntKind.i64).slice)).cat
      (Ty.rep 16 ((Ty.int IntKind.i64).cat (Ty.int IntKind.i64)))),
  Ty.int IntKind.i64] (((Pl.stageR (tab 8 y1.1.1 (0 : Int), y1.1.2.1, tab 16 y1.1.2.2 ((0 : Int), (0 : Int))) s h).1, (Pl.stageR (tab 8 y1.1.1 (0 : Int), y1.1.2.1, tab 16 y1.1.2.2 ((0 : Int), (0 : Int))) s h).2, ())) (fun (y2 : (List Int × (Int × Int × List Int) × List (Int × Int)) × Int × PUnit) => (
         .req (((8 = 8 ∧ 16 = 16) ∧ (↑y1.1.2.1.2.2.length : Int) < (17592186044416 : Int)) ∧ ((!Pl.mayR (tab 8 y1.1.1 (0 : Int), y1.1.2.1, tab 16 y1.1.2.2 ((0 : Int), (0 : Int)))) = false → conjP [(8 = 8 ∧ 16 = 16) ∧ (8 = 8 ∧ 16 = 16) ∧ (↑r.2.1.2.2.length : Int) < (17592186044416 : Int) ∧ (↑y1.1.2.1.2.2.length : Int) < (17592186044416 : Int), (!Pl.belowR (tab 8 r.1 (0 : Int), r.2.1, tab 16 r.2.2 ((0 : Int), (0 : Int))) (tab 8 y1.1.1 (0 : Int), y1.1.2.1, tab 16 y1.1.2.2 ((0 : Int), (0 : Int)))) = false → conjP [(8 = 8 ∧ 16 = 16) ∧ (8 = 8 ∧ 16 = 16) ∧ (↑r.2.1.2.2.length : Int) < (17592186044416 : Int) ∧ (↑y1.1.2.1.2.2.length : Int) < (17592186044416 : Int), Pl.sameR (tab 8 r.1 (0 : Int), r.2.1, tab 16 r.2.2 ((0 : Int), (0 : Int))) (tab 8 y1.1.1 (0 : Int), y1.1.2.1, tab 16 y1.1.2.2 ((0 : Int), (0 : Int))) = false → conjP [(!((y1.1.2.2.getD 0 ((0 : Int), (0 : Int))).1 == (r.2.2.getD 0 ((0 : Int), (0 : Int))).1 && ((y1.1.2.2.getD 0 ((0 : Int), (0 : Int))).2 == (r.2.2.getD 0 ((0 : Int), (0 : Int))).2 && true) && ((y1.1.2.2.getD 1 ((0 : Int), (0 : Int))).1 == (r.2.2.getD 1 ((0 : Int), (0 : Int))).1 && ((y1.1.2.2.getD 1 ((0 : Int), (0 : Int))).2 == (r.2.2.getD 1 ((0 : Int), (0 : Int))).2 && true) && ((y1.1.2.2.getD 2 ((0 : Int), (0 : Int))).1 == (r.2.2.getD 2 ((0 : Int), (0 : Int))).1 && ((y1.1.2.2.getD 2 ((0 : Int), (0 : Int))).2 == (r.2.2.getD 2 ((0 : Int), (0 : Int))).2 && true) && ((y1.1.2.2.getD 3 ((0 : Int), (0 : Int))).1 == (r.2.2.getD 3 ((0 : Int), (0 : Int))).1 && ((y1.1.2.2.getD 3 ((0 : Int), (0 : Int))).2 == (r.2.2.getD 3 ((0 : Int), (0 : Int))).2 && true) && ((y1.1.2.2.getD 4 ((0 : Int), (0 : Int))).1 == (r.2.2.getD 4 ((0 : Int), (0 : Int))).1 && ((y1.1.2.2.getD 4 ((0 : Int), (0 : Int))).2 == (r.2.2.getD 4 ((0 : Int), (0 : Int))).2 && true) && ((y1.1.2.2.getD 5 ((0 : Int), (0 : Int))).1 == (r.2.2.getD 5 ((0 : Int), (0 : Int))).1 && ((y1.1.2.2.getD 5 ((0 : Int), (0 : Int))).2 == (r.2.2.getD 5 ((0 : Int), (0 : Int))).2 && true) && ((y1.1.2.2.getD 6 ((0 : Int), (0 : Int))).1 == (r.2.2.getD 6 ((0 : Int), (0 : Int))).1 && ((y1.1.2.2.getD 6 ((0 : Int), (0 : Int))).2 == (r.2.2.getD 6 ((0 : Int), (0 : Int))).2 && true) && ((y1.1.2.2.getD 7 ((0 : Int), (0 : Int))).1 == (r.2.2.getD 7 ((0 : Int), (0 : Int))).1 && ((y1.1.2.2.getD 7 ((0 : Int), (0 : Int))).2 == (r.2.2.getD 7 ((0 : Int), (0 : Int))).2 && true) && ((y1.1.2.2.getD 8 ((0 : Int), (0 : Int))).1 == (r.2.2.getD 8 ((0 : Int), (0 : Int))).1 && ((y1.1.2.2.getD 8 ((0 : Int), (0 : Int))).2 == (r.2.2.getD 8 ((0 : Int), (0 : Int))).2 && true) && ((y1.1.2.2.getD 9 ((0 : Int), (0 : Int))).1 == (r.2.2.getD 9 ((0 : Int), (0 : Int))).1 && ((y1.1.2.2.getD 9 ((0 : Int), (0 : Int))).2 == (r.2.2.getD 9 ((0 : Int), (0 : Int))).2 && true) && ((y1.1.2.2.getD 10 ((0 : Int), (0 : Int))).1 == (r.2.2.getD 10 ((0 : Int), (0 : Int))).1 && ((y1.1.2.2.getD 10 ((0 : Int), (0 : Int))).2 == (r.2.2.getD 10 ((0 : Int), (0 : Int))).2 && true) && ((y1.1.2.2.getD 11 ((0 : Int), (0 : Int))).1 == (r.2.2.getD 11 ((0 : Int), (0 : Int))).1 && ((y1.1.2.2.getD 11 ((0 : Int), (0 : Int))).2 == (r.2.2.getD 11 ((0 : Int), (0 : Int))).2 && true) && ((y1.1.2.2.getD 12 ((0 : Int), (0 : Int))).1 == (r.2.2.getD 12 ((0 : Int), (0 : Int))).1 && ((y1.1.2.2.getD 12 ((0 : Int), (0 : Int))).2 == (r.2.2.getD 12 ((0 : Int), (0 : Int))).2 && true) && ((y1.1.2.2.getD 13 ((0 : Int), (0 : Int))).1 == (r.2.2.getD 13 ((0 : Int), (0 : Int))).1 && ((y1.1.2.2.getD 13 ((0 : Int), (0 : Int))).2 == (r.2.2.getD 13 ((0 : Int), (0 : Int))).2 && true) && ((y1.1.2.2.getD 14 ((0 : Int), (0 : Int))).1 == (r.2.2.getD 14 ((0 : Int), (0 : Int))).1 && ((y1.1.2.2.getD 14 ((0 : Int), (0 : Int))).2 == (r.2.2.getD 14 ((0 : Int), (0 : Int))).2 && true) && ((y1.1.2.2.getD 15 ((0 : Int), (0 : Int))).1 == (r.2.2.getD 15 ((0 : Int), (0 : Int))).1 && ((y1.1.2.2.getD 15 ((0 : Int), (0 : Int))).2 == (r.2.2.getD 15 ((0 : Int), (0 : Int))).2 && true) && true))))))))))))))))) = false → conjP [(8 = 8 ∧ 16 = 16) ∧ (↑h.length : Int) < (4611686018427387904 : Int)]]]])) (
          .fork (!Pl.mayR (tab 8 y1.1.1 (0 : Int), y1.1.2.1, tab 16 y1.1.2.2 ((0 : Int), (0 : Int))) || (!Pl.belowR (tab 8 r.1 (0 : Int), r.2.1, tab 16 r.2.2 ((0 : Int), (0 : Int))) (tab 8 y1.1.1 (0 : Int), y1.1.2.1, tab 16 y1.1.2.2 ((0 : Int), (0 : Int))) || (Pl.sameR (tab 8 r.1 (0 : Int), r.2.1, tab 16 r.2.2 ((0 : Int), (0 : Int))) (tab 8 y1.1.1 (0 : Int), y1.1.2.1, tab 16 y1.1.2.2 ((0 : Int), (0 : Int))) || (!((y1.1.2.2.getD 0 ((0 : Int), (0 : Int))).1 == (r.2.2.getD 0 ((0 : Int), (0 : Int))).1 && ((y1.1.2.2.getD 0 ((0 : Int), (0 : Int))).2 == (r.2.2.getD 0 ((0 : Int), (0 : Int))).2 && true) && ((y1.1.2.2.getD 1 ((0 : Int), (0 : Int))).1 == (r.2.2.getD 1 ((0 : Int), (0 : Int))).1 && ((y1.1.2.2.getD 1 ((0 : Int), (0 : Int))).2 == (r.2.2.getD 1 ((0 : Int), (0 : Int))).2 && true) && ((y1.1.2.2.getD 2 ((0 : Int), (0 : Int))).1 == (r.2.2.getD 2 ((0 : Int), (0 : Int))).1 && ((y1.1.2.2.getD 2 ((0 : Int), (0 : Int))).2 == (r.2.2.getD 2 ((0 : Int), (0 : Int))).2 && true) && ((y1.1.2.2.getD 3 ((0 : Int), (0 : Int))).1 == (r.2.2.getD 3 ((0 : Int), (0 : Int))).1 && ((y1.1.2.2.getD 3 ((0 : Int), (0 : Int))).2 == (r.2.2.getD 3 ((0 : Int), (0 : Int))).2 && true) && ((y1.1.2.2.getD 4 ((0 : Int), (0 : Int))).1 == (r.2.2.getD 4 ((0 : Int), (0 : Int))).1 && ((y1.1.2.2.getD 4 ((0 : Int), (0 : Int))).2 == (r.2.2.getD 4 ((0 : Int), (0 : Int))).2 && true) && ((y1.1.2.2.getD 5 ((0 : Int), (0 : Int))).1 == (r.2.2.getD 5 ((0 : Int), (0 : Int))).1 && ((y1.1.2.2.getD 5 ((0 : Int), (0 : Int))).2 == (r.2.2.getD 5 ((0 : Int), (0 : Int))).2 && true) && ((y1.1.2.2.getD 6 ((0 : Int), (0 : Int))).1 == (r.2.2.getD 6 ((0 : Int), (0 : Int))).1 && ((y1.1.2.2.getD 6 ((0 : Int), (0 : Int))).2 == (r.2.2.getD 6 ((0 : Int), (0 : Int))).2 && true) && ((y1.1.2.2.getD 7 ((0 : Int), (0 : Int))).1 == (r.2.2.getD 7 ((0 : Int), (0 : Int))).1 && ((y1.1.2.2.getD 7 ((0 : Int), (0 : Int))).2 == (r.2.2.getD 7 ((0 : Int), (0 : Int))).2 && true) && ((y1.1.2.2.getD 8 ((0 : Int), (0 : Int))).1 == (r.2.2.getD 8 ((0 : Int), (0 : Int))).1 && ((y1.1.2.2.getD 8 ((0 : Int), (0 : Int))).2 == (r.2.2.getD 8 ((0 : Int), (0 : Int))).2 && true) && ((y1.1.2.2.getD 9 ((0 : Int), (0 : Int))).1 == (r.2.2.getD 9 ((0 : Int), (0 : Int))).1 && ((y1.1.2.2.getD 9 ((0 : Int), (0 : Int))).2 == (r.2.2.getD 9 ((0 : Int), (0 : Int))).2 && true) && ((y1.1.2.2.getD 10 ((0 : Int), (0 : Int))).1 == (r.2.2.getD 10 ((0 : Int), (0 : Int))).1 && ((y1.1.2.2.getD 10 ((0 : Int), (0 : Int))).2 == (r.2.2.getD 10 ((0 : Int), (0 : Int))).2 && true) && ((y1.1.2.2.getD 11 ((0 : Int), (0 : Int))).1 == (r.2.2.getD 11 ((0 : Int), (0 : Int))).1 && ((y1.1.2.2.getD 11 ((0 : Int), (0 : Int))).2 == (r.2.2.getD 11 ((0 : Int), (0 : Int))).2 && true) && ((y1.1.2.2.getD 12 ((0 : Int), (0 : Int))).1 == (r.2.2.getD 12 ((0 : Int), (0 : Int))).1 && ((y1.1.2.2.getD 12 ((0 : Int), (0 : Int))).2 == (r.2.2.getD 12 ((0 : Int), (0 : Int))).2 && true) && ((y1.1.2.2.getD 13 ((0 : Int), (0 : Int))).1 == (r.2.2.getD 13 ((0 : Int), (0 : Int))).1 && ((y1.1.2.2.getD 13 ((0 : Int), (0 : Int))).2 == (r.2.2.getD 13 ((0 : Int), (0 : Int))).2 && true) && ((y1.1.2.2.getD 14 ((0 : Int), (0 : Int))).1 == (r.2.2.getD 14 ((0 : Int), (0 : Int))).1 && ((y1.1.2.2.getD 14 ((0 : Int), (0 : Int))).2 == (r.2.2.getD 14 ((0 : Int), (0 : Int))).2 && true) && ((y1.1.2.2.getD 15 ((0 : Int), (0 : Int))).1 == (r.2.2.getD 15 ((0 : Int), (0 : Int))).1 && ((y1.1.2.2.getD 15 ((0 : Int), (0 : Int))).2 == (r.2.2.getD 15 ((0 : Int), (0 : Int))).2 && true) && true)))))))))))))))) || Pl.leadR (tab 8 r.1 (0 : Int), r.2.1, tab 16 r.2.2 ((0 : Int), (0 : Int))) h != s)))) (
           .leaf ((false, ()))) (
           .req ((y2.2.1 != (9 : Int)) = true → conjP (((y2.2.1 == (10 : Int)) = true → conjP [(8 = 8 ∧ 16 = 16) ∧ (↑h.length : Int) < (4611686018427387904 : Int)]) :: ([] : List Prop))) (
            .fork (y2.2.1 != (9 : Int) && (!y2.2.1 == (10 : Int) || !Pl.leadR (tab 8 y1.1.1 (0 : Int), y1.1.2.1, tab 16 y1.1.2.2 ((0 : Int), (0 : Int))) h != s)) (
             .leaf ((false, ()))) (
             .req (8 = 8 ∧ 16 = 16) (
              .fork ((↑(Pl.ofR (tab 8 r.1 (0 : Int), r.2.1, tab 16 r.2.2 ((0 : Int), (0 : Int))) (1 : Int) (2 : Int)).length : Int) == (0 : Int)) (
               .req (True) (
                .leaf ((true, ())))) (
               .req ((8 = 8 ∧ 16 = 16) ∧ (↑y1.1.2.1.2.2.length : Int) < (17592186044416 : Int)) (
                .req (9 ≤ 70368744177664) (
                 .req ((0 : Int) ≤ (0 : Int) ∧ (0 : Int) < (1 : Int)) (
                  .req ((0 : Int) ≤ (0 : Int) ∧ (0 : Int) < (1 : Int)) (
                   .req (decide ([Pl.targetR (tab 8 y1.1.1 (0 : Int), y1.1.2.1, tab 16 y1.1.2.2 ((0 : Int), (0 : Int))) (0 : Int)].getD 0 (0 : Int) < (0 : Int)) = false → conjP [decide ([Pl.targetR (tab 8 y1.1.1 (0 : Int), y1.1.2.1, tab 16 y1.1.2.2 ((0 : Int), (0 : Int))) (0 : Int)].getD 0 (0 : Int) ≥ (8 : Int)) = false → conjP [(0 : Int) ≤ [Pl.targetR (tab 8 y1.1.1 (0 : Int), y1.1.2.1, tab 16 y1.1.2.2 ((0 : Int), (0 : Int))) (0 : Int)].getD 0 (0 : Int) ∧ [Pl.targetR (tab 8 y1.1.1 (0 : Int), y1.1.2.1, tab 16 y1.1.2.2 ((0 : Int), (0 : Int))) (0 : Int)].getD 0 (0 : Int) < (8 : Int), (0 : Int) ≤ [Pl.targetR (tab 8 y1.1.1 (0 : Int), y1.1.2.1, tab 16 y1.1.2.2 ((0 : Int), (0 : Int))) (0 : Int)].getD 0 (0 : Int) ∧ [Pl.targetR (tab 8 y1.1.1 (0 : Int), y1.1.2.1, tab 16 y1.1.2.2 ((0 : Int), (0 : Int))) (0 : Int)].getD 0 (0 : Int) < (8 : Int)]]) (
                    .fork (decide ([Pl.targetR (tab 8 y1.1.1 (0 : Int), y1.1.2.1, tab 16 y1.1.2.2 ((0 : Int), (0 : Int))) (0 : Int)].getD 0 (0 : Int) < (0 : Int)) || (decide ([Pl.targetR (tab 8 y1.1.1 (0 : Int), y1.1.2.1, tab 16 y1.1.2.2 ((0 : Int), (0 : Int))) (0 : Int)].getD 0 (0 : Int) ≥ (8 : Int)) || (tab 8 y1.1.1 (0 : Int)).getD ([Pl.targetR (tab 8 y1.1.1 (0 : Int), y1.1.2.1, tab 16 y1.1.2.2 ((0 : Int), (0 : Int))) (0 : Int)].getD 0 (0 : Int)).toNat (0 : Int) != (2 : Int))) (
                     .leaf ((false, ()))) (
                     .req ((8 = 8 ∧ 16 = 16) ∧ (↑y1.1.2.1.2.2.length : Int) < (17592186044416 : Int)) (
                      .req (18 ≤ 70368744177664) (
                       .req ((0 : Int) ≤ (1 : Int) ∧ (1 : Int) < (2 : Int)) (
                        .req ((0 : Int) ≤ (1 : Int) ∧ (1 : Int) < (2 : Int)) (
                         .req (decide ([Pl.targetR (tab 8 y1.1.1 (0 : Int), y1.1.2.1, tab 16 y1.1.2.2 ((0 : Int), (0 : Int))) (0 : Int), Pl.targetR (tab 8 y1.1.1 (0 : Int), y1.1.2.1, tab 16 y1.1.2.2 ((0 : Int), (0 : Int))) (1 : Int)].getD 1 (0 : Int) < (0 : Int)) = false → conjP [decide ([Pl.targetR (tab 8 y1.1.1 (0 : Int), y1.1.2.1, tab 16 y1.1.2.2 ((0 : Int), (0 : Int))) (0 : Int), Pl.targetR (tab 8 y1.1.1 (0 : Int), y1.1.2.1, tab 16 y1.1.2.2 ((0 : Int), (0 : Int))) (1 : Int)].getD 1 (0 : Int) ≥ (8 : Int)) = false → conjP [(0 : Int) ≤ [Pl.targetR (tab 8 y1.1.1 (0 : Int), y1.1.2.1, tab 16 y1.1.2.2 ((0 : Int), (0 : Int))) (0 : Int), Pl.targetR (tab 8 y1.1.1 (0 : Int), y1.1.2.1, tab 16 y1.1.2.2 ((0 : Int), (0 : Int))) (1 : Int)].getD 1 (0 : Int) ∧ [Pl.targetR (tab 8 y1.1.1 (0 : Int), y1.1.2.1, tab 16 y1.1.2.2 ((0 : Int), (0 : Int))) (0 : Int), Pl.targetR (tab 8 y1.1.1 (0 : Int), y1.1.2.1, tab 16 y1.1.2.2 ((0 : Int), (0 : Int))) (1 : Int)].getD 1 (0 : Int) < (8 : Int), (0 : Int) ≤ [Pl.targetR (tab 8 y1.1.1 (0 : Int), y1.1.2.1, tab 16 y1.1.2.2 ((0 : Int), (0 : Int))) (0 : Int), Pl.targetR (tab 8 y1.1.1 (0 : Int), y1.1.2.1, tab 16 y1.1.2.2 ((0 : Int), (0 : Int))) (1 : Int)].getD 1 (0 : Int) ∧ [Pl.targetR (tab 8 y1.1.1 (0 : Int), y1.1.2.1, tab 16 y1.1.2.2 ((0 : Int), (0 : Int))) (0 : Int), Pl.targetR (tab 8 y1.1.1 (0 : Int), y1.1.2.1, tab 16 y1.1.2.2 ((0 : Int), (0 : Int))) (1 : Int)].getD 1 (0 : Int) < (8 : Int)]]) (
                          .fork (decide ([Pl.targetR (tab 8 y1.1.1 (0 : Int), y1.1.2.1, tab 16 y1.1.2.2 ((0 : Int), (0 : Int))) (0 : Int), Pl.targetR (tab 8 y1.1.1 (0 : Int), y1.1.2.1, tab 16 y1.1.2.2 ((0 : Int), (0 : Int))) (1 : Int)].getD 1 (0 : Int) < (0 : Int)) || (decide ([Pl.targetR (tab 8 y1.1.1 (0 : Int), y1.1.2.1, tab 16 y1.1.2.2 ((0 : Int), (0 : Int))) (0 : Int), Pl.targetR (tab 8 y1.1.1 (0 : Int), y1.1.2.1, tab 16 y1.1.2.2 ((0 : Int), (0 : Int))) (1 : Int)].getD 1 (0 : Int) ≥ (8 : Int)) || (tab 8 y1.1.1 (0 : Int)).getD ([Pl.targetR (tab 8 y1.1.1 (0 : Int), y1.1.2.1, tab 16 y1.1.2.2 ((0 : Int), (0 : Int))) (0 : Int), Pl.targetR (tab 8 y1.1.1 (0 : Int), y1.1.2.1, tab 16 y1.1.2.2 ((0 : Int), (0 : Int))) (1 : Int)].getD 1 (0 : Int)).toNat (0 : Int) != (2 : Int))) (
                           .leaf ((false, ()))) (
                           .req ((8 = 8 ∧ 16 = 16) ∧ (↑y1.1.2.1.2.2.length : Int) < (17592186044416 : Int)) (
                            .req (27 ≤ 70368744177664) (
                             .req ((0 : Int) ≤ (2 : Int) ∧ (2 : Int) < (3 : Int)) (
                              .req ((0 : Int) ≤ (2 : Int) ∧ (2 : Int) < (3 : Int)) (
                               .req (decide ([Pl.targetR (tab 8 y1.1.1 (0 : Int), y1.1.2.1, tab 16 y1.1.2.2 ((0 : Int), (0 : Int))) (0 : Int), Pl.targetR (tab 8 y1.1.1 (0 : Int), y1.1.2.1, tab 16 y1.1.2.2 ((0 : Int), (0 : Int))) (1 : Int), Pl.targetR (tab 8 y1.1.1 (0 : Int), y1.1.2.1, tab 16 y1.1.2.2 ((0 : Int), (0 : Int))) (2 : Int)].getD 2 (0 : Int) < (0 : Int)) = false → conjP [decide ([Pl.targetR (tab 8 y1.1.1 (0 : Int), y1.1.2.1, tab 16 y1.1.2.2 ((0 : Int), (0 : Int))) (0 : Int), Pl.targetR (tab 8 y1.1.1 (0 : Int), y1.1.2.1, tab 16 y1.1.2.2 ((0 : Int), (0 : Int))) (1 : Int), Pl.targetR (tab 8 y1.1.1 (0 : Int), y1.1.2.1, tab 16 y1.1.2.2 ((0 : Int), (0 : Int))) (2 : Int)].getD 2 (0 : Int) ≥ (8 : Int)) = false → conjP [(0 : Int) ≤ [Pl.targetR (tab 8 y1.1.1 (0 : Int), y1.1.2.1, tab 16 y1.1.2.2 ((0 : Int), (0 : Int))) (0 : Int), Pl.targetR (tab 8 y1.1.1 (0 : Int), y1.1.2.1, tab 16 y1.1.2.2 ((0 : Int), (0 : Int))) (1 : Int), Pl.targetR (tab 8 y1.1.1 (0 : Int), y1.1.2.1, tab 16 y1.1.2.2 ((0 : Int), (0 : Int))) (2 : Int)].getD 2 (0 : Int) ∧ [Pl.targetR (tab 8 y1.1.1 (0 : Int), y1.1.2.1, tab 16 y1.1.2.2 ((0 : Int), (0 : Int))) (0 : Int), Pl.targetR (tab 8 y1.1.1 (0 : Int), y1.1.2.1, tab 16 y1.1.2.2 ((0 : Int), (0 : Int))) (1 : Int), Pl.targetR (tab 8 y1.1.1 (0 : Int), y1.1.2.1, tab 16 y1.1.2.2 ((0 : Int), (0 : Int))) (2 : Int)].getD 2 (0 : Int) < (8 : Int), (0 : Int) ≤ [Pl.targetR (tab 8 y1.1.1 (0 : Int), y1.1.2.1, tab 16 y1.1.2.2 ((0 : Int), (0 : Int))) (0 : Int), Pl.targetR (tab 8 y1.1.1 (0 : Int), y1.1.2.1, tab 16 y1.1.2.2 ((0 : Int), (0 : Int))) (1 : Int), Pl.targetR (tab 8 y1.1.1 (0 : Int), y1.1.2.1, tab 16 y1.1.2.2 ((0 : Int), (0 : Int))) (2 : Int)].getD 2 (0 : Int) ∧ [Pl.targetR (tab 8 y1.1.1 (0 : Int), y1.1.2.1, tab 16 y1.1.2.2 ((0 : Int), (0 : Int))) (0 : Int), Pl.targetR (tab 8 y1.1.1 (0 : Int), y1.1.2.1, tab 16 y1.1.2.2 ((0 : Int), (0 : Int))) (1 : Int), Pl.targetR (tab 8 y1.1.1 (0 : Int), y1.1.2.1, tab 16 y1.1.2.2 ((0 : Int), (0 : Int))) (2 : Int)].getD 2 (0 : Int) < (8 : Int)]]) (
                                .fork (decide ([Pl.targetR (tab 8 y1.1.1 (0 : Int), y1.1.2.1, tab 16 y1.1.2.2 ((0 : Int), (0 : Int))) (0 : Int), Pl.targetR (tab 8 y1.1.1 (0 : Int), y1.1.2.1, tab 16 y1.1.2.2 ((0 : Int), (0 : Int))) (1 : Int), Pl.targetR (tab 8 y1.1.1 (0 : Int), y1.1.2.1, tab 16 y1.1.2.2 ((0 : Int), (0 : Int))) (2 : Int)].getD 2 (0 : Int) < (0 : Int)) || (decide ([Pl.targetR (tab 8 y1.1.1 (0 : Int), y1.1.2.1, tab 16 y1.1.2.2 ((0 : Int), (0 : Int))) (0 : Int), Pl.targetR (tab 8 y1.1.1 (0 : Int), y1.1.2.1, tab 16 y1.1.2.2 ((0 : Int), (0 : Int))) (1 : Int), Pl.targetR (tab 8 y1.1.1 (0 : Int), y1.1.2.1, tab 16 y1.1.2.2 ((0 : Int), (0 : Int))) (2 : Int)].getD 2 (0 : Int) ≥ (8 : Int)) || (tab 8 y1.1.1 (0 : Int)).getD ([Pl.targetR (tab 8 y1.1.1 (0 : Int), y1.1.2.1, tab 16 y1.1.2.2 ((0 : Int), (0 : Int))) (0 : Int), Pl.targetR (tab 8 y1.1.1 (0 : Int), y1.1.2.1, tab 16 y1.1.2.2 ((0 : Int), (0 : Int))) (1 : Int), Pl.targetR (tab 8 y1.1.1 (0 : Int), y1.1.2.1, tab 16 y1.1.2.2 ((0 : Int), (0 : Int))) (2 : Int)].getD 2 (0 : Int)).toNat (0 : Int) != (2 : Int))) (
                                 .leaf ((false, ()))) (
                                 .req ((8 = 8 ∧ 16 = 16) ∧ (↑y1.1.2.1.2.2.length : Int) < (17592186044416 : Int)) (
                                  .req (36 ≤ 70368744177664) (
                                   .req ((0 : Int) ≤ (3 : Int) ∧ (3 : Int) < (4 : Int)) (
                                    .req ((0 : Int) ≤ (3 : Int) ∧ (3 : Int) < (4 : Int)) (
                                     .req (decide ((tabL 4 fun j => Pl.targetR (tab 8 y1.1.1 (0 : Int), y1.1.2.1, tab 16 y1.1.2.2 ((0 : Int), (0 : Int))) j).getD 3 (0 : Int) < (0 : Int)) = false → conjP [decide ((tabL 4 fun j => Pl.targetR (tab 8 y1.1.1 (0 : Int), y1.1.2.1, tab 16 y1.1.2.2 ((0 : Int), (0 : Int))) j).getD 3 (0 : Int) ≥ (8 : Int)) = false → conjP [(0 : Int) ≤ (tabL 4 fun j => Pl.targetR (tab 8 y1.1.1 (0 : Int), y1.1.2.1, tab 16 y1.1.2.2 ((0 : Int), (0 : Int))) j).getD 3 (0 : Int) ∧ (tabL 4 fun j => Pl.targetR (tab 8 y1.1.1 (0 : Int), y1.1.2.1, tab 16 y1.1.2.2 ((0 : Int), (0 : Int))) j).getD 3 (0 : Int) < (8 : Int), (0 : Int) ≤ (tabL 4 fun j => Pl.targetR (tab 8 y1.1.1 (0 : Int), y1.1.2.1, tab 16 y1.1.2.2 ((0 : Int), (0 : Int))) j).getD 3 (0 : Int) ∧ (tabL 4 fun j => Pl.targetR (tab 8 y1.1.1 (0 : Int), y1.1.2.1, tab 16 y1.1.2.2 ((0 : Int), (0 : Int))) j).getD 3 (0 : Int) < (8 : Int)]]) (
                                      .fork (decide ((tabL 4 fun j => Pl.targetR (tab 8 y1.1.1 (0 : Int), y1.1.2.1, tab 16 y1.1.2.2 ((0 : Int), (0 : Int))) j).getD 3 (0 : Int) < (0 : Int)) || (decide ((tabL 4 fun j => Pl.targetR (tab 8 y1.1.1 (0 : Int), y1.1.2.1, tab 16 y1.1.2.2 ((0 : Int), (0 : Int))) j).getD 3 (0 : Int) ≥ (8 : Int)) || (tab 8 y1.1.1 (0 : Int)).getD ((tabL 4 fun j => Pl.targetR (tab 8 y1.1.1 (0 : Int), y1.1.2.1, tab 16 y1.1.2.2 ((0 : Int), (0 : Int))) j).getD 3 (0 : Int)).toNat (0 : Int) != (2 : Int))) (
                                       .leaf ((false, ()))) (
                                       .req ((8 = 8 ∧ 16 = 16) ∧ (↑y1.1.2.1.2.2.length : Int) < (17592186044416 : Int)) (
                                        .req (45 ≤ 70368744177664) (
                                         .req ((0 : Int) ≤ (4 : Int) ∧ (4 : Int) < (5 : Int)) (
                                          .req ((0 : Int) ≤ (4 : Int) ∧ (4 : Int) < (5 : Int)) (
                                           .req (decide ((tabL 5 fun j => Pl.targetR (tab 8 y1.1.1 (0 : Int), y1.1.2.1, tab 16 y1.1.2.2 ((0 : Int), (0 : Int))) j).getD 4 (0 : Int) < (0 : Int)) = false → conjP [decide ((tabL 5 fun j => Pl.targetR (tab 8 y1.1.1 (0 : Int), y1.1.2.1, tab 16 y1.1.2.2 ((0 : Int), (0 : Int))) j).getD 4 (0 : Int) ≥ (8 : Int)) = false → conjP [(0 : Int) ≤ (tabL 5 fun j => Pl.targetR (tab 8 y1.1.1 (0 : Int), y1.1.2.1, tab 16 y1.1.2.2 ((0 : Int), (0 : Int))) j).getD 4 (0 : Int) ∧ (tabL 5 fun j => Pl.targetR (tab 8 y1.1.1 (0 : Int), y1.1.2.1, tab 16 y1.1.2.2 ((0 : Int), (0 : Int))) j).getD 4 (0 : Int) < (8 : Int), (0 : Int) ≤ (tabL 5 fun j => Pl.targetR (tab 8 y1.1.1 (0 : Int), y1.1.2.1, tab 16 y1.1.2.2 ((0 : Int), (0 : Int))) j).getD 4 (0 : Int) ∧ (tabL 5 fun j => Pl.targetR (tab 8 y1.1.1 (0 : Int), y1.1.2.1, tab 16 y1.1.2.2 ((0 : Int), (0 : Int))) j).getD 4 (0 : Int) < (8 : Int)]]) (
                                            .fork (decide ((tabL 5 fun j => Pl.targetR (tab 8 y1.1.1 (0 : Int), y1.1.2.1, tab 16 y1.1.2.2 ((0 : Int), (0 : Int))) j).getD 4 (0 : Int) < (0 : Int)) || (decide ((tabL 5 fun j => Pl.targetR (tab 8 y1.1.1 (0 : Int), y1.1.2.1, tab 16 y1.1.2.2 ((0 : Int), (0 : Int))) j).getD 4 (0 : Int) ≥ (8 : Int)) || (tab 8 y1.1.1 (0 : Int)).getD ((tabL 5 fun j => Pl.targetR (tab 8 y1.1.1 (0 : Int), y1.1.2.1, tab 16 y1.1.2.2 ((0 : Int), (0 : Int))) j).getD 4 (0 : Int)).toNat (0 : Int) != (2 : Int))) (
                                             .leaf ((false, ()))) (
                                             .req ((8 = 8 ∧ 16 = 16) ∧ (↑y1.1.2.1.2.2.length : Int) < (17592186044416 : Int)) (
                                              .req (54 ≤ 70368744177664) (
                                               .req ((0 : Int) ≤ (5 : Int) ∧ (5 : Int) < (6 : Int)) (
                                                .req ((0 : Int) ≤ (5 : Int) ∧ (5 : Int) < (6 : Int)) (
                                                 .req (decide ((tabL 6 fun j => Pl.targetR (tab 8 y1.1.1 (0 : Int), y1.1.2.1, tab 16 y1.1.2.2 ((0 : Int), (0 : Int))) j).getD 5 (0 : Int) < (0 : Int)) = false → conjP [decide ((tabL 6 fun j => Pl.targetR (tab 8 y1.1.1 (0 : Int), y1.1.2.1, tab 16 y1.1.2.2 ((0 : Int), (0 : Int))) j).getD 5 (0 : Int) ≥ (8 : Int)) = false → conjP [(0 : Int) ≤ (tabL 6 fun j => Pl.targetR (tab 8 y1.1.1 (0 : Int), y1.1.2.1, tab 16 y1.1.2.2 ((0 : Int), (0 : Int))) j).getD 5 (0 : Int) ∧ (tabL 6 fun j => Pl.targetR (tab 8 y1.1.1 (0 : Int), y1.1.2.1, tab 16 y1.1.2.2 ((0 : Int), (0 : Int))) j).getD 5 (0 : Int) < (8 : Int), (0 : Int) ≤ (tabL 6 fun j => Pl.targetR (tab 8 y1.1.1 (0 : Int), y1.1.2.1, tab 16 y1.1.2.2 ((0 : Int), (0 : Int))) j).getD 5 (0 : Int) ∧ (tabL 6 fun j => Pl.targetR (tab 8 y1.1.1 (0 : Int), y1.1.2.1, tab 16 y1.1.2.2 ((0 : Int), (0 : Int))) j).getD 5 (0 : Int) < (8 : Int)]]) (
                                                  .fork (decide ((tabL 6 fun j => Pl.targetR (tab 8 y1.1.1 (0 : Int), y1.1.2.1, tab 16 y1.1.2.2 ((0 : Int), (0 : Int))) j).getD 5 (0 : Int) < (0 : Int)) || (decide ((tabL 6 fun j => Pl.targetR (tab 8 y1.1.1 (0 : Int), y1.1.2.1, tab 16 y1.1.2.2 ((0 : Int), (0 : Int))) j).getD 5 (0 : Int) ≥ (8 : Int)) || (tab 8 y1.1.1 (0 : Int)).getD ((tabL 6 fun j => Pl.targetR (tab 8 y1.1.1 (0 : Int), y1.1.2.1, tab 16 y1.1.2.2 ((0 : Int), (0 : Int))) j).getD 5 (0 : Int)).toNat (0 : Int) != (2 : Int))) (
                                                   .leaf ((false, ()))) (
                                                   .req ((8 = 8 ∧ 16 = 16) ∧ (↑y1.1.2.1.2.2.length : Int) < (17592186044416 : Int)) (
                                                    .req (63 ≤ 70368744177664) (
                                                     .req ((0 : Int) ≤ (6 : Int) ∧ (6 : Int) < (7 : Int)) (
                                                      .req ((0 : Int) ≤ (6 : Int) ∧ (6 : Int) < (7 : Int)) (
                                                       .req (decide ((tabL 7 fun j => Pl.targetR (tab 8 y1.1.1 (0 : Int), y1.1.2.1, tab 16 y1.1.2.2 ((0 : Int), (0 : Int))) j).getD 6 (0 : Int) < (0 : Int)) = false → conjP [decide ((tabL 7 fun j => Pl.targetR (tab 8 y1.1.1 (0 : Int), y1.1.2.1, tab 16 y1.1.2.2 ((0 : Int), (0 : Int))) j).getD 6 (0 : Int) ≥ (8 : Int)) = false → conjP [(0 : Int) ≤ (tabL 7 fun j => Pl.targetR (tab 8 y1.1.1 (0 : Int), y1.1.2.1, tab 16 y1.1.2.2 ((0 : Int), (0 : Int))) j).getD 6 (0 : Int) ∧ (tabL 7 fun j => Pl.targetR (tab 8 y1.1.1 (0 : Int), y1.1.2.1, tab 16 y1.1.2.2 ((0 : Int), (0 : Int))) j).getD 6 (0 : Int) < (8 : Int), (0 : Int) ≤ (tabL 7 fun j => Pl.targetR (tab 8 y1.1.1 (0 : Int), y1.1.2.1, tab 16 y1.1.2.2 ((0 : Int), (0 : Int))) j).getD 6 (0 : Int) ∧ (tabL 7 fun j => Pl.targetR (tab 8 y1.1.1 (0 : Int), y1.1.2.1, tab 16 y1.1.2.2 ((0 : Int), (0 : Int))) j).getD 6 (0 : Int) < (8 : Int)]]) (
                                                        .fork (decide ((tabL 7 fun j => Pl.targetR (tab 8 y1.1.1 (0 : Int), y1.1.2.1, tab 16 y1.1.2.2 ((0 : Int), (0 : Int))) j).getD 6 (0 : Int) < (0 : Int)) || (decide ((tabL 7 fun j => Pl.targetR (tab 8 y1.1.1 (0 : Int), y1.1.2.1, tab 16 y1.1.2.2 ((0 : Int), (0 : Int))) j).getD 6 (0 : Int) ≥ (8 : Int)) || (tab 8 y1.1.1 (0 : Int)).getD ((tabL 7 fun j => Pl.targetR (tab 8 y1.1.1 (0 : Int), y1.1.2.1, tab 16 y1.1.2.2 ((0 : Int), (0 : Int))) j).getD 6 (0 : Int)).toNat (0 : Int) != (2 : Int))) (
                                                         .leaf ((false, ()))) (
                                                         .req ((8 = 8 ∧ 16 = 16) ∧ (↑y1.1.2.1.2.2.length : Int) < (17592186044416 : Int)) (
                                                          .req (72 ≤ 70368744177664) (
                                                           .req ((0 : Int) ≤ (7 : Int) ∧ (7 : Int) < (8 : Int)) (
                                                            .req ((0 : Int) ≤ (7 : Int) ∧ (7 : Int) < (8 : Int)) (
                                                             .req (decide ((tabL 8 fun j => Pl.targetR (tab 8 y1.1.1 (0 : Int), y1.1.2.1, tab 16 y1.1.2.2 ((0 : Int), (0 : Int))) j).getD 7 (0 : Int) < (0 : Int)) = false → conjP [decide ((tabL 8 fun j => Pl.targetR (tab 8 y1.1.1 (0 : Int), y1.1.2.1, tab 16 y1.1.2.2 ((0 : Int), (0 : Int))) j).getD 7 (0 : Int) ≥ (8 : Int)) = false → conjP [(0 : Int) ≤ (tabL 8 fun j => Pl.targetR (tab 8 y1.1.1 (0 : Int), y1.1.2.1, tab 16 y1.1.2.2 ((0 : Int), (0 : Int))) j).getD 7 (0 : Int) ∧ (tabL 8 fun j => Pl.targetR (tab 8 y1.1.1 (0 : Int), y1.1.2.1, tab 16 y1.1.2.2 ((0 : Int), (0 : Int))) j).getD 7 (0 : Int) < (8 : Int), (0 : Int) ≤ (tabL 8 fun j => Pl.targetR (tab 8 y1.1.1 (0 : Int), y1.1.2.1, tab 16 y1.1.2.2 ((0 : Int), (0 : Int))) j).getD 7 (0 : Int) ∧ (tabL 8 fun j => Pl.targetR (tab 8 y1.1.1 (0 : Int), y1.1.2.1, tab 16 y1.1.2.2 ((0 : Int), (0 : Int))) j).getD 7 (0 : Int) < (8 : Int)]]) (
                                                              .fork (decide ((tabL 8 fun j => Pl.targetR (tab 8 y1.1.1 (0 : Int), y1.1.2.1, tab 16 y1.1.2.2 ((0 : Int), (0 : Int))) j).getD 7 (0 : Int) < (0 : Int)) || (decide ((tabL 8 fun j => Pl.targetR (tab 8 y1.1.1 (0 : Int), y1.1.2.1, tab 16 y1.1.2.2 ((0 : Int), (0 : Int))) j).getD 7 (0 : Int) ≥ (8 : Int)) || (tab 8 y1.1.1 (0 : Int)).getD ((tabL 8 fun j => Pl.targetR (tab 8 y1.1.1 (0 : Int), y1.1.2.1, tab 16 y1.1.2.2 ((0 : Int), (0 : Int))) j).getD 7 (0 : Int)).toNat (0 : Int) != (2 : Int))) (
                                                               .leaf ((false, ()))) (
                                                               .req ((8 = 8 ∧ 16 = 16) ∧ (↑y1.1.2.1.2.2.length : Int) < (17592186044416 : Int)) (
                                                                .req (81 ≤ 70368744177664) (
                                                                 .req ((0 : Int) ≤ (8 : Int) ∧ (8 : Int) < (9 : Int)) (
                                                                  .req ((0 : Int) ≤ (8 : Int) ∧ (8 : Int) < (9 : Int)) (
                                                                   .req (decide ((tabL 9 fun j => Pl.targetR (tab 8 y1.1.1 (0 : Int), y1.1.2.1, tab 16 y1.1.2.2 ((0 : Int), (0 : Int))) j).getD 8 (0 : Int) < (0 : Int)) = false → conjP [decide ((tabL 9 fun j => Pl.targetR (tab 8 y1.1.1 (0 : Int), y1.1.2.1, tab 16 y1.1.2.2 ((0 : Int), (0 : Int))) j).getD 8 (0 : Int) ≥ (8 : Int)) = false → conjP [(0 : Int) ≤ (tabL 9 fun j => Pl.targetR (tab 8 y1.1.1 (0 : Int), y1.1.2.1, tab 16 y1.1.2.2 ((0 : Int), (0 : Int))) j).getD 8 (0 : Int) ∧ (tabL 9 fun j => Pl.targetR (tab 8 y1.1.1 (0 : Int), y1.1.2.1, tab 16 y1.1.2.2 ((0 : Int), (0 : Int))) j).getD 8 (0 : Int) < (8 : Int), (0 : Int) ≤ (tabL 9 fun j => Pl.targetR (tab 8 y1.1.1 (0 : Int), y1.1.2.1, tab 16 y1.1.2.2 ((0 : Int), (0 : Int))) j).getD 8 (0 : Int) ∧ (tabL 9 fun j => Pl.targetR (tab 8 y1.1.1 (0 : Int), y1.1.2.1, tab 16 y1.1.2.2 ((0 : Int), (0 : Int))) j).getD 8 (0 : Int) < (8 : Int)]]) (
                                                                    .fork (decide ((tabL 9 fun j => Pl.targetR (tab 8 y1.1.1 (0 : Int), y1.1.2.1, tab 16 y1.1.2.2 ((0 : Int), (0 : Int))) j).getD 8 (0 : Int) < (0 : Int)) || (decide ((tabL 9 fun j => Pl.targetR (tab 8 y1.1.1 (0 : Int), y1.1.2.1, tab 16 y1.1.2.2 ((0 : Int), (0 : Int))) j).getD 8 (0 : Int) ≥ (8 : Int)) || (tab 8 y1.1.1 (0 : Int)).getD ((tabL 9 fun j => Pl.targetR (tab 8 y1.1.1 (0 : Int), y1.1.2.1, tab 16 y1.1.2.2 ((0 : Int), (0 : Int))) j).getD 8 (0 : Int)).toNat (0 : Int) != (2 : Int))) (
                                                                     .leaf ((false, ()))) (
                                                                     .req ((8 = 8 ∧ 16 = 16) ∧ (↑y1.1.2.1.2.2.length : Int) < (17592186044416 : Int)) (
                                                                      .req (90 ≤ 70368744177664) (
                                                                       .req ((0 : Int) ≤ (9 : Int) ∧ (9 : Int) < (10 : Int)) (
                                                                        .req ((0 : Int) ≤ (9 : Int) ∧ (9 : Int) < (10 : Int)) (
                                                                         .req (decide ((tabL 10 fun j => Pl.targetR (tab 8 y1.1.1 (0 : Int), y1.1.2.1, tab 16 y1.1.2.2 ((0 : Int), (0 : Int))) j).getD 9 (0 : Int) < (0 : Int)) = false → conjP [decide ((tabL 10 fun j => Pl.targetR (tab 8 y1.1.1 (0 : Int), y1.1.2.1, tab 16 y1.1.2.2 ((0 : Int), (0 : Int))) j).getD 9 (0 : Int) ≥ (8 : Int)) = false → conjP [(0 : Int) ≤ (tabL 10 fun j => Pl.targetR (tab 8 y1.1.1 (0 : Int), y1.1.2.1, tab 16 y1.1.2.2 ((0 : Int), (0 : Int))) j).getD 9 (0 : Int) ∧ (tabL 10 fun j => Pl.targetR (tab 8 y1.1.1 (0 : Int), y1.1.2.1, tab 16 y1.1.2.2 ((0 : Int), (0 : Int))) j).getD 9 (0 : Int) < (8 : Int), (0 : Int) ≤ (tabL 10 fun j => Pl.targetR (tab 8 y1.1.1 (0 : Int), y1.1.2.1, tab 16 y1.1.2.2 ((0 : Int), (0 : Int))) j).getD 9 (0 : Int) ∧ (tabL 10 fun j => Pl.targetR (tab 8 y1.1.1 (0 : Int), y1.1.2.1, tab 16 y1.1.2.2 ((0 : Int), (0 : Int))) j).getD 9 (0 : Int) < (8 : Int)]]) (
                                                                          .fork (decide ((tabL 10 fun j => Pl.targetR (tab 8 y1.1.1 (0 : Int), y1.1.2.1, tab 16 y1.1.2.2 ((0 : Int), (0 : Int))) j).getD 9 (0 : Int) < (0 : Int)) || (decide ((tabL 10 fun j => Pl.targetR (tab 8 y1.1.1 (0 : Int), y1.1.2.1, tab 16 y1.1.2.2 ((0 : Int), (0 : Int))) j).getD 9 (0 : Int) ≥ (8 : Int)) || (tab 8 y1.1.1 (0 : Int)).getD ((tabL 10 fun j => Pl.targetR (tab 8 y1.1.1 (0 : Int), y1.1.2.1, tab 16 y1.1.2.2 ((0 : Int), (0 : Int))) j).getD 9 (0 : Int)).toNat (0 : Int) != (2 : Int))) (
                                                                           .leaf ((false, ()))) (
                                                                           .req ((8 = 8 ∧ 16 = 16) ∧ (↑y1.1.2.1.2.2.length : Int) < (17592186044416 : Int)) (
                                                                            .req (99 ≤ 70368744177664) (
                                                                             .req ((0 : Int) ≤ (10 : Int) ∧ (10 : Int) < (11 : Int)) (
                                                                              .req ((0 : Int) ≤ (10 : Int) ∧ (10 : Int) < (11 : Int)) (
                                                                               .req (decide ((tabL 11 fun j => Pl.targetR (tab 8 y1.1.1 (0 : Int), y1.1.2.1, tab 16 y1.1.2.2 ((0 : Int), (0 : Int))) j).getD 10 (0 : Int) < (0 : Int)) = false → conjP [decide ((tabL 11 fun j => Pl.targetR (tab 8 y1.1.1 (0 : Int), y1.1.2.1, tab 16 y1.1.2.2 ((0 : Int), (0 : Int))) j).getD 10 (0 : Int) ≥ (8 : Int)) = false → conjP [(0 : Int) ≤ (tabL 11 fun j => Pl.targetR (tab 8 y1.1.1 (0 : Int), y1.1.2.1, tab 16 y1.1.2.2 ((0 : Int), (0 : Int))) j).getD 10 (0 : Int) ∧ (tabL 11 fun j => Pl.targetR (tab 8 y1.1.1 (0 : Int), y1.1.2.1, tab 16 y1.1.2.2 ((0 : Int), (0 : Int))) j).getD 10 (0 : Int) < (8 : Int), (0 : Int) ≤ (tabL 11 fun j => Pl.targetR (tab 8 y1.1.1 (0 : Int), y1.1.2.1, tab 16 y1.1.2.2 ((0 : Int), (0 : Int))) j).getD 10 (0 : Int) ∧ (tabL 11 fun j => Pl.targetR (tab 8 y1.1.1 (0 : Int), y1.1.2.1, tab 16 y1.1.2.2 ((0 : Int), (0 : Int))) j).getD 10 (0 : Int) < (8 : Int)]]) (
                                                                                .fork (decide ((tabL 11 fun j => Pl.targetR (tab 8 y1.1.1 (0 : Int), y1.1.2.1, tab 16 y1.1.2.2 ((0 : Int), (0 : Int))) j).getD 10 (0 : Int) < (0 : Int)) || (decide ((tabL 11 fun j => Pl.targetR (tab 8 y1.1.1 (0 : Int), y1.1.2.1, tab 16 y1.1.2.2 ((0 : Int), (0 : Int))) j).getD 10 (0 : Int) ≥ (8 : Int)) || (tab 8 y1.1.1 (0 : Int)).getD ((tabL 11 fun j => Pl.targetR (tab 8 y1.1.1 (0 : Int), y1.1.2.1, tab 16 y1.1.2.2 ((0 : Int), (0 : Int))) j).getD 10 (0 : Int)).toNat (0 : Int) != (2 : Int))) (
                                                                                 .leaf ((false, ()))) (
                                                                                 .req ((8 = 8 ∧ 16 = 16) ∧ (↑y1.1.2.1.2.2.length : Int) < (17592186044416 : Int)) (
                                                                                  .req (108 ≤ 70368744177664) (
                                                                                   .req ((0 : Int) ≤ (11 : Int) ∧ (11 : Int) < (12 : Int)) (
                                                                                    .req ((0 : Int) ≤ (11 : Int) ∧ (11 : Int) < (12 : Int)) (
                                                                                     .req (decide ((tabL 12 fun j => Pl.targetR (tab 8 y1.1.1 (0 : Int), y1.1.2.1, tab 16 y1.1.2.2 ((0 : Int), (0 : Int))) j).getD 11 (0 : Int) < (0 : Int)) = false → conjP [decide ((tabL 12 fun j => Pl.targetR (tab 8 y1.1.1 (0 : Int), y1.1.2.1, tab 16 y1.1.2.2 ((0 : Int), (0 : Int))) j).getD 11 (0 : Int) ≥ (8 : Int)) = false → conjP [(0 : Int) ≤ (tabL 12 fun j => Pl.targetR (tab 8 y1.1.1 (0 : Int), y1.1.2.1, tab 16 y1.1.2.2 ((0 : Int), (0 : Int))) j).getD 11 (0 : Int) ∧ (tabL 12 fun j => Pl.targetR (tab 8 y1.1.1 (0 : Int), y1.1.2.1, tab 16 y1.1.2.2 ((0 : Int), (0 : Int))) j).getD 11 (0 : Int) < (8 : Int), (0 : Int) ≤ (tabL 12 fun j => Pl.targetR (tab 8 y1.1.1 (0 : Int), y1.1.2.1, tab 16 y1.1.2.2 ((0 : Int), (0 : Int))) j).getD 11 (0 : Int) ∧ (tabL 12 fun j => Pl.targetR (tab 8 y1.1.1 (0 : Int), y1.1.2.1, tab 16 y1.1.2.2 ((0 : Int), (0 : Int))) j).getD 11 (0 : Int) < (8 : Int)]]) (
                                                                                      .fork (decide ((tabL 12 fun j => Pl.targetR (tab 8 y1.1.1 (0 : Int), y1.1.2.1, tab 16 y1.1.2.2 ((0 : Int), (0 : Int))) j).getD 11 (0 : Int) < (0 : Int)) || (decide ((tabL 12 fun j => Pl.targetR (tab 8 y1.1.1 (0 : Int), y1.1.2.1, tab 16 y1.1.2.2 ((0 : Int), (0 : Int))) j).getD 11 (0 : Int) ≥ (8 : Int)) || (tab 8 y1.1.1 (0 : Int)).getD ((tabL 12 fun j => Pl.targetR (tab 8 y1.1.1 (0 : Int), y1.1.2.1, tab 16 y1.1.2.2 ((0 : Int), (0 : Int))) j).getD 11 (0 : Int)).toNat (0 : Int) != (2 : Int))) (
                                                                                       .leaf ((false, ()))) (
                                                                                       .req ((8 = 8 ∧ 16 = 16) ∧ (↑y1.1.2.1.2.2.length : Int) < (17592186044416 : Int)) (
                                                                                        .req (117 ≤ 70368744177664) (
                                                                                         .req ((0 : Int) ≤ (12 : Int) ∧ (12 : Int) < (13 : Int)) (
                                                                                          .req ((0 : Int) ≤ (12 : Int) ∧ (12 : Int) < (13 : Int)) (
                                                                                           .req (decide ((tabL 13 fun j => Pl.targetR (tab 8 y1.1.1 (0 : Int), y1.1.2.1, tab 16 y1.1.2.2 ((0 : Int), (0 : Int))) j).getD 12 (0 : Int) < (0 : Int)) = false → conjP [decide ((tabL 13 fun j => Pl.targetR (tab 8 y1.1.1 (0 : Int), y1.1.2.1, tab 16 y1.1.2.2 ((0 : Int), (0 : Int))) j).getD 12 (0 : Int) ≥ (8 : Int)) = false → conjP [(0 : Int) ≤ (tabL 13 fun j => Pl.targetR (tab 8 y1.1.1 (0 : Int), y1.1.2.1, tab 16 y1.1.2.2 ((0 : Int), (0 : Int))) j).getD 12 (0 : Int) ∧ (tabL 13 fun j => Pl.targetR (tab 8 y1.1.1 (0 : Int), y1.1.2.1, tab 16 y1.1.2.2 ((0 : Int), (0 : Int))) j).getD 12 (0 : Int) < (8 : Int), (0 : Int) ≤ (tabL 13 fun j => Pl.targetR (tab 8 y1.1.1 (0 : Int), y1.1.2.1, tab 16 y1.1.2.2 ((0 : Int), (0 : Int))) j).getD 12 (0 : Int) ∧ (tabL 13 fun j => Pl.targetR (tab 8 y1.1.1 (0 : Int), y1.1.2.1, tab 16 y1.1.2.2 ((0 : Int), (0 : Int))) j).getD 12 (0 : Int) < (8 : Int)]]) (
                                                                                            .fork (decide ((tabL 13 fun j => Pl.targetR (tab 8 y1.1.1 (0 : Int), y1.1.2.1, tab 16 y1.1.2.2 ((0 : Int), (0 : Int))) j).getD 12 (0 : Int) < (0 : Int)) || (decide ((tabL 13 fun j => Pl.targetR (tab 8 y1.1.1 (0 : Int), y1.1.2.1, tab 16 y1.1.2.2 ((0 : Int), (0 : Int))) j).getD 12 (0 : Int) ≥ (8 : Int)) || (tab 8 y1.1.1 (0 : Int)).getD ((tabL 13 fun j => Pl.targetR (tab 8 y1.1.1 (0 : Int), y1.1.2.1, tab 16 y1.1.2.2 ((0 : Int), (0 : Int))) j).getD 12 (0 : Int)).toNat (0 : Int) != (2 : Int))) (
                                                                                             .leaf ((false, ()))) (
                                                                                             .req ((8 = 8 ∧ 16 = 16) ∧ (↑y1.1.2.1.2.2.length : Int) < (17592186044416 : Int)) (
                                                                                              .req (126 ≤ 70368744177664) (
                                                                                               .req ((0 : Int) ≤ (13 : Int) ∧ (13 : Int) < (14 : Int)) (
                                                                                                .req ((0 : Int) ≤ (13 : Int) ∧ (13 : Int) < (14 : Int)) (
                                                                                                 .req (decide ((tabL 14 fun j => Pl.targetR (tab 8 y1.1.1 (0 : Int), y1.1.2.1, tab 16 y1.1.2.2 ((0 : Int), (0 : Int))) j).getD 13 (0 : Int) < (0 : Int)) = false → conjP [decide ((tabL 14 fun j => Pl.targetR (tab 8 y1.1.1 (0 : Int), y1.1.2.1, tab 16 y1.1.2.2 ((0 : Int), (0 : Int))) j).getD 13 (0 : Int) ≥ (8 : Int)) = false → conjP [(0 : Int) ≤ (tabL 14 fun j => Pl.targetR (tab 8 y1.1.1 (0 : Int), y1.1.2.1, tab 16 y1.1.2.2 ((0 : Int), (0 : Int))) j).getD 13 (0 : Int) ∧ (tabL 14 fun j => Pl.targetR (tab 8 y1.1.1 (0 : Int), y1.1.2.1, tab 16 y1.1.2.2 ((0 : Int), (0 : Int))) j).getD 13 (0 : Int) < (8 : Int), (0 : Int) ≤ (tabL 14 fun j => Pl.targetR (tab 8 y1.1.1 (0 : Int), y1.1.2.1, tab 16 y1.1.2.2 ((0 : Int), (0 : Int))) j).getD 13 (0 : Int) ∧ (tabL 14 fun j => Pl.targetR (tab 8 y1.1.1 (0 : Int), y1.1.2.1, tab 16 y1.1.2.2 ((0 : Int), (0 : Int))) j).getD 13 (0 : Int) < (8 : Int)]]) (
                                                                                                  .fork (decide ((tabL 14 fun j => Pl.targetR (tab 8 y1.1.1 (0 : Int), y1.1.2.1, tab 16 y1.1.2.2 ((0 : Int), (0 : Int))) j).getD 13 (0 : Int) < (0 : Int)) || (decide ((tabL 14 fun j => Pl.targetR (tab 8 y1.1.1 (0 : Int), y1.1.2.1, tab 16 y1.1.2.2 ((0 : Int), (0 : Int))) j).getD 13 (0 : Int) ≥ (8 : Int)) || (tab 8 y1.1.1 (0 : Int)).getD ((tabL 14 fun j => Pl.targetR (tab 8 y1.1.1 (0 : Int), y1.1.2.1, tab 16 y1.1.2.2 ((0 : Int), (0 : Int))) j).getD 13 (0 : Int)).toNat (0 : Int) != (2 : Int))) (
                                                                                                   .leaf ((false, ()))) (
                                                                                                   .req ((8 = 8 ∧ 16 = 16) ∧ (↑y1.1.2.1.2.2.length : Int) < (17592186044416 : Int)) (
                                                                                                    .req (135 ≤ 70368744177664) (
                                                                                                     .req ((0 : Int) ≤ (14 : Int) ∧ (14 : Int) < (15 : Int)) (
                                                                                                      .req ((0 : Int) ≤ (14 : Int) ∧ (14 : Int) < (15 : Int)) (
                                                                                                       .req (decide ((tabL 15 fun j => Pl.targetR (tab 8 y1.1.1 (0 : Int), y1.1.2.1, tab 16 y1.1.2.2 ((0 : Int), (0 : Int))) j).getD 14 (0 : Int) < (0 : Int)) = false → conjP [decide ((tabL 15 fun j => Pl.targetR (tab 8 y1.1.1 (0 : Int), y1.1.2.1, tab 16 y1.1.2.2 ((0 : Int), (0 : Int))) j).getD 14 (0 : Int) ≥ (8 : Int)) = false → conjP [(0 : Int) ≤ (tabL 15 fun j => Pl.targetR (tab 8 y1.1.1 (0 : Int), y1.1.2.1, tab 16 y1.1.2.2 ((0 : Int), (0 : Int))) j).getD 14 (0 : Int) ∧ (tabL 15 fun j => Pl.targetR (tab 8 y1.1.1 (0 : Int), y1.1.2.1, tab 16 y1.1.2.2 ((0 : Int), (0 : Int))) j).getD 14 (0 : Int) < (8 : Int), (0 : Int) ≤ (tabL 15 fun j => Pl.targetR (tab 8 y1.1.1 (0 : Int), y1.1.2.1, tab 16 y1.1.2.2 ((0 : Int), (0 : Int))) j).getD 14 (0 : Int) ∧ (tabL 15 fun j => Pl.targetR (tab 8 y1.1.1 (0 : Int), y1.1.2.1, tab 16 y1.1.2.2 ((0 : Int), (0 : Int))) j).getD 14 (0 : Int) < (8 : Int)]]) (
                                                                                                        .fork (decide ((tabL 15 fun j => Pl.targetR (tab 8 y1.1.1 (0 : Int), y1.1.2.1, tab 16 y1.1.2.2 ((0 : Int), (0 : Int))) j).getD 14 (0 : Int) < (0 : Int)) || (decide ((tabL 15 fun j => Pl.targetR (tab 8 y1.1.1 (0 : Int), y1.1.2.1, tab 16 y1.1.2.2 ((0 : Int), (0 : Int))) j).getD 14 (0 : Int) ≥ (8 : Int)) || (tab 8 y1.1.1 (0 : Int)).getD ((tabL 15 fun j => Pl.targetR (tab 8 y1.1.1 (0 : Int), y1.1.2.1, tab 16 y1.1.2.2 ((0 : Int), (0 : Int))) j).getD 14 (0 : Int)).toNat (0 : Int) != (2 : Int))) (
                                                                                                         .leaf ((false, ()))) (
                                                                                                         .req ((8 = 8 ∧ 16 = 16) ∧ (↑y1.1.2.1.2.2.length : Int) < (17592186044416 : Int)) (
                                                                                                          .req (144 ≤ 70368744177664) (
                                                                                                           .req ((0 : Int) ≤ (15 : Int) ∧ (15 : Int) < (16 : Int)) (
                                                                                                            .req ((0 : Int) ≤ (15 : Int) ∧ (15 : Int) < (16 : Int)) (
                                                                                                             .req (decide ((tabL 16 fun j => Pl.targetR (tab 8 y1.1.1 (0 : Int), y1.1.2.1, tab 16 y1.1.2.2 ((0 : Int), (0 : Int))) j).getD 15 (0 : Int) < (0 : Int)) = false → conjP [decide ((tabL 16 fun j => Pl.targetR (tab 8 y1.1.1 (0 : Int), y1.1.2.1, tab 16 y1.1.2.2 ((0 : Int), (0 : Int))) j).getD 15 (0 : Int) ≥ (8 : Int)) = false → conjP [(0 : Int) ≤ (tabL 16 fun j => Pl.targetR (tab 8 y1.1.1 (0 : Int), y1.1.2.1, tab 16 y1.1.2.2 ((0 : Int), (0 : Int))) j).getD 15 (0 : Int) ∧ (tabL 16 fun j => Pl.targetR (tab 8 y1.1.1 (0 : Int), y1.1.2.1, tab 16 y1.1.2.2 ((0 : Int), (0 : Int))) j).getD 15 (0 : Int) < (8 : Int), (0 : Int) ≤ (tabL 16 fun j => Pl.targetR (tab 8 y1.1.1 (0 : Int), y1.1.2.1, tab 16 y1.1.2.2 ((0 : Int), (0 : Int))) j).getD 15 (0 : Int) ∧ (tabL 16 fun j => Pl.targetR (tab 8 y1.1.1 (0 : Int), y1.1.2.1, tab 16 y1.1.2.2 ((0 : Int), (0 : Int))) j).getD 15 (0 : Int) < (8 : Int)]]) (
                                                                                                              .fork (decide ((tabL 16 fun j => Pl.targetR (tab 8 y1.1.1 (0 : Int), y1.1.2.1, tab 16 y1.1.2.2 ((0 : Int), (0 : Int))) j).getD 15 (0 : Int) < (0 : Int)) || (decide ((tabL 16 fun j => Pl.targetR (tab 8 y1.1.1 (0 : Int), y1.1.2.1, tab 16 y1.1.2.2 ((0 : Int), (0 : Int))) j).getD 15 (0 : Int) ≥ (8 : Int)) || (tab 8 y1.1.1 (0 : Int)).getD ((tabL 16 fun j => Pl.targetR (tab 8 y1.1.1 (0 : Int), y1.1.2.1, tab 16 y1.1.2.2 ((0 : Int), (0 : Int))) j).getD 15 (0 : Int)).toNat (0 : Int) != (2 : Int))) (
                                                                                                               .leaf ((false, ()))) (
                                                                                                               .req ((↑(Pl.ofR (tab 8 r.1 (0 : Int), r.2.1, tab 16 r.2.2 ((0 : Int), (0 : Int))) (1 : Int) (2 : Int)).length : Int) < (4611686018427387904 : Int)) (
                                                                                                                .req (True) (
                                                                                                                 .fork (Pl.movL (Pl.asgL (tabL 16 fun j => Pl.targetR (tab 8 y1.1.1 (0 : Int), y1.1.2.1, tab 16 y1.1.2.2 ((0 : Int), (0 : Int))) j) (Pl.ofR (tab 8 r.1 (0 : Int), r.2.1, tab 16 r.2.2 ((0 : Int), (0 : Int))) (1 : Int) (2 : Int))) (tabL 16 fun j => Pl.targetR (tab 8 y1.1.1 (0 : Int), y1.1.2.1, tab 16 y1.1.2.2 ((0 : Int), (0 : Int))) j) == (0 : Int)) (
                                                                                                                  .req (8 = 8 ∧ 16 = 16) (
                                                                                                                   .fork ((↑(Pl.ofR (tab 8 y1.1.1 (0 : Int), y1.1.2.1, tab 16 y1.1.2.2 ((0 : Int), (0 : Int))) (1 : Int) (1 : Int)).length : Int) == (0 : Int)) (
                                                                                                                    .req (True) (
                                                                                                                     .leaf ((true, ())))) (
                                                                                                                    .leaf ((false, ()))))) (
                                                                                                                  .leaf ((false, ())))))))))))))))))))))))))))))))))))))))))))))))))))))))))))))))))))))))))))))))))))))))))))))))))))))))))))))))))))))) : Tree (Bool × PUnit)) := by kernel_rfl
end Pl
namespace Pl
open Go Sx Go.Proofs Go.RowKit
theorem planS_len (r : RingD) (s : Int) : (planS r s).1.2.2.length ≤ max r.2.1.2.2.length 16 := by
  unfold planS
  split
  · exact Nat.le_max_left _ _
  · split
    · exact Nat.le_max_left _ _
    · have := asg_len (r := r) (nowR r)
      unfold nextP
      split
      · split
        · simp
        · exact Nat.le_trans this (Nat.le_max_right _ _)
      · simp
theorem stage_okr {r : RingD} (hr : okR r) (s : Int) (h : List Int) : okR (stageR r s h).1 ∧ (stageR r s h).1.2.1.2.2.length ≤ max r.2.1.2.2.length 16 := by
  have hz : okR zeroR ∧ zeroR.2.1.2.2.length ≤ max r.2.1.2.2.length 16 := ⟨⟨rfl, rfl⟩, Nat.zero_le _⟩
  unfold stageR
  split
  · exact hz
  · split
    · exact hz
    · split
      · exact hz
      · split
        · exact hz
        · exact ⟨out_ok r s hr, planS_len r s⟩
theorem rises_facts {r S : RingD} {s : Int} {h : List Int} (hr : okR r) (e : stageR r s h = (S, 0)) :
    mayR S = true ∧ belowR r S = true ∧ sameR r S = false ∧ S.2.2 = r.2.2 ∧ leadR r h = s ∧ nodeB s = true ∧ ∀ s' h', stageR S s' h' = (zeroR, if nodeB s' = false then 1 else if leadR S h' ≠ s' then 10 else 9) := by
  obtain ⟨h1, h2, h3, h4, rfl, h6⟩ := stage_zero e
  exact ⟨out_may hr h1 h4, belowR_iff.2 (out_join hr h4), by rw [Bool.eq_false_iff, Ne, sameR_iff]; exact fun e => h6 e.symm, rfl, h3, h2, fun s' h' => stage_again h' hr h1 h4⟩
theorem rises_targets {r S : RingD} {s : Int} {h : List Int} (hr : okR r) (e : stageR r s h = (S, 0)) (hm : (ofR r 1 2).length ≠ 0) :
    tgtL S = asgL (nowR r) (ofR r 1 2) ∧ (∀ j : Nat, j < 16 → 0 ≤ targetR S (j : Int) ∧ targetR S (j : Int) < 8 ∧ S.1.getD (targetR S (j : Int)).toNat 0 = 2) ∧ ofR S 1 1 = [] := by
  obtain ⟨h1, h2, h3, h4, rfl, h6⟩ := stage_zero e
  have hp := planS_may (may_plan hr h1) h4
  have hto := planS_to h4 hm
  have ha := asg_all hm (nowR r)
  have ht : tgtL (outS r s) = asgL (nowR r) (ofR r 1 2) := by
    rw [tgtL_eq (r := outS r s) hp (by show (planS r s).1.2.2.length ≠ 0; rw [hto, ha.1]; omega)]
    exact hto
  refine ⟨ht, fun j hj => ?_, ?_⟩
  · have e1 : targetR (outS r s) (j : Int) = (tgtL (outS r s)).getD j 0 := by unfold tgtL; rw [tabL_getD _ _ _ hj]
    have e2 := ha.2 j hj
    rw [← ht, ← e1] at e2
    obtain ⟨a1, a2, a3, a4⟩ := ofR_mem.1 e2
    refine ⟨a1, a2, ?_⟩
    show (stG _ _ r.1).getD _ 0 = 2
    rw [stG_getD _ _ _ (by omega)]
    split
    · rfl
    · split <;> omega
  · refine List.eq_nil_iff_forall_not_mem.2 fun x hx => ?_
    obtain ⟨a1, a2, a3, a4⟩ := ofR_mem.1 hx
    have : (stG (ownL r) (tgtL (r.1, (planS r s).1, r.2.2)) r.1).getD x.toNat 0 = 1 := by
      show (outS r s).1.getD x.toNat 0 = 1
      omega
    rw [stG_getD _ _ _ (by omega)] at this
    split at this
    · omega
    · split at this <;> omega
theorem rises_t (r : RingD) (s : Int) (h : List Int) (hr : okR r) : (fnT Z3 [] 100 Try.f6 [Ring, i64, ints] [.bool] (r, s, h, ())).all fun y => y = (true, ()) := by
  refine Tree.all_eq (tL2 r s h) ?_
  show Tree.all (α := Bool × Unit) _ Yes
  rw [tab_eq hr.1, tab_eq hr.2]
  have e : (r.1, r.2.1, r.2.2) = r := rfl
  simp only [e, all_leaf, all_fork, all_req, all_lt, and_true, true_and, conjP, yes_t, yes_f, yes_iff, implies_true]
  have hs := stage_okr hr s h
  obtain ⟨S, E, hSE⟩ : ∃ S E, stageR r s h = (S, E) := ⟨_, _, rfl⟩
  rw [hSE] at hs ⊢
  simp only at hs ⊢
  rw [tab_eq hs.1.1, tab_eq hs.1.2]
  have e' : (S.1, S.2.1, S.2.2) = S := rfl
  simp only [e', eq16 hs.1.2 hr.2]
  have hl := hs.2
  intro r1 h1
  simp only [decide_eq_false_iff_not] at r1 h1
  have r100 : (r.2.1.2.2.length : Int) < 17592186044416 := by omega
  have s100 : (S.2.1.2.2.length : Int) < 17592186044416 := by omega
  refine ⟨⟨r100, by omega⟩, fun n0 => ⟨⟨s100, by omega⟩, ?_⟩, fun n0 => ?_⟩
  · rw [stage_err hSE (by simpa using n0)]; rfl
  have n0 : E = 0 := by simpa using n0
  subst n0
  obtain ⟨f1, f2, f3, f4, f5, f6, f7⟩ := rises_facts hr hSE
  have f6' := nodeB_iff.1 f6
  have ft := rises_targets hr hSE
  rw [f7 s h, f6, f1, f2, f3, f4]
  simp only [Bool.true_eq_false, if_false]
  refine ⟨fun n1 => ?_, fun n1 => ⟨⟨s100, by omega⟩, ⟨s100, ?_⟩, ?_⟩⟩
  · simp only [Bool.or_eq_true, decide_eq_true_eq] at n1; omega
  · exact fun _ => ⟨⟨r100, s100⟩, fun _ => ⟨⟨r100, s100⟩, fun _ _ => by omega⟩⟩
  refine ⟨fun n2 => by rw [f5] at n2; simp at n2, fun n2 => ⟨fun _ _ => by omega, fun n3 => ?_, fun n3 n4 => ?_⟩⟩
  · by_cases g : leadR S h = s
    · rw [if_neg (by simpa using g)] at n3; simp at n3
    · rw [if_pos g] at n3; simp [g] at n3
  have hm : (ofR r 1 2).length ≠ 0 := by simp only [beq_eq_false_iff_ne] at n4; omega
  obtain ⟨t1, t2, t3⟩ := ft hm
  have hn : ∀ j : Nat, j < 16 → decide (targetR S (j : Int) < 0) = false ∧ decide (targetR S (j : Int) ≥ 8) = false ∧ (S.1.getD (targetR S (j : Int)).toNat 0 != 2) = false ∧ 0 ≤ targetR S (j : Int) ∧ targetR S (j : Int) < 8 := fun j hj => by
    obtain ⟨b1, b2, b3⟩ := t2 j hj
    exact ⟨decide_eq_false (by omega), decide_eq_false (by omega), by rw [b3]; rfl, b1, b2⟩
  have k1 : ∀ j : Nat, j < 16 → decide (targetR S (j : Int) < 0) = false := fun j hj => (hn j hj).1
  have k2 : ∀ j : Nat, j < 16 → decide (targetR S (j : Int) ≥ 8) = false := fun j hj => (hn j hj).2.1
  have k3 : ∀ j : Nat, j < 16 → (S.1.getD (targetR S (j : Int)).toNat 0 != 2) = false := fun j hj => (hn j hj).2.2.1
  have k4 : ∀ j : Nat, j < 16 → 0 ≤ targetR S (j : Int) := fun j hj => (hn j hj).2.2.2.1
  have k5 : ∀ j : Nat, j < 16 → targetR S (j : Int) < 8 := fun j hj => (hn j hj).2.2.2.2
  have i0 := hn 0 (by decide)
  have i1 := hn 1 (by decide)
  have i2 := hn 2 (by decide)
  simp only [Int.natCast_zero] at i0
  have c1 : ((1 : Nat) : Int) = 1 := rfl
  have c2 : ((2 : Nat) : Int) = 2 := rfl
  rw [c1] at i1
  rw [c2] at i2
  have et : tabL 16 (fun j => targetR S (j : Int)) = tgtL S := rfl
  have o15 : (tgtL S).getD 15 0 = targetR S ((15 : Nat) : Int) := by unfold tgtL; rw [tabL_getD _ _ _ (by decide)]
  simp only [List.getD_cons_zero, List.getD_cons_succ, tabL_getD, Nat.reduceLT, k1, k2, k3, k4, k5, i0, i1, i2, s100, Bool.or_self, Bool.false_eq_true, false_implies, implies_true, true_and, and_true, Int.reduceLE, Int.reduceLT, forall_const, et, o15]
  have m8 := ofR_len r 1 2
  have ag : asgL (tgtL S) (ofR r 1 2) = tgtL S := by
    rw [t1]; exact (again (nowR r) (ofR r 1 2) (by rw [memL_ofR]; exact hm)).2
  rw [ag, mov_self, t3]
  and_intros
  all_goals try omega
  · intro _ c; exact absurd c (by decide)
  · intro c; exact absurd c (by decide)
theorem rises_ok : PureOK Try.prog 6 [Ring, i64, ints] [.bool] (fun x => okR x.1) (fun _ => (true, ())) :=
  fn_pure (E := Z3) (n := 100) Z3_ok Try.func6 bodyL2 .nil fun x h => rises_t x.1 x.2.1 x.2.2.1 h
end Pl
namespace Pl
open Go Sx Go.Proofs Go.RowKit
def hadF (now : List Int) (n : Int) (p : Nat) : Bool := decide ((p : Int) < (now.length : Int)) && now.getD p 0 == n
def keptF (now l : List Int) (n : Int) (p : Nat) : Bool := hadF now n p && l.getD p 0 == n
def stayP (now l m q : List Int) : Bool := (List.range m.length).all (fun i => decide (cntB (keptF now l (m.getD i 0)) 16 0 = min (cntB (hadF now (m.getD i 0)) 16 0) (q.getD i 0)))
def stayS (now l : List Int) : List Int → Int
  | [] => 0
  | n :: r => cntB (keptF now l n) 16 0 + stayS now l r
theorem cntB_le {f g : Nat → Bool} : ∀ (c j : Nat), (∀ k, j ≤ k → k < j + c → f k = true → g k = true) → cntB f c j ≤ cntB g c j
  | 0, _, _ => by simp [cntB]
  | c + 1, j, h => by
    have := cntB_le (f := f) (g := g) c (j + 1) (fun k a b => h k (by omega) (by omega))
    have h0 := h j (by omega) (by omega)
    simp only [cntB]
    cases hf : f j <;> cases hg : g j <;> simp [hf, hg] at h0 ⊢ <;> omega
theorem cntB_add {f g h : Nat → Bool} : ∀ (c j : Nat), (∀ k, j ≤ k → k < j + c → h k = (f k || g k) ∧ (f k && g k) = false) → cntB h c j = cntB f c j + cntB g c j
  | 0, _, _ => by simp [cntB]
  | c + 1, j, e => by
    have := cntB_add (f := f) (g := g) (h := h) c (j + 1) (fun k a b => e k (by omega) (by omega))
    have h0 := e j (by omega) (by omega)
    simp only [cntB, h0.1, this]
    have h1 := h0.2
    cases hf : f j <;> cases hg : g j <;> simp [hf, hg] at h1 ⊢ <;> omega
theorem cntB_not {f g : Nat → Bool} : ∀ (c j : Nat), (∀ k, j ≤ k → k < j + c → g k = !f k) → cntB g c j = c - cntB f c j
  | 0, _, _ => by simp [cntB]
  | c + 1, j, e => by
    have := cntB_not (f := f) (g := g) c (j + 1) (fun k a b => e k (by omega) (by omega))
    have h0 := e j (by omega) (by omega)
    simp only [cntB, h0, this]
    cases f j <;> simp <;> omega
theorem cntB_count {l : List Int} (n : Int) : ∀ (c j : Nat), j + c = l.length → cntB (fun p => l.getD p 0 == n) c j = ((l.drop j).count n : Int)
  | 0, j, h => by rw [List.drop_eq_nil_of_le (by omega)]; rfl
  | c + 1, j, h => by
    have hd := drop_cons (l := l) (i := (j : Int)) 0 (by omega) (by omega)
    have e3 : ((j : Int) + 1).toNat = j + 1 := by omega
    rw [e3, Int.toNat_natCast] at hd
    rw [hd, List.count_cons]
    simp only [cntB, cntB_count (l := l) n c (j + 1) (by omega)]
    split <;> omega
theorem asg0_src (now m : List Int) : ∀ (c p : Nat) (to la : List Int), p + c = 16 → to.length = 16 → (∀ k, k < p → to.getD k 0 = -1 ∨ to.getD k 0 = atL now (k : Int)) → ∀ k, k < 16 → (asg0 now m c p to la).1.getD k 0 = -1 ∨ (asg0 now m c p to la).1.getD k 0 = atL now (k : Int)
  | 0, p, to, la, hp, _, h, k, hk => h k (by omega)
  | c + 1, p, to, la, hp, ht, h, k, hk => by
    simp only [asg0]
    split
    · rename_i t
      simp only [Bool.and_eq_true, decide_eq_true_eq] at t
      refine asg0_src now m c (p + 1) _ _ (by omega) (by simp [ht]) (fun j hj => ?_) k hk
      rw [getD_set _ _ _ _ (by omega)]
      split
      · rename_i e
        subst e
        exact .inr ((indexF_range m (atL now (j : Int))).2.2 t.1)
      · exact h j (by omega)
    · refine asg0_src now m c (p + 1) _ _ (by omega) (by simp [ht]) (fun j hj => ?_) k hk
      rw [getD_set _ _ _ _ (by omega)]
      split
      · exact .inl rfl
      · exact h j (by omega)
theorem index_some {m : List Int} (hd : m.Nodup) {i : Nat} (hi : i < m.length) : indexF m (m.getD i 0) = i := by
  have hx : m.contains (m.getD i 0) = true := by simpa using getD_mem (l := m) (i := (i : Int)) 0 (by omega) (by omega)
  have e : indexF m (m.getD i 0) = idxF (m.getD i 0) m 0 := by unfold indexF; rw [if_pos hx]
  obtain ⟨i1, _, i2, i3⟩ := idxF_ge (m.getD i 0) m 0 (by omega) hx
  rw [← e, Int.sub_zero] at i3
  rw [← e] at i1 i2
  have := nodup_getD hd (by omega) hi i3
  omega
theorem asg0_lack (now m : List Int) (hd : m.Nodup) (i : Nat) (hi : i < m.length) : ∀ (c p : Nat) (to la : List Int), p + c = 16 → la.length = m.length → (∀ x ∈ la, 0 ≤ x) → (asg0 now m c p to la).2.getD i 0 = max (la.getD i 0 - cntB (fun k => atL now (k : Int) == m.getD i 0) c p) 0
  | 0, p, to, la, _, hl, h0 => by
    have : la.getD i 0 ∈ la := getD_mem (i := (i : Int)) 0 (by omega) (by omega)
    have := h0 _ this
    simp only [asg0, cntB]; omega
  | c + 1, p, to, la, hp, hl, h0 => by
    have hr := (cntB_range (fun k => atL now (k : Int) == m.getD i 0) c (p + 1)).1
    obtain ⟨i1, i2, i3⟩ := indexF_range m (atL now (p : Int))
    have hcase : (atL now (p : Int) == m.getD i 0) = decide (indexF m (atL now (p : Int)) = i) := by
      by_cases c : atL now (p : Int) = m.getD i 0
      · rw [c, index_some hd hi]; simp
      · have : indexF m (atL now (p : Int)) ≠ i := fun e => c (by have := i3 (by omega); rw [e, Int.toNat_natCast] at this; exact this.symm)
        rw [beq_eq_false_iff_ne.2 c, decide_eq_false this]
    simp only [asg0, cntB, hcase]
    split
    · rename_i t
      simp only [Bool.and_eq_true, decide_eq_true_eq] at t
      have hlt : (indexF m (atL now (p : Int))).toNat < la.length := by omega
      rw [asg0_lack now m hd i hi c (p + 1) _ _ (by omega) (by simp [hl]) (fun x hx => by
        rcases set_mem hx with h | h
        · exact h0 x h
        · omega), getD_set _ _ _ _ hlt]
      by_cases e : indexF m (atL now (p : Int)) = i
      · rw [if_pos (by omega), if_pos (by simpa using e)]
        rw [e, Int.toNat_natCast] at t ⊢
        omega
      · rw [if_neg (by omega), if_neg (by simpa using e)]; omega
    · rename_i t
      rw [asg0_lack now m hd i hi c (p + 1) _ _ (by omega) hl h0]
      by_cases e : indexF m (atL now (p : Int)) = i
      · rw [if_pos (by simpa using e)]
        rw [e, Int.toNat_natCast] at t
        simp only [Bool.and_eq_true, decide_eq_true_eq, not_and] at t
        have := t (by omega)
        omega
      · rw [if_neg (by simpa using e)]; omega
theorem atL_eq {now : List Int} {n : Int} (hn : 0 ≤ n) (p : Nat) : (atL now (p : Int) == n) = hadF now n p := by
  unfold atL hadF
  rw [Int.toNat_natCast]
  by_cases c : (p : Int) < (now.length : Int)
  · rw [if_pos c]; simp [c]
  · rw [if_neg c]
    have : (-1 : Int) ≠ n := by omega
    simp [c, this]
theorem stays_kept (now ms : List Int) (h : (memL ms).length ≠ 0) (i : Nat) (hi : i < (memL ms).length) : cntB (keptF now (asgL now ms) ((memL ms).getD i 0)) 16 0 = min (cntB (hadF now ((memL ms).getD i 0)) 16 0) ((quotaL now ms).getD i 0) := by
  obtain ⟨q1, q2, q3⟩ := quotaL_all now ms h
  have hd := memL_nodup ms
  have hm : ∀ x ∈ memL ms, 0 ≤ x := fun x hx => (memL_nn ms x hx).1
  obtain ⟨l1, l2, l3⟩ := asgL_all now ms h
  have hE : asgL now ms = asgM now (memL ms) (quotaL now ms) := by unfold asgL; rw [if_neg h]
  have hA := (asgM_all now (memL ms) (quotaL now ms) hm hd q1 q2 q3).2.2
  rw [← hE] at hA
  obtain ⟨a1, a2, a3, a4, a5, a6⟩ := asg0_inv now (memL ms) (quotaL now ms) hm hd 16 0 (List.replicate 16 0) (quotaL now ms) (by omega) (by simp) q2 q3 (by simp; omega) (fun k hk => by omega) (fun i hi => by simp)
  have a7 := asg0_src now (memL ms) 16 0 (List.replicate 16 0) (quotaL now ms) (by omega) (by simp) (fun k hk => by omega)
  have a8 := asg0_lack now (memL ms) hd i hi 16 0 (List.replicate 16 0) (quotaL now ms) (by omega) q2 (fun x hx => (q3 x hx).1)
  have a9 := a6 i hi
  have hn0 := hm _ (getD_mem (l := memL ms) (i := (i : Int)) 0 (by omega) (by omega))
  rw [Int.toNat_natCast] at hn0
  have l4 := l3 i hi
  generalize (memL ms).getD i 0 = n at *
  generalize hr : asg0 now (memL ms) 16 0 (List.replicate 16 0) (quotaL now ms) = r at *
  rw [cntB_congr (fun k => atL now (k : Int) == n) (hadF now n) 16 0 (fun k _ _ => atL_eq hn0 k)] at a8
  have hr0 := (cntB_range (hadF now n) 16 0).1
  have hqi : 0 ≤ (quotaL now ms).getD i 0 := (q3 _ (getD_mem (l := quotaL now ms) (i := (i : Int)) 0 (by omega) (by omega))).1
  have k1 : cntB (keptF now (asgL now ms) n) 16 0 ≤ cntB (hadF now n) 16 0 := cntB_le 16 0 fun k _ _ hk => by
    unfold keptF at hk
    simp only [Bool.and_eq_true] at hk
    exact hk.1
  have k2 : cntB (keptF now (asgL now ms) n) 16 0 ≤ ((asgL now ms).count n : Int) := by
    have := cntB_count (l := asgL now ms) n 16 0 (by omega)
    rw [List.drop_zero] at this
    rw [← this]
    refine cntB_le 16 0 fun k _ _ hk => ?_
    unfold keptF at hk
    simp only [Bool.and_eq_true] at hk
    exact hk.2
  have k3 : (r.1.count n : Int) ≤ cntB (keptF now (asgL now ms) n) 16 0 := by
    have := cntB_count (l := r.1) n 16 0 (by omega)
    rw [List.drop_zero] at this
    rw [← this]
    refine cntB_le 16 0 fun k _ hk e => ?_
    have e' : r.1.getD k 0 = n := eq_of_beq e
    have e1 := hA k (by omega)
    have e2 := (a7 k (by omega)).resolve_left (by omega)
    unfold keptF
    rw [← atL_eq hn0 k, ← e2, e1, e']
    simp
  omega
theorem stays_all (now ms : List Int) (h : (memL ms).length ≠ 0) : stayP now (asgL now ms) (memL ms) (quotaL now ms) = true := by
  unfold stayP
  rw [List.all_eq_true]
  intro i hi
  rw [decide_eq_true_eq]
  exact stays_kept now ms h i (List.mem_range.1 hi)
theorem stayS_eq (now l : List Int) : ∀ m : List Int, m.Nodup → (∀ x ∈ m, 0 ≤ x) → stayS now l m = cntB (fun p => m.contains (l.getD p 0) && (atL now (p : Int) == l.getD p 0)) 16 0
  | [], _, _ => by
    rw [cntB_all (b := false) (fun k _ _ => by simp)]; rfl
  | n :: r, hd, hn => by
    have hd' := List.nodup_cons.1 hd
    have hn0 := hn n (by simp)
    simp only [stayS]
    rw [stayS_eq now l r hd'.2 (fun x hx => hn x (by simp [hx]))]
    symm
    refine cntB_add 16 0 fun k _ _ => ?_
    unfold keptF
    rw [← atL_eq hn0 k, List.contains_cons]
    by_cases c : l.getD k 0 = n
    · rw [c]
      have : r.contains n = false := by simpa using hd'.1
      rw [this]; simp
    · have c1 : (l.getD k 0 == n) = false := by simpa using c
      rw [c1]; simp
def dropN (n : Int) (l : List Int) : List Int := l.filter (fun x => !(x == n))
def goodC (a b c : List Int) (n : Int) : Bool := (List.range 16).all (fun p => (decide (a.getD p 0 = b.getD p 0) || decide (b.getD p 0 = n)) && (decide (b.getD p 0 = c.getD p 0) || decide (b.getD p 0 = n)) && !decide (c.getD p 0 = n))
theorem fltB_length (f : Nat → Bool) : ∀ c j, ((fltB f c j).length : Int) = cntB f c j
  | 0, _ => rfl
  | c + 1, j => by
    have := fltB_length f c (j + 1)
    simp only [fltB, cntB]
    split
    · simp only [List.length_cons]; omega
    · omega
theorem rch_fltB (now : List Int) (e : Int) (b : Bool) (f : Nat → Bool) : ∀ c j, rch now e b (fltB f c j) = cntB (fun k => f k && (decide (hasL now (k : Int) > e) == b)) c j
  | 0, _ => rfl
  | c + 1, j => by
    have := rch_fltB now e b f c (j + 1)
    simp only [fltB, cntB]
    by_cases h : f j = true
    · simp only [h, if_true, Bool.true_and, rch, this]
    · have h' : f j = false := by simpa using h
      simp [h', this]
theorem cntB_imp {f g : Nat → Bool} : ∀ (c j : Nat), (∀ k, j ≤ k → k < j + c → f k = true → g k = true) → cntB g c j ≤ cntB f c j → ∀ k, j ≤ k → k < j + c → g k = true → f k = true
  | 0, _, _, _, k, h1, h2, _ => by omega
  | c + 1, j, h, e, k, h1, h2, hk => by
    have hs : ∀ k, j + 1 ≤ k → k < j + 1 + c → f k = true → g k = true := fun k a b => h k (by omega) (by omega)
    have hle := cntB_le c (j + 1) hs
    have h0 := h j (by omega) (by omega)
    simp only [cntB] at e
    by_cases c1 : k = j
    · subst c1
      cases hf : f k
      · rw [hf, hk] at e; simp at e; omega
      · rfl
    · refine cntB_imp c (j + 1) hs ?_ k (by omega) (by omega) hk
      cases hf : f j <;> cases hg : g j <;> simp [hf, hg] at e h0 ⊢ <;> omega
theorem one8 {n : Int} (h0 : 0 ≤ n) (h1 : n < 8) : cntB (fun k => (k : Int) == n) 8 0 = 1 := by
  have : n = 0 ∨ n = 1 ∨ n = 2 ∨ n = 3 ∨ n = 4 ∨ n = 5 ∨ n = 6 ∨ n = 7 := by omega
  rcases this with h | h | h | h | h | h | h | h <;> subst h <;> rfl
theorem qExp (now m : List Int) : quotaM now m = (qLoop now (qEach (m.length : Int)) false m ((0 : Nat) : Int) (qLoop now (qEach (m.length : Int)) true m ((0 : Nat) : Int) (List.replicate m.length (qEach (m.length : Int))) (Int.tmod 16 (m.length : Int))).1 (qLoop now (qEach (m.length : Int)) true m ((0 : Nat) : Int) (List.replicate m.length (qEach (m.length : Int))) (Int.tmod 16 (m.length : Int))).2).1 := rfl
theorem quotaM_E (now m : List Int) (i : Nat) (h1 : 1 ≤ m.length) (h8 : m.length ≤ 8) (hi : i < m.length) (hc : ¬ hasL now (m.getD i 0) > qEach (m.length : Int)) (hr : Int.tmod 16 (m.length : Int) ≤ rch now (qEach (m.length : Int)) true m) : (quotaM now m).getD i 0 = qEach (m.length : Int) := by
  have hn := qNum (n := (m.length : Int)) (by omega) (by omega)
  have hm := qLoop_more now (qEach (m.length : Int)) true m ((0 : Nat) : Int) (List.replicate m.length (qEach (m.length : Int))) (Int.tmod 16 (m.length : Int)) hn.2.2.1
  rw [qExp, qLoop_D _ _ _ _ _ _ _ (by omega), qLoop_B now (qEach (m.length : Int)) true i m 0 _ _ (by simp) (fun _ _ => by rw [Nat.sub_zero]; simpa using hc), rep_getD _ _ _ hi]
theorem quotaM_F (now m : List Int) (i : Nat) (h1 : 1 ≤ m.length) (h8 : m.length ≤ 8) (hi : i < m.length) (hc : hasL now (m.getD i 0) > qEach (m.length : Int)) (hr : rch now (qEach (m.length : Int)) true m ≤ Int.tmod 16 (m.length : Int)) : (quotaM now m).getD i 0 = qEach (m.length : Int) + 1 := by
  have hl := qLoop_len now (qEach (m.length : Int)) true m ((0 : Nat) : Int) (List.replicate m.length (qEach (m.length : Int))) (Int.tmod 16 (m.length : Int))
  rw [List.length_replicate] at hl
  rw [qExp, qLoop_B now (qEach (m.length : Int)) false i m 0 _ _ (by omega) (fun _ _ => by rw [Nat.sub_zero, decide_eq_true hc]; rfl), qLoop_C now (qEach (m.length : Int)) true i m 0 _ _ (by simp) hr (by omega) (by omega) (by rw [Nat.sub_zero, decide_eq_true hc]; rfl), rep_getD _ _ _ hi]
theorem mem_getD {l : List Int} {x : Int} (h : x ∈ l) : ∃ i, i < l.length ∧ l.getD i 0 = x := by
  obtain ⟨i, hi, e⟩ := List.getElem_of_mem h
  exact ⟨i, hi, by rw [getD_get 0 hi, e]⟩
theorem count_out {l m : List Int} (hl : l.length = 16) (hm : ∀ k, k < 16 → l.getD k 0 ∈ m) {x : Int} (hx : x ∉ m) : l.count x = 0 := by
  refine List.count_eq_zero.2 fun h => ?_
  obtain ⟨i, hi, e⟩ := mem_getD h
  exact hx (e ▸ hm i (by omega))
theorem rch_all (now ms : List Int) (h : (memL ms).length ≠ 0) : rch (asgL now ms) (qEach ((memL ms).length : Int)) true (memL ms) = Int.tmod 16 ((memL ms).length : Int) := by
  obtain ⟨a1, a2, a3⟩ := asgL_all now ms h
  obtain ⟨q1, q2, q3⟩ := quotaL_all now ms h
  have hq : quotaL now ms = quotaM now (memL ms) := by unfold quotaL; rw [if_neg h]
  have h8 := memL_len ms
  rw [rch_sum (asgL now ms) _ (memL ms) (quotaL now ms) q2 (fun i hi => ⟨by rw [hasL_count a1, a3 i hi], by rw [hq]; exact quotaM_between now (memL ms) i (by omega) h8 hi⟩), q1]
  have := n16 (n := (memL ms).length) (by omega) h8
  omega

theorem cnt_mem (now ms : List Int) (h : (memL ms).length ≠ 0) {v : Int} (hv : v ∈ memL ms) : ∃ i, i < (memL ms).length ∧ (memL ms).getD i 0 = v ∧ ((asgL now ms).count v : Int) = (quotaM now (memL ms)).getD i 0 ∧ qEach ((memL ms).length : Int) ≤ ((asgL now ms).count v : Int) ∧ ((asgL now ms).count v : Int) ≤ qEach ((memL ms).length : Int) + 1 := by
  obtain ⟨i, hi, e⟩ := mem_getD hv
  have h8 := memL_len ms
  have hq : quotaL now ms = quotaM now (memL ms) := by unfold quotaL; rw [if_neg h]
  have h3 := (asgL_all now ms h).2.2 i hi
  have hb := quotaM_between now (memL ms) i (by omega) h8 hi
  rw [e, hq] at h3
  exact ⟨i, hi, e, h3, by omega, by omega⟩
theorem kept_mem (now ms : List Int) (h : (memL ms).length ≠ 0) (hn : now.length = 16) {v : Int} (hv : v ∈ memL ms) : cntB (keptF now (asgL now ms) v) 16 0 = min (now.count v : Int) ((asgL now ms).count v : Int) := by
  obtain ⟨i, hi, e⟩ := mem_getD hv
  have h3 := (asgL_all now ms h).2.2 i hi
  have hk := stays_kept now ms h i hi
  rw [e] at h3 hk
  rw [hk, ← h3]
  have : cntB (hadF now v) 16 0 = (now.count v : Int) := by
    have := cntB_count (l := now) v 16 0 (by omega)
    rw [List.drop_zero] at this
    rw [← this]
    refine cntB_congr _ _ 16 0 fun k _ hk => ?_
    unfold hadF
    rw [decide_eq_true (by omega), Bool.true_and]
  rw [this]
theorem come_all (now m1 m2 : List Int) (n : Int) (h0 : 0 ≤ n) (h8 : n < 8) (hc : (memL m1).length ≠ 0) (hin : ∀ k : Nat, k < 8 → m2.contains (k : Int) = (m1.contains (k : Int) || ((k : Int) == n))) (hno : m1.contains n = false) :
    goodC (asgL now m1) (asgL (asgL now m1) m2) (asgL (asgL (asgL now m1) m2) m1) n = true := by
  have hlen : ((memL m2).length : Int) = (memL m1).length + 1 := by
    unfold memL
    rw [fltB_length, fltB_length, ← one8 h0 h8]
    refine cntB_add 8 0 fun k _ hk => ⟨hin k (by omega), ?_⟩
    by_cases e : (k : Int) = n
    · rw [e, hno]; rfl
    · rw [beq_eq_false_iff_ne.2 e, Bool.and_false]
  have l1 := memL_len m1
  have l2 := memL_len m2
  have hc2 : (memL m2).length ≠ 0 := by omega
  have hsub : ∀ v, v ∈ memL m2 → v ≠ n → v ∈ memL m1 := fun v hv hne => by
    obtain ⟨k, _, k2, k3, k4⟩ := (fltB_mem _ _ _ _).1 hv
    have := hin k (by omega)
    rw [k3] at this
    refine (fltB_mem _ _ _ _).2 ⟨k, by omega, by omega, ?_, k4⟩
    rw [beq_eq_false_iff_ne.2 (by omega), Bool.or_false] at this
    exact this.symm
  have hsup : ∀ v, v ∈ memL m1 → v ∈ memL m2 := fun v hv => by
    obtain ⟨k, _, k2, k3, k4⟩ := (fltB_mem _ _ _ _).1 hv
    refine (fltB_mem _ _ _ _).2 ⟨k, by omega, by omega, ?_, k4⟩
    show m2.contains (k : Int) = true
    rw [hin k (by omega), k3]; rfl
  have hnm : n ∉ memL m1 := fun h => by
    obtain ⟨k, _, k2, k3, k4⟩ := (fltB_mem _ _ _ _).1 h
    rw [← k4, hno] at k3; exact absurd k3 (by decide)
  obtain ⟨a1, a2, a3⟩ := asgL_all now m1 hc
  have ra := rch_all now m1 hc
  have fa := fun v (hv : v ∈ memL m1) => cnt_mem now m1 hc hv
  generalize asgL now m1 = a at *
  obtain ⟨b1, b2, b3⟩ := asgL_all a m2 hc2
  have rb := rch_all a m2 hc2
  have fb := fun v (hv : v ∈ memL m2) => cnt_mem a m2 hc2 hv
  have kb := fun v (hv : v ∈ memL m2) => kept_mem a m2 hc2 a1 hv
  obtain ⟨c1, c2, c3⟩ := asgL_all (asgL a m2) m1 hc
  have fc := fun v (hv : v ∈ memL m1) => cnt_mem (asgL a m2) m1 hc hv
  have kc := fun v (hv : v ∈ memL m1) => kept_mem (asgL a m2) m1 hc b1 hv
  have n1 := n16 (n := (memL m1).length) (by omega) l1
  have n2 := n16 (n := (memL m2).length) (by omega) l2
  have u1 := qNum (n := ((memL m1).length : Int)) (by omega) (by omega)
  have u2 := qNum (n := ((memL m2).length : Int)) (by omega) (by omega)
  have hee : qEach ((memL m2).length : Int) ≤ qEach ((memL m1).length : Int) ∧ (qEach ((memL m2).length : Int) = qEach ((memL m1).length : Int) → Int.tmod 16 ((memL m2).length : Int) ≤ Int.tmod 16 ((memL m1).length : Int)) := by
    rw [hlen]
    have : (memL m1).length = 1 ∨ (memL m1).length = 2 ∨ (memL m1).length = 3 ∨ (memL m1).length = 4 ∨ (memL m1).length = 5 ∨ (memL m1).length = 6 ∨ (memL m1).length = 7 := by omega
    rcases this with h | h | h | h | h | h | h <;> rw [h] <;> decide
  have q1 : ∀ v, v ∈ memL m1 → ((asgL a m2).count v : Int) ≤ (a.count v : Int) := fun v hv => by
    obtain ⟨i, hi, e, _, x2, x3⟩ := fa v hv
    obtain ⟨j, hj, e', y1, y2, y3⟩ := fb v (hsup v hv)
    by_cases z : ((asgL a m2).count v : Int) ≤ (a.count v : Int)
    · exact z
    · exfalso
      have ee : qEach ((memL m2).length : Int) = qEach ((memL m1).length : Int) := by omega
      have hv1 : (a.count v : Int) = qEach ((memL m1).length : Int) := by omega
      have hrr : rch a (qEach ((memL m2).length : Int)) true (memL m2) = rch a (qEach ((memL m1).length : Int)) true (memL m1) := by
        rw [ee]
        unfold memL
        rw [rch_fltB, rch_fltB]
        refine cntB_congr _ _ 8 0 fun k _ hk => ?_
        rw [hin k (by omega)]
        by_cases d : (k : Int) = n
        · rw [d, hno, hasL_count a1, count_out a1 a2 hnm]
          have : decide (((0 : Nat) : Int) > qEach ((fltB (fun n => m1.contains (n : Int)) 8 0).length : Int)) = false := decide_eq_false (by show ¬ ((0 : Nat) : Int) > qEach ((memL m1).length : Int); omega)
          rw [this]; simp
        · rw [beq_eq_false_iff_ne.2 d, Bool.or_false]
      have := quotaM_E a (memL m2) j (by omega) l2 hj (by rw [e', hasL_count a1]; omega) (by rw [hrr, ra]; exact hee.2 ee)
      omega
  have q2 : ∀ v, v ∈ memL m1 → ((asgL a m2).count v : Int) ≤ ((asgL (asgL a m2) m1).count v : Int) := fun v hv => by
    obtain ⟨i, hi, e, x1, x2, x3⟩ := fc v hv
    obtain ⟨j, hj, e', y1, y2, y3⟩ := fb v (hsup v hv)
    by_cases z : ((asgL a m2).count v : Int) ≤ ((asgL (asgL a m2) m1).count v : Int)
    · exact z
    · exfalso
      have ee : qEach ((memL m2).length : Int) = qEach ((memL m1).length : Int) := by omega
      have hrr : rch (asgL a m2) (qEach ((memL m1).length : Int)) true (memL m1) ≤ rch (asgL a m2) (qEach ((memL m2).length : Int)) true (memL m2) := by
        rw [ee]
        unfold memL
        rw [rch_fltB, rch_fltB]
        refine cntB_le 8 0 fun k _ hk hf => ?_
        rw [hin k (by omega)]
        simp only [Bool.and_eq_true, Bool.or_eq_true] at hf ⊢
        exact ⟨.inl hf.1, hf.2⟩
      have := quotaM_F (asgL a m2) (memL m1) i (by omega) l1 hi (by rw [e, hasL_count b1]; omega) (by have := hee.2 ee; omega)
      omega
  have p1 : ∀ p, p < 16 → (asgL a m2).getD p 0 ≠ n → a.getD p 0 = (asgL a m2).getD p 0 := fun p hp hne => by
    have hv := hsub _ (b2 p hp) hne
    have hk := kb _ (hsup _ hv)
    have hq := q1 _ hv
    generalize hx : (asgL a m2).getD p 0 = v at *
    have hcn := cntB_count (l := asgL a m2) v 16 0 (by omega)
    rw [List.drop_zero] at hcn
    have := cntB_imp (f := keptF a (asgL a m2) v) (g := fun q => (asgL a m2).getD q 0 == v) 16 0 (fun k _ _ hf => by unfold keptF at hf; simp only [Bool.and_eq_true] at hf; exact hf.2) (by omega) p (by omega) (by omega) (by rw [hx]; exact beq_self_eq_true _)
    unfold keptF hadF at this
    simp only [Bool.and_eq_true, beq_iff_eq] at this
    exact this.1.2
  have p2 : ∀ p, p < 16 → (asgL a m2).getD p 0 ≠ n → (asgL a m2).getD p 0 = (asgL (asgL a m2) m1).getD p 0 := fun p hp hne => by
    have hv := hsub _ (b2 p hp) hne
    have hk := kc _ hv
    have hq := q2 _ hv
    generalize hx : (asgL a m2).getD p 0 = v at *
    have hcn := cntB_count (l := asgL a m2) v 16 0 (by omega)
    rw [List.drop_zero] at hcn
    have := cntB_imp (f := keptF (asgL a m2) (asgL (asgL a m2) m1) v) (g := fun q => (asgL a m2).getD q 0 == v) 16 0 (fun k _ _ hf => by unfold keptF hadF at hf; simp only [Bool.and_eq_true] at hf; exact hf.1.2) (by omega) p (by omega) (by omega) (by rw [hx]; exact beq_self_eq_true _)
    unfold keptF at this
    simp only [Bool.and_eq_true, beq_iff_eq] at this
    exact this.2.symm
  unfold goodC
  rw [List.all_eq_true]
  intro p hp
  have hp' := List.mem_range.1 hp
  have hcn : (asgL (asgL a m2) m1).getD p 0 ≠ n := fun e => hnm (e ▸ c2 p hp')
  by_cases d : (asgL a m2).getD p 0 = n
  · rw [decide_eq_true d, decide_eq_false hcn, Bool.or_true, Bool.or_true]; rfl
  · rw [decide_eq_true (p1 p hp' d), decide_eq_true (p2 p hp' d), decide_eq_false hcn]; simp
end Pl
