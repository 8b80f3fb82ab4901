import Derived.Test.YtigiidafhbhdmaaLeLi2
namespace Pl
open Go Sx Go.Proofs Go.RowKit
theorem bodyL2 : Try.f6.body = some (bodyOf Try.f6) := by kernel_rfl
abbrev KMo' : Nat × Sx.Spec := (17, pureSp [ints, ints] [i64] (fun _ => True) (fun x => (movL x.1 x.2.1, ())))
noncomputable abbrev Z3 : Ex := mkExM Try.prog [KAw, KHv, KSt, KrM, KrB, KrS, KLe, KOf, KAs, KMo', KrT]
theorem Z3_ok : Z3.Sound := mkExM_sound ⟨pureSp_ok aw_ok, fnI_ok (E := E0) E0_ok Try.func8 bodyH .nil, pureSpL_ok stage_pok, pureSp_ok rmay_ok, pureSp_ok rbelow_ok, pureSp_ok rsame_ok, pureSp_ok leader_ok, pureSp_ok rof_ok, pureSp_ok assign_ok, pureSp_ok mov_ok, pureSp_ok rtarget_ok, trivial⟩
theorem tL2 (r : RingD) (s : Int) (h : List Int) : @Eq _
  (fnT Z3 [] 100 Try.f6 [Ring, i64, ints] [.bool] (r, s, h, ()))
  (.fork (decide ((↑r.2.1.2.2.length : Int) > (100 : Int))) (
 .req (True) (
  .leaf ((true, ())))) (
 .fork (decide ((↑h.length : Int) > (60 : Int))) (
  .req (True) (
   .leaf ((true, ())))) (
  .req ((8 = 8 ∧ 16 = 16) ∧ (↑r.2.1.2.2.length : Int) < (17592186044416 : Int) ∧ (↑h.length : Int) < (4611686018427387904 : Int)) (
   .lt [(Ty.rep 8 (Ty.int IntKind.i64)).cat
    (((Ty.int IntKind.i64).cat ((Ty.int IntKind.i64).cat (Ty.int IntKind.i64).slice)).cat
      (Ty.rep 16 ((Ty.int IntKind.i64).cat (Ty.int IntKind.i64)))),
  Ty.int IntKind.i64] (((Pl.stageR (tab 8 r.1 (0 : Int), r.2.1, tab 16 r.2.2 ((0 : Int), (0 : Int))) s h).1, (Pl.stageR (tab 8 r.1 (0 : Int), r.2.1, tab 16 r.2.2 ((0 : Int), (0 : Int))) s h).2, ())) (fun (y1 : (List Int × (Int × Int × List Int) × List (Int × Int)) × Int × PUnit) => (
    .fork (y1.2.1 != (0 : Int)) (
     .req (((8 = 8 ∧ 16 = 16) ∧ (8 = 8 ∧ 16 = 16) ∧ (↑y1.1.2.1.2.2.length : Int) < (17592186044416 : Int) ∧ (0 : Int) < (17592186044416 : Int)) ∧ (Pl.sameR (tab 8 y1.1.1 (0 : Int), y1.1.2.1, tab 16 y1.1.2.2 ((0 : Int), (0 : Int))) (List.replicate 8 (0 : Int), ((0 : Int), (0 : Int), ([] : List Int)), List.replicate 16 ((0 : Int), (0 : Int))) = true → conjP [True])) (
      .leaf ((Pl.sameR (tab 8 y1.1.1 (0 : Int), y1.1.2.1, tab 16 y1.1.2.2 ((0 : Int), (0 : Int))) (List.replicate 8 (0 : Int), ((0 : Int), (0 : Int), ([] : List Int)), List.replicate 16 ((0 : Int), (0 : Int))) && true, ())))) (
     .req (True) (
      .fork (decide (s < (0 : Int)) || decide (s ≥ (8 : Int))) (
       .leaf ((false, ()))) (
       .req ((8 = 8 ∧ 16 = 16) ∧ (↑y1.1.2.1.2.2.length : Int) < (17592186044416 : Int) ∧ (↑h.length : Int) < (4611686018427387904 : Int)) (
        .lt [(Ty.rep 8 (Ty.int IntKind.i64)).cat
    (((Ty.int IntKind.i64).cat ((Ty.int IntKind.i64).cat (Ty.int IntKind.i64).slice)).cat
      (Ty.rep 16 ((Ty.int IntKind.i64).cat (Ty.int IntKind.i64)))),
  Ty.int IntKind.i64] (((Pl.stageR (tab 8 y1.1.1 (0 : Int), y1.1.2.1, tab 16 y1.1.2.2 ((0 : Int), (0 : Int))) s h).1, (Pl.stageR (tab 8 y1.1.1 (0 : Int), y1.1.2.1, tab 16 y1.1.2.2 ((0 : Int), (0 : Int))) s h).2, ())) (fun (y2 : (List Int × (Int × Int × List Int) × List (Int × Int)) × Int × PUnit) => (
         .req (((8 = 8 ∧ 16 = 16) ∧ (↑y1.1.2.1.2.2.length : Int) < (17592186044416 : Int)) ∧ ((!Pl.mayR (tab 8 y1.1.1 (0 : Int), y1.1.2.1, tab 16 y1.1.2.2 ((0 : Int), (0 : Int)))) = false → conjP [(8 = 8 ∧ 16 = 16) ∧ (8 = 8 ∧ 16 = 16) ∧ (↑r.2.1.2.2.length : Int) < (17592186044416 : Int) ∧ (↑y1.1.2.1.2.2.length : Int) < (17592186044416 : Int), (!Pl.belowR (tab 8 r.1 (0 : Int), r.2.1, tab 16 r.2.2 ((0 : Int), (0 : Int))) (tab 8 y1.1.1 (0 : Int), y1.1.2.1, tab 16 y1.1.2.2 ((0 : Int), (0 : Int)))) = false → conjP [(8 = 8 ∧ 16 = 16) ∧ (8 = 8 ∧ 16 = 16) ∧ (↑r.2.1.2.2.length : Int) < (17592186044416 : Int) ∧ (↑y1.1.2.1.2.2.length : Int) < (17592186044416 : Int), Pl.sameR (tab 8 r.1 (0 : Int), r.2.1, tab 16 r.2.2 ((0 : Int), (0 : Int))) (tab 8 y1.1.1 (0 : Int), y1.1.2.1, tab 16 y1.1.2.2 ((0 : Int), (0 : Int))) = false → conjP [(!((y1.1.2.2.getD 0 ((0 : Int), (0 : Int))).1 == (r.2.2.getD 0 ((0 : Int), (0 : Int))).1 && ((y1.1.2.2.getD 0 ((0 : Int), (0 : Int))).2 == (r.2.2.getD 0 ((0 : Int), (0 : Int))).2 && true) && ((y1.1.2.2.getD 1 ((0 : Int), (0 : Int))).1 == (r.2.2.getD 1 ((0 : Int), (0 : Int))).1 && ((y1.1.2.2.getD 1 ((0 : Int), (0 : Int))).2 == (r.2.2.getD 1 ((0 : Int), (0 : Int))).2 && true) && ((y1.1.2.2.getD 2 ((0 : Int), (0 : Int))).1 == (r.2.2.getD 2 ((0 : Int), (0 : Int))).1 && ((y1.1.2.2.getD 2 ((0 : Int), (0 : Int))).2 == (r.2.2.getD 2 ((0 : Int), (0 : Int))).2 && true) && ((y1.1.2.2.getD 3 ((0 : Int), (0 : Int))).1 == (r.2.2.getD 3 ((0 : Int), (0 : Int))).1 && ((y1.1.2.2.getD 3 ((0 : Int), (0 : Int))).2 == (r.2.2.getD 3 ((0 : Int), (0 : Int))).2 && true) && ((y1.1.2.2.getD 4 ((0 : Int), (0 : Int))).1 == (r.2.2.getD 4 ((0 : Int), (0 : Int))).1 && ((y1.1.2.2.getD 4 ((0 : Int), (0 : Int))).2 == (r.2.2.getD 4 ((0 : Int), (0 : Int))).2 && true) && ((y1.1.2.2.getD 5 ((0 : Int), (0 : Int))).1 == (r.2.2.getD 5 ((0 : Int), (0 : Int))).1 && ((y1.1.2.2.getD 5 ((0 : Int), (0 : Int))).2 == (r.2.2.getD 5 ((0 : Int), (0 : Int))).2 && true) && ((y1.1.2.2.getD 6 ((0 : Int), (0 : Int))).1 == (r.2.2.getD 6 ((0 : Int), (0 : Int))).1 && ((y1.1.2.2.getD 6 ((0 : Int), (0 : Int))).2 == (r.2.2.getD 6 ((0 : Int), (0 : Int))).2 && true) && ((y1.1.2.2.getD 7 ((0 : Int), (0 : Int))).1 == (r.2.2.getD 7 ((0 : Int), (0 : Int))).1 && ((y1.1.2.2.getD 7 ((0 : Int), (0 : Int))).2 == (r.2.2.getD 7 ((0 : Int), (0 : Int))).2 && true) && ((y1.1.2.2.getD 8 ((0 : Int), (0 : Int))).1 == (r.2.2.getD 8 ((0 : Int), (0 : Int))).1 && ((y1.1.2.2.getD 8 ((0 : Int), (0 : Int))).2 == (r.2.2.getD 8 ((0 : Int), (0 : Int))).2 && true) && ((y1.1.2.2.getD 9 ((0 : Int), (0 : Int))).1 == (r.2.2.getD 9 ((0 : Int), (0 : Int))).1 && ((y1.1.2.2.getD 9 ((0 : Int), (0 : Int))).2 == (r.2.2.getD 9 ((0 : Int), (0 : Int))).2 && true) && ((y1.1.2.2.getD 10 ((0 : Int), (0 : Int))).1 == (r.2.2.getD 10 ((0 : Int), (0 : Int))).1 && ((y1.1.2.2.getD 10 ((0 : Int), (0 : Int))).2 == (r.2.2.getD 10 ((0 : Int), (0 : Int))).2 && true) && ((y1.1.2.2.getD 11 ((0 : Int), (0 : Int))).1 == (r.2.2.getD 11 ((0 : Int), (0 : Int))).1 && ((y1.1.2.2.getD 11 ((0 : Int), (0 : Int))).2 == (r.2.2.getD 11 ((0 : Int), (0 : Int))).2 && true) && ((y1.1.2.2.getD 12 ((0 : Int), (0 : Int))).1 == (r.2.2.getD 12 ((0 : Int), (0 : Int))).1 && ((y1.1.2.2.getD 12 ((0 : Int), (0 : Int))).2 == (r.2.2.getD 12 ((0 : Int), (0 : Int))).2 && true) && ((y1.1.2.2.getD 13 ((0 : Int), (0 : Int))).1 == (r.2.2.getD 13 ((0 : Int), (0 : Int))).1 && ((y1.1.2.2.getD 13 ((0 : Int), (0 : Int))).2 == (r.2.2.getD 13 ((0 : Int), (0 : Int))).2 && true) && ((y1.1.2.2.getD 14 ((0 : Int), (0 : Int))).1 == (r.2.2.getD 14 ((0 : Int), (0 : Int))).1 && ((y1.1.2.2.getD 14 ((0 : Int), (0 : Int))).2 == (r.2.2.getD 14 ((0 : Int), (0 : Int))).2 && true) && ((y1.1.2.2.getD 15 ((0 : Int), (0 : Int))).1 == (r.2.2.getD 15 ((0 : Int), (0 : Int))).1 && ((y1.1.2.2.getD 15 ((0 : Int), (0 : Int))).2 == (r.2.2.getD 15 ((0 : Int), (0 : Int))).2 && true) && true))))))))))))))))) = false → conjP [(8 = 8 ∧ 16 = 16) ∧ (↑h.length : Int) < (4611686018427387904 : Int)]]]])) (
          .fork (!Pl.mayR (tab 8 y1.1.1 (0 : Int), y1.1.2.1, tab 16 y1.1.2.2 ((0 : Int), (0 : Int))) || (!Pl.belowR (tab 8 r.1 (0 : Int), r.2.1, tab 16 r.2.2 ((0 : Int), (0 : Int))) (tab 8 y1.1.1 (0 : Int), y1.1.2.1, tab 16 y1.1.2.2 ((0 : Int), (0 : Int))) || (Pl.sameR (tab 8 r.1 (0 : Int), r.2.1, tab 16 r.2.2 ((0 : Int), (0 : Int))) (tab 8 y1.1.1 (0 : Int), y1.1.2.1, tab 16 y1.1.2.2 ((0 : Int), (0 : Int))) || (!((y1.1.2.2.getD 0 ((0 : Int), (0 : Int))).1 == (r.2.2.getD 0 ((0 : Int), (0 : Int))).1 && ((y1.1.2.2.getD 0 ((0 : Int), (0 : Int))).2 == (r.2.2.getD 0 ((0 : Int), (0 : Int))).2 && true) && ((y1.1.2.2.getD 1 ((0 : Int), (0 : Int))).1 == (r.2.2.getD 1 ((0 : Int), (0 : Int))).1 && ((y1.1.2.2.getD 1 ((0 : Int), (0 : Int))).2 == (r.2.2.getD 1 ((0 : Int), (0 : Int))).2 && true) && ((y1.1.2.2.getD 2 ((0 : Int), (0 : Int))).1 == (r.2.2.getD 2 ((0 : Int), (0 : Int))).1 && ((y1.1.2.2.getD 2 ((0 : Int), (0 : Int))).2 == (r.2.2.getD 2 ((0 : Int), (0 : Int))).2 && true) && ((y1.1.2.2.getD 3 ((0 : Int), (0 : Int))).1 == (r.2.2.getD 3 ((0 : Int), (0 : Int))).1 && ((y1.1.2.2.getD 3 ((0 : Int), (0 : Int))).2 == (r.2.2.getD 3 ((0 : Int), (0 : Int))).2 && true) && ((y1.1.2.2.getD 4 ((0 : Int), (0 : Int))).1 == (r.2.2.getD 4 ((0 : Int), (0 : Int))).1 && ((y1.1.2.2.getD 4 ((0 : Int), (0 : Int))).2 == (r.2.2.getD 4 ((0 : Int), (0 : Int))).2 && true) && ((y1.1.2.2.getD 5 ((0 : Int), (0 : Int))).1 == (r.2.2.getD 5 ((0 : Int), (0 : Int))).1 && ((y1.1.2.2.getD 5 ((0 : Int), (0 : Int))).2 == (r.2.2.getD 5 ((0 : Int), (0 : Int))).2 && true) && ((y1.1.2.2.getD 6 ((0 : Int), (0 : Int))).1 == (r.2.2.getD 6 ((0 : Int), (0 : Int))).1 && ((y1.1.2.2.getD 6 ((0 : Int), (0 : Int))).2 == (r.2.2.getD 6 ((0 : Int), (0 : Int))).2 && true) && ((y1.1.2.2.getD 7 ((0 : Int), (0 : Int))).1 == (r.2.2.getD 7 ((0 : Int), (0 : Int))).1 && ((y1.1.2.2.getD 7 ((0 : Int), (0 : Int))).2 == (r.2.2.getD 7 ((0 : Int), (0 : Int))).2 && true) && ((y1.1.2.2.getD 8 ((0 : Int), (0 : Int))).1 == (r.2.2.getD 8 ((0 : Int), (0 : Int))).1 && ((y1.1.2.2.getD 8 ((0 : Int), (0 : Int))).2 == (r.2.2.getD 8 ((0 : Int), (0 : Int))).2 && true) && ((y1.1.2.2.getD 9 ((0 : Int), (0 : Int))).1 == (r.2.2.getD 9 ((0 : Int), (0 : Int))).1 && ((y1.1.2.2.getD 9 ((0 : Int), (0 : Int))).2 == (r.2.2.getD 9 ((0 : Int), (0 : Int))).2 && true) && ((y1.1.2.2.getD 10 ((0 : Int), (0 : Int))).1 == (r.2.2.getD 10 ((0 : Int), (0 : Int))).1 && ((y1.1.2.2.getD 10 ((0 : Int), (0 : Int))).2 == (r.2.2.getD 10 ((0 : Int), (0 : Int))).2 && true) && ((y1.1.2.2.getD 11 ((0 : Int), (0 : Int))).1 == (r.2.2.getD 11 ((0 : Int), (0 : Int))).1 && ((y1.1.2.2.getD 11 ((0 : Int), (0 : Int))).2 == (r.2.2.getD 11 ((0 : Int), (0 : Int))).2 && true) && ((y1.1.2.2.getD 12 ((0 : Int), (0 : Int))).1 == (r.2.2.getD 12 ((0 : Int), (0 : Int))).1 && ((y1.1.2.2.getD 12 ((0 : Int), (0 : Int))).2 == (r.2.2.getD 12 ((0 : Int), (0 : Int))).2 && true) && ((y1.1.2.2.getD 13 ((0 : Int), (0 : Int))).1 == (r.2.2.getD 13 ((0 : Int), (0 : Int))).1 && ((y1.1.2.2.getD 13 ((0 : Int), (0 : Int))).2 == (r.2.2.getD 13 ((0 : Int), (0 : Int))).2 && true) && ((y1.1.2.2.getD 14 ((0 : Int), (0 : Int))).1 == (r.2.2.getD 14 ((0 : Int), (0 : Int))).1 && ((y1.1.2.2.getD 14 ((0 : Int), (0 : Int))).2 == (r.2.2.getD 14 ((0 : Int), (0 : Int))).2 && true) && ((y1.1.2.2.getD 15 ((0 : Int), (0 : Int))).1 == (r.2.2.getD 15 ((0 : Int), (0 : Int))).1 && ((y1.1.2.2.getD 15 ((0 : Int), (0 : Int))).2 == (r.2.2.getD 15 ((0 : Int), (0 : Int))).2 && true) && true)))))))))))))))) || Pl.leadR (tab 8 r.1 (0 : Int), r.2.1, tab 16 r.2.2 ((0 : Int), (0 : Int))) h != s)))) (
           .leaf ((false, ()))) (
           .req ((y2.2.1 != (9 : Int)) = true → conjP (((y2.2.1 == (10 : Int)) = true → conjP [(8 = 8 ∧ 16 = 16) ∧ (↑h.length : Int) < (4611686018427387904 : Int)]) :: ([] : List Prop))) (
            .fork (y2.2.1 != (9 : Int) && (!y2.2.1 == (10 : Int) || !Pl.leadR (tab 8 y1.1.1 (0 : Int), y1.1.2.1, tab 16 y1.1.2.2 ((0 : Int), (0 : Int))) h != s)) (
             .leaf ((false, ()))) (
             .req (8 = 8 ∧ 16 = 16) (
              .fork ((↑(Pl.ofR (tab 8 r.1 (0 : Int), r.2.1, tab 16 r.2.2 ((0 : Int), (0 : Int))) (1 : Int) (2 : Int)).length : Int) == (0 : Int)) (
               .req (True) (
                .leaf ((true, ())))) (
               .req ((8 = 8 ∧ 16 = 16) ∧ (↑y1.1.2.1.2.2.length : Int) < (17592186044416 : Int)) (
                .req (9 ≤ 70368744177664) (
                 .req ((0 : Int) ≤ (0 : Int) ∧ (0 : Int) < (1 : Int)) (
                  .req ((0 : Int) ≤ (0 : Int) ∧ (0 : Int) < (1 : Int)) (
                   .req (decide ([Pl.targetR (tab 8 y1.1.1 (0 : Int), y1.1.2.1, tab 16 y1.1.2.2 ((0 : Int), (0 : Int))) (0 : Int)].getD 0 (0 : Int) < (0 : Int)) = false → conjP [decide ([Pl.targetR (tab 8 y1.1.1 (0 : Int), y1.1.2.1, tab 16 y1.1.2.2 ((0 : Int), (0 : Int))) (0 : Int)].getD 0 (0 : Int) ≥ (8 : Int)) = false → conjP [(0 : Int) ≤ [Pl.targetR (tab 8 y1.1.1 (0 : Int), y1.1.2.1, tab 16 y1.1.2.2 ((0 : Int), (0 : Int))) (0 : Int)].getD 0 (0 : Int) ∧ [Pl.targetR (tab 8 y1.1.1 (0 : Int), y1.1.2.1, tab 16 y1.1.2.2 ((0 : Int), (0 : Int))) (0 : Int)].getD 0 (0 : Int) < (8 : Int), (0 : Int) ≤ [Pl.targetR (tab 8 y1.1.1 (0 : Int), y1.1.2.1, tab 16 y1.1.2.2 ((0 : Int), (0 : Int))) (0 : Int)].getD 0 (0 : Int) ∧ [Pl.targetR (tab 8 y1.1.1 (0 : Int), y1.1.2.1, tab 16 y1.1.2.2 ((0 : Int), (0 : Int))) (0 : Int)].getD 0 (0 : Int) < (8 : Int)]]) (
                    .fork (decide ([Pl.targetR (tab 8 y1.1.1 (0 : Int), y1.1.2.1, tab 16 y1.1.2.2 ((0 : Int), (0 : Int))) (0 : Int)].getD 0 (0 : Int) < (0 : Int)) || (decide ([Pl.targetR (tab 8 y1.1.1 (0 : Int), y1.1.2.1, tab 16 y1.1.2.2 ((0 : Int), (0 : Int))) (0 : Int)].getD 0 (0 : Int) ≥ (8 : Int)) || (tab 8 y1.1.1 (0 : Int)).getD ([Pl.targetR (tab 8 y1.1.1 (0 : Int), y1.1.2.1, tab 16 y1.1.2.2 ((0 : Int), (0 : Int))) (0 : Int)].getD 0 (0 : Int)).toNat (0 : Int) != (2 : Int))) (
                     .leaf ((false, ()))) (
                     .req ((8 = 8 ∧ 16 = 16) ∧ (↑y1.1.2.1.2.2.length : Int) < (17592186044416 : Int)) (
                      .req (18 ≤ 70368744177664) (
                       .req ((0 : Int) ≤ (1 : Int) ∧ (1 : Int) < (2 : Int)) (
                        .req ((0 : Int) ≤ (1 : Int) ∧ (1 : Int) < (2 : Int)) (
                         .req (decide ([Pl.targetR (tab 8 y1.1.1 (0 : Int), y1.1.2.1, tab 16 y1.1.2.2 ((0 : Int), (0 : Int))) (0 : Int), Pl.targetR (tab 8 y1.1.1 (0 : Int), y1.1.2.1, tab 16 y1.1.2.2 ((0 : Int), (0 : Int))) (1 : Int)].getD 1 (0 : Int) < (0 : Int)) = false → conjP [decide ([Pl.targetR (tab 8 y1.1.1 (0 : Int), y1.1.2.1, tab 16 y1.1.2.2 ((0 : Int), (0 : Int))) (0 : Int), Pl.targetR (tab 8 y1.1.1 (0 : Int), y1.1.2.1, tab 16 y1.1.2.2 ((0 : Int), (0 : Int))) (1 : Int)].getD 1 (0 : Int) ≥ (8 : Int)) = false → conjP [(0 : Int) ≤ [Pl.targetR (tab 8 y1.1.1 (0 : Int), y1.1.2.1, tab 16 y1.1.2.2 ((0 : Int), (0 : Int))) (0 : Int), Pl.targetR (tab 8 y1.1.1 (0 : Int), y1.1.2.1, tab 16 y1.1.2.2 ((0 : Int), (0 : Int))) (1 : Int)].getD 1 (0 : Int) ∧ [Pl.targetR (tab 8 y1.1.1 (0 : Int), y1.1.2.1, tab 16 y1.1.2.2 ((0 : Int), (0 : Int))) (0 : Int), Pl.targetR (tab 8 y1.1.1 (0 : Int), y1.1.2.1, tab 16 y1.1.2.2 ((0 : Int), (0 : Int))) (1 : Int)].getD 1 (0 : Int) < (8 : Int), (0 : Int) ≤ [Pl.targetR (tab 8 y1.1.1 (0 : Int), y1.1.2.1, tab 16 y1.1.2.2 ((0 : Int), (0 : Int))) (0 : Int), Pl.targetR (tab 8 y1.1.1 (0 : Int), y1.1.2.1, tab 16 y1.1.2.2 ((0 : Int), (0 : Int))) (1 : Int)].getD 1 (0 : Int) ∧ [Pl.targetR (tab 8 y1.1.1 (0 : Int), y1.1.2.1, tab 16 y1.1.2.2 ((0 : Int), (0 : Int))) (0 : Int), Pl.targetR (tab 8 y1.1.1 (0 : Int), y1.1.2.1, tab 16 y1.1.2.2 ((0 : Int), (0 : Int))) (1 : Int)].getD 1 (0 : Int) < (8 : Int)]]) (
                          .fork (decide ([Pl.targetR (tab 8 y1.1.1 (0 : Int), y1.1.2.1, tab 16 y1.1.2.2 ((0 : Int), (0 : Int))) (0 : Int), Pl.targetR (tab 8 y1.1.1 (0 : Int), y1.1.2.1, tab 16 y1.1.2.2 ((0 : Int), (0 : Int))) (1 : Int)].getD 1 (0 : Int) < (0 : Int)) || (decide ([Pl.targetR (tab 8 y1.1.1 (0 : Int), y1.1.2.1, tab 16 y1.1.2.2 ((0 : Int), (0 : Int))) (0 : Int), Pl.targetR (tab 8 y1.1.1 (0 : Int), y1.1.2.1, tab 16 y1.1.2.2 ((0 : Int), (0 : Int))) (1 : Int)].getD 1 (0 : Int) ≥ (8 : Int)) || (tab 8 y1.1.1 (0 : Int)).getD ([Pl.targetR (tab 8 y1.1.1 (0 : Int), y1.1.2.1, tab 16 y1.1.2.2 ((0 : Int), (0 : Int))) (0 : Int), Pl.targetR (tab 8 y1.1.1 (0 : Int), y1.1.2.1, tab 16 y1.1.2.2 ((0 : Int), (0 : Int))) (1 : Int)].getD 1 (0 : Int)).toNat (0 : Int) != (2 : Int))) (
                           .leaf ((false, ()))) (
                           .req ((8 = 8 ∧ 16 = 16) ∧ (↑y1.1.2.1.2.2.length : Int) < (17592186044416 : Int)) (
                            .req (27 ≤ 70368744177664) (
                             .req ((0 : Int) ≤ (2 : Int) ∧ (2 : Int) < (3 : Int)) (
                              .req ((0 : Int) ≤ (2 : Int) ∧ (2 : Int) < (3 : Int)) (
                               .req (decide ([Pl.targetR (tab 8 y1.1.1 (0 : Int), y1.1.2.1, tab 16 y1.1.2.2 ((0 : Int), (0 : Int))) (0 : Int), Pl.targetR (tab 8 y1.1.1 (0 : Int), y1.1.2.1, tab 16 y1.1.2.2 ((0 : Int), (0 : Int))) (1 : Int), Pl.targetR (tab 8 y1.1.1 (0 : Int), y1.1.2.1, tab 16 y1.1.2.2 ((0 : Int), (0 : Int))) (2 : Int)].getD 2 (0 : Int) < (0 : Int)) = false → conjP [decide ([Pl.targetR (tab 8 y1.1.1 (0 : Int), y1.1.2.1, tab 16 y1.1.2.2 ((0 : Int), (0 : Int))) (0 : Int), Pl.targetR (tab 8 y1.1.1 (0 : Int), y1.1.2.1, tab 16 y1.1.2.2 ((0 : Int), (0 : Int))) (1 : Int), Pl.targetR (tab 8 y1.1.1 (0 : Int), y1.1.2.1, tab 16 y1.1.2.2 ((0 : Int), (0 : Int))) (2 : Int)].getD 2 (0 : Int) ≥ (8 : Int)) = false → conjP [(0 : Int) ≤ [Pl.targetR (tab 8 y1.1.1 (0 : Int), y1.1.2.1, tab 16 y1.1.2.2 ((0 : Int), (0 : Int))) (0 : Int), Pl.targetR (tab 8 y1.1.1 (0 : Int), y1.1.2.1, tab 16 y1.1.2.2 ((0 : Int), (0 : Int))) (1 : Int), Pl.targetR (tab 8 y1.1.1 (0 : Int), y1.1.2.1, tab 16 y1.1.2.2 ((0 : Int), (0 : Int))) (2 : Int)].getD 2 (0 : Int) ∧ [Pl.targetR (tab 8 y1.1.1 (0 : Int), y1.1.2.1, tab 16 y1.1.2.2 ((0 : Int), (0 : Int))) (0 : Int), Pl.targetR (tab 8 y1.1.1 (0 : Int), y1.1.2.1, tab 16 y1.1.2.2 ((0 : Int), (0 : Int))) (1 : Int), Pl.targetR (tab 8 y1.1.1 (0 : Int), y1.1.2.1, tab 16 y1.1.2.2 ((0 : Int), (0 : Int))) (2 : Int)].getD 2 (0 : Int) < (8 : Int), (0 : Int) ≤ [Pl.targetR (tab 8 y1.1.1 (0 : Int), y1.1.2.1, tab 16 y1.1.2.2 ((0 : Int), (0 : Int))) (0 : Int), Pl.targetR (tab 8 y1.1.1 (0 : Int), y1.1.2.1, tab 16 y1.1.2.2 ((0 : Int), (0 : Int))) (1 : Int), Pl.targetR (tab 8 y1.1.1 (0 : Int), y1.1.2.1, tab 16 y1.1.2.2 ((0 : Int), (0 : Int))) (2 : Int)].getD 2 (0 : Int) ∧ [Pl.targetR (tab 8 y1.1.1 (0 : Int), y1.1.2.1, tab 16 y1.1.2.2 ((0 : Int), (0 : Int))) (0 : Int), Pl.targetR (tab 8 y1.1.1 (0 : Int), y1.1.2.1, tab 16 y1.1.2.2 ((0 : Int), (0 : Int))) (1 : Int), Pl.targetR (tab 8 y1.1.1 (0 : Int), y1.1.2.1, tab 16 y1.1.2.2 ((0 : Int), (0 : Int))) (2 : Int)].getD 2 (0 : Int) < (8 : Int)]]) (
                                .fork (decide ([Pl.targetR (tab 8 y1.1.1 (0 : Int), y1.1.2.1, tab 16 y1.1.2.2 ((0 : Int), (0 : Int))) (0 : Int), Pl.targetR (tab 8 y1.1.1 (0 : Int), y1.1.2.1, tab 16 y1.1.2.2 ((0 : Int), (0 : Int))) (1 : Int), Pl.targetR (tab 8 y1.1.1 (0 : Int), y1.1.2.1, tab 16 y1.1.2.2 ((0 : Int), (0 : Int))) (2 : Int)].getD 2 (0 : Int) < (0 : Int)) || (decide ([Pl.targetR (tab 8 y1.1.1 (0 : Int), y1.1.2.1, tab 16 y1.1.2.2 ((0 : Int), (0 : Int))) (0 : Int), Pl.targetR (tab 8 y1.1.1 (0 : Int), y1.1.2.1, tab 16 y1.1.2.2 ((0 : Int), (0 : Int))) (1 : Int), Pl.targetR (tab 8 y1.1.1 (0 : Int), y1.1.2.1, tab 16 y1.1.2.2 ((0 : Int), (0 : Int))) (2 : Int)].getD 2 (0 : Int) ≥ (8 : Int)) || (tab 8 y1.1.1 (0 : Int)).getD ([Pl.targetR (tab 8 y1.1.1 (0 : Int), y1.1.2.1, tab 16 y1.1.2.2 ((0 : Int), (0 : Int))) (0 : Int), Pl.targetR (tab 8 y1.1.1 (0 : Int), y1.1.2.1, tab 16 y1.1.2.2 ((0 : Int), (0 : Int))) (1 : Int), Pl.targetR (tab 8 y1.1.1 (0 : Int), y1.1.2.1, tab 16 y1.1.2.2 ((0 : Int), (0 : Int))) (2 : Int)].getD 2 (0 : Int)).toNat (0 : Int) != (2 : Int))) (
                                 .leaf ((false, ()))) (
                                 .req ((8 = 8 ∧ 16 = 16) ∧ (↑y1.1.2.1.2.2.length : Int) < (17592186044416 : Int)) (
                                  .req (36 ≤ 70368744177664) (
                                   .req ((0 : Int) ≤ (3 : Int) ∧ (3 : Int) < (4 : Int)) (
                                    .req ((0 : Int) ≤ (3 : Int) ∧ (3 : Int) < (4 : Int)) (
                                     .req (decide ((tabL 4 fun j => Pl.targetR (tab 8 y1.1.1 (0 : Int), y1.1.2.1, tab 16 y1.1.2.2 ((0 : Int), (0 : Int))) j).getD 3 (0 : Int) < (0 : Int)) = false → conjP [decide ((tabL 4 fun j => Pl.targetR (tab 8 y1.1.1 (0 : Int), y1.1.2.1, tab 16 y1.1.2.2 ((0 : Int), (0 : Int))) j).getD 3 (0 : Int) ≥ (8 : Int)) = false → conjP [(0 : Int) ≤ (tabL 4 fun j => Pl.targetR (tab 8 y1.1.1 (0 : Int), y1.1.2.1, tab 16 y1.1.2.2 ((0 : Int), (0 : Int))) j).getD 3 (0 : Int) ∧ (tabL 4 fun j => Pl.targetR (tab 8 y1.1.1 (0 : Int), y1.1.2.1, tab 16 y1.1.2.2 ((0 : Int), (0 : Int))) j).getD 3 (0 : Int) < (8 : Int), (0 : Int) ≤ (tabL 4 fun j => Pl.targetR (tab 8 y1.1.1 (0 : Int), y1.1.2.1, tab 16 y1.1.2.2 ((0 : Int), (0 : Int))) j).getD 3 (0 : Int) ∧ (tabL 4 fun j => Pl.targetR (tab 8 y1.1.1 (0 : Int), y1.1.2.1, tab 16 y1.1.2.2 ((0 : Int), (0 : Int))) j).getD 3 (0 : Int) < (8 : Int)]]) (
                                      .fork (decide ((tabL 4 fun j => Pl.targetR (tab 8 y1.1.1 (0 : Int), y1.1.2.1, tab 16 y1.1.2.2 ((0 : Int), (0 : Int))) j).getD 3 (0 : Int) < (0 : Int)) || (decide ((tabL 4 fun j => Pl.targetR (tab 8 y1.1.1 (0 : Int), y1.1.2.1, tab 16 y1.1.2.2 ((0 : Int), (0 : Int))) j).getD 3 (0 : Int) ≥ (8 : Int)) || (tab 8 y1.1.1 (0 : Int)).getD ((tabL 4 fun j => Pl.targetR (tab 8 y1.1.1 (0 : Int), y1.1.2.1, tab 16 y1.1.2.2 ((0 : Int), (0 : Int))) j).getD 3 (0 : Int)).toNat (0 : Int) != (2 : Int))) (
                                       .leaf ((false, ()))) (
                                       .req ((8 = 8 ∧ 16 = 16) ∧ (↑y1.1.2.1.2.2.length : Int) < (17592186044416 : Int)) (
                                        .req (45 ≤ 70368744177664) (
                                         .req ((0 : Int) ≤ (4 : Int) ∧ (4 : Int) < (5 : Int)) (
                                          .req ((0 : Int) ≤ (4 : Int) ∧ (4 : Int) < (5 : Int)) (
                                           .req (decide ((tabL 5 fun j => Pl.targetR (tab 8 y1.1.1 (0 : Int), y1.1.2.1, tab 16 y1.1.2.2 ((0 : Int), (0 : Int))) j).getD 4 (0 : Int) < (0 : Int)) = false → conjP [decide ((tabL 5 fun j => Pl.targetR (tab 8 y1.1.1 (0 : Int), y1.1.2.1, tab 16 y1.1.2.2 ((0 : Int), (0 : Int))) j).getD 4 (0 : Int) ≥ (8 : Int)) = false → conjP [(0 : Int) ≤ (tabL 5 fun j => Pl.targetR (tab 8 y1.1.1 (0 : Int), y1.1.2.1, tab 16 y1.1.2.2 ((0 : Int), (0 : Int))) j).getD 4 (0 : Int) ∧ (tabL 5 fun j => Pl.targetR (tab 8 y1.1.1 (0 : Int), y1.1.2.1, tab 16 y1.1.2.2 ((0 : Int), (0 : Int))) j).getD 4 (0 : Int) < (8 : Int), (0 : Int) ≤ (tabL 5 fun j => Pl.targetR (tab 8 y1.1.1 (0 : Int), y1.1.2.1, tab 16 y1.1.2.2 ((0 : Int), (0 : Int))) j).getD 4 (0 : Int) ∧ (tabL 5 fun j => Pl.targetR (tab 8 y1.1.1 (0 : Int), y1.1.2.1, tab 16 y1.1.2.2 ((0 : Int), (0 : Int))) j).getD 4 (0 : Int) < (8 : Int)]]) (
                                            .fork (decide ((tabL 5 fun j => Pl.targetR (tab 8 y1.1.1 (0 : Int), y1.1.2.1, tab 16 y1.1.2.2 ((0 : Int), (0 : Int))) j).getD 4 (0 : Int) < (0 : Int)) || (decide ((tabL 5 fun j => Pl.targetR (tab 8 y1.1.1 (0 : Int), y1.1.2.1, tab 16 y1.1.2.2 ((0 : Int), (0 : Int))) j).getD 4 (0 : Int) ≥ (8 : Int)) || (tab 8 y1.1.1 (0 : Int)).getD ((tabL 5 fun j => Pl.targetR (tab 8 y1.1.1 (0 : Int), y1.1.2.1, tab 16 y1.1.2.2 ((0 : Int), (0 : Int))) j).getD 4 (0 : Int)).toNat (0 : Int) != (2 : Int))) (
                                             .leaf ((false, ()))) (
                                             .req ((8 = 8 ∧ 16 = 16) ∧ (↑y1.1.2.1.2.2.length : Int) < (17592186044416 : Int)) (
                                              .req (54 ≤ 70368744177664) (
                                               .req ((0 : Int) ≤ (5 : Int) ∧ (5 : Int) < (6 : Int)) (
                                                .req ((0 : Int) ≤ (5 : Int) ∧ (5 : Int) < (6 : Int)) (
                                                 .req (decide ((tabL 6 fun j => Pl.targetR (tab 8 y1.1.1 (0 : Int), y1.1.2.1, tab 16 y1.1.2.2 ((0 : Int), (0 : Int))) j).getD 5 (0 : Int) < (0 : Int)) = false → conjP [decide ((tabL 6 fun j => Pl.targetR (tab 8 y1.1.1 (0 : Int), y1.1.2.1, tab 16 y1.1.2.2 ((0 : Int), (0 : Int))) j).getD 5 (0 : Int) ≥ (8 : Int)) = false → conjP [(0 : Int) ≤ (tabL 6 fun j => Pl.targetR (tab 8 y1.1.1 (0 : Int), y1.1.2.1, tab 16 y1.1.2.2 ((0 : Int), (0 : Int))) j).getD 5 (0 : Int) ∧ (tabL 6 fun j => Pl.targetR (tab 8 y1.1.1 (0 : Int), y1.1.2.1, tab 16 y1.1.2.2 ((0 : Int), (0 : Int))) j).getD 5 (0 : Int) < (8 : Int), (0 : Int) ≤ (tabL 6 fun j => Pl.targetR (tab 8 y1.1.1 (0 : Int), y1.1.2.1, tab 16 y1.1.2.2 ((0 : Int), (0 : Int))) j).getD 5 (0 : Int) ∧ (tabL 6 fun j => Pl.targetR (tab 8 y1.1.1 (0 : Int), y1.1.2.1, tab 16 y1.1.2.2 ((0 : Int), (0 : Int))) j).getD 5 (0 : Int) < (8 : Int)]]) (
                                                  .fork (decide ((tabL 6 fun j => Pl.targetR (tab 8 y1.1.1 (0 : Int), y1.1.2.1, tab 16 y1.1.2.2 ((0 : Int), (0 : Int))) j).getD 5 (0 : Int) < (0 : Int)) || (decide ((tabL 6 fun j => Pl.targetR (tab 8 y1.1.1 (0 : Int), y1.1.2.1, tab 16 y1.1.2.2 ((0 : Int), (0 : Int))) j).getD 5 (0 : Int) ≥ (8 : Int)) || (tab 8 y1.1.1 (0 : Int)).getD ((tabL 6 fun j => Pl.targetR (tab 8 y1.1.1 (0 : Int), y1.1.2.1, tab 16 y1.1.2.2 ((0 : Int), (0 : Int))) j).getD 5 (0 : Int)).toNat (0 : Int) != (2 : Int))) (
                                                   .leaf ((false, ()))) (
                                                   .req ((8 = 8 ∧ 16 = 16) ∧ (↑y1.1.2.1.2.2.length : Int) < (17592186044416 : Int)) (
                                                    .req (63 ≤ 70368744177664) (
                                                     .req ((0 : Int) ≤ (6 : Int) ∧ (6 : Int) < (7 : Int)) (
                                                      .req ((0 : Int) ≤ (6 : Int) ∧ (6 : Int) < (7 : Int)) (
                                                       .req (decide ((tabL 7 fun j => Pl.targetR (tab 8 y1.1.1 (0 : Int), y1.1.2.1, tab 16 y1.1.2.2 ((0 : Int), (0 : Int))) j).getD 6 (0 : Int) < (0 : Int)) = false → conjP [decide ((tabL 7 fun j => Pl.targetR (tab 8 y1.1.1 (0 : Int), y1.1.2.1, tab 16 y1.1.2.2 ((0 : Int), (0 : Int))) j).getD 6 (0 : Int) ≥ (8 : Int)) = false → conjP [(0 : Int) ≤ (tabL 7 fun j => Pl.targetR (tab 8 y1.1.1 (0 : Int), y1.1.2.1, tab 16 y1.1.2.2 ((0 : Int), (0 : Int))) j).getD 6 (0 : Int) ∧ (tabL 7 fun j => Pl.targetR (tab 8 y1.1.1 (0 : Int), y1.1.2.1, tab 16 y1.1.2.2 ((0 : Int), (0 : Int))) j).getD 6 (0 : Int) < (8 : Int), (0 : Int) ≤ (tabL 7 fun j => Pl.targetR (tab 8 y1.1.1 (0 : Int), y1.1.2.1, tab 16 y1.1.2.2 ((0 : Int), (0 : Int))) j).getD 6 (0 : Int) ∧ (tabL 7 fun j => Pl.targetR (tab 8 y1.1.1 (0 : Int), y1.1.2.1, tab 16 y1.1.2.2 ((0 : Int), (0 : Int))) j).getD 6 (0 : Int) < (8 : Int)]]) (
                                                        .fork (decide ((tabL 7 fun j => Pl.targetR (tab 8 y1.1.1 (0 : Int), y1.1.2.1, tab 16 y1.1.2.2 ((0 : Int), (0 : Int))) j).getD 6 (0 : Int) < (0 : Int)) || (decide ((tabL 7 fun j => Pl.targetR (tab 8 y1.1.1 (0 : Int), y1.1.2.1, tab 16 y1.1.2.2 ((0 : Int), (0 : Int))) j).getD 6 (0 : Int) ≥ (8 : Int)) || (tab 8 y1.1.1 (0 : Int)).getD ((tabL 7 fun j => Pl.targetR (tab 8 y1.1.1 (0 : Int), y1.1.2.1, tab 16 y1.1.2.2 ((0 : Int), (0 : Int))) j).getD 6 (0 : Int)).toNat (0 : Int) != (2 : Int))) (
                                                         .leaf ((false, ()))) (
                                                         .req ((8 = 8 ∧ 16 = 16) ∧ (↑y1.1.2.1.2.2.length : Int) < (17592186044416 : Int)) (
                                                          .req (72 ≤ 70368744177664) (
                                                           .req ((0 : Int) ≤ (7 : Int) ∧ (7 : Int) < (8 : Int)) (
                                                            .req ((0 : Int) ≤ (7 : Int) ∧ (7 : Int) < (8 : Int)) (
                                                             .req (decide ((tabL 8 fun j => Pl.targetR (tab 8 y1.1.1 (0 : Int), y1.1.2.1, tab 16 y1.1.2.2 ((0 : Int), (0 : Int))) j).getD 7 (0 : Int) < (0 : Int)) = false → conjP [decide ((tabL 8 fun j => Pl.targetR (tab 8 y1.1.1 (0 : Int), y1.1.2.1, tab 16 y1.1.2.2 ((0 : Int), (0 : Int))) j).getD 7 (0 : Int) ≥ (8 : Int)) = false → conjP [(0 : Int) ≤ (tabL 8 fun j => Pl.targetR (tab 8 y1.1.1 (0 : Int), y1.1.2.1, tab 16 y1.1.2.2 ((0 : Int), (0 : Int))) j).getD 7 (0 : Int) ∧ (tabL 8 fun j => Pl.targetR (tab 8 y1.1.1 (0 : Int), y1.1.2.1, tab 16 y1.1.2.2 ((0 : Int), (0 : Int))) j).getD 7 (0 : Int) < (8 : Int), (0 : Int) ≤ (tabL 8 fun j => Pl.targetR (tab 8 y1.1.1 (0 : Int), y1.1.2.1, tab 16 y1.1.2.2 ((0 : Int), (0 : Int))) j).getD 7 (0 : Int) ∧ (tabL 8 fun j => Pl.targetR (tab 8 y1.1.1 (0 : Int), y1.1.2.1, tab 16 y1.1.2.2 ((0 : Int), (0 : Int))) j).getD 7 (0 : Int) < (8 : Int)]]) (
                                                              .fork (decide ((tabL 8 fun j => Pl.targetR (tab 8 y1.1.1 (0 : Int), y1.1.2.1, tab 16 y1.1.2.2 ((0 : Int), (0 : Int))) j).getD 7 (0 : Int) < (0 : Int)) || (decide ((tabL 8 fun j => Pl.targetR (tab 8 y1.1.1 (0 : Int), y1.1.2.1, tab 16 y1.1.2.2 ((0 : Int), (0 : Int))) j).getD 7 (0 : Int) ≥ (8 : Int)) || (tab 8 y1.1.1 (0 : Int)).getD ((tabL 8 fun j => Pl.targetR (tab 8 y1.1.1 (0 : Int), y1.1.2.1, tab 16 y1.1.2.2 ((0 : Int), (0 : Int))) j).getD 7 (0 : Int)).toNat (0 : Int) != (2 : Int))) (
                                                               .leaf ((false, ()))) (
                                                               .req ((8 = 8 ∧ 16 = 16) ∧ (↑y1.1.2.1.2.2.length : Int) < (17592186044416 : Int)) (
                                                                .req (81 ≤ 70368744177664) (
                                                                 .req ((0 : Int) ≤ (8 : Int) ∧ (8 : Int) < (9 : Int)) (
                                                                  .req ((0 : Int) ≤ (8 : Int) ∧ (8 : Int) < (9 : Int)) (
                                                                   .req (decide ((tabL 9 fun j => Pl.targetR (tab 8 y1.1.1 (0 : Int), y1.1.2.1, tab 16 y1.1.2.2 ((0 : Int), (0 : Int))) j).getD 8 (0 : Int) < (0 : Int)) = false → conjP [decide ((tabL 9 fun j => Pl.targetR (tab 8 y1.1.1 (0 : Int), y1.1.2.1, tab 16 y1.1.2.2 ((0 : Int), (0 : Int))) j).getD 8 (0 : Int) ≥ (8 : Int)) = false → conjP [(0 : Int) ≤ (tabL 9 fun j => Pl.targetR (tab 8 y1.1.1 (0 : Int), y1.1.2.1, tab 16 y1.1.2.2 ((0 : Int), (0 : Int))) j).getD 8 (0 : Int) ∧ (tabL 9 fun j => Pl.targetR (tab 8 y1.1.1 (0 : Int), y1.1.2.1, tab 16 y1.1.2.2 ((0 : Int), (0 : Int))) j).getD 8 (0 : Int) < (8 : Int), (0 : Int) ≤ (tabL 9 fun j => Pl.targetR (tab 8 y1.1.1 (0 : Int), y1.1.2.1, tab 16 y1.1.2.2 ((0 : Int), (0 : Int))) j).getD 8 (0 : Int) ∧ (tabL 9 fun j => Pl.targetR (tab 8 y1.1.1 (0 : Int), y1.1.2.1, tab 16 y1.1.2.2 ((0 : Int), (0 : Int))) j).getD 8 (0 : Int) < (8 : Int)]]) (
                                                                    .fork (decide ((tabL 9 fun j => Pl.targetR (tab 8 y1.1.1 (0 : Int), y1.1.2.1, tab 16 y1.1.2.2 ((0 : Int), (0 : Int))) j).getD 8 (0 : Int) < (0 : Int)) || (decide ((tabL 9 fun j => Pl.targetR (tab 8 y1.1.1 (0 : Int), y1.1.2.1, tab 16 y1.1.2.2 ((0 : Int), (0 : Int))) j).getD 8 (0 : Int) ≥ (8 : Int)) || (tab 8 y1.1.1 (0 : Int)).getD ((tabL 9 fun j => Pl.targetR (tab 8 y1.1.1 (0 : Int), y1.1.2.1, tab 16 y1.1.2.2 ((0 : Int), (0 : Int))) j).getD 8 (0 : Int)).toNat (0 : Int) != (2 : Int))) (
                                                                     .leaf ((false, ()))) (
                                                                     .req ((8 = 8 ∧ 16 = 16) ∧ (↑y1.1.2.1.2.2.length : Int) < (17592186044416 : Int)) (
                                                                      .req (90 ≤ 70368744177664) (
                                                                       .req ((0 : Int) ≤ (9 : Int) ∧ (9 : Int) < (10 : Int)) (
                                                                        .req ((0 : Int) ≤ (9 : Int) ∧ (9 : Int) < (10 : Int)) (
                                                                         .req (decide ((tabL 10 fun j => Pl.targetR (tab 8 y1.1.1 (0 : Int), y1.1.2.1, tab 16 y1.1.2.2 ((0 : Int), (0 : Int))) j).getD 9 (0 : Int) < (0 : Int)) = false → conjP [decide ((tabL 10 fun j => Pl.targetR (tab 8 y1.1.1 (0 : Int), y1.1.2.1, tab 16 y1.1.2.2 ((0 : Int), (0 : Int))) j).getD 9 (0 : Int) ≥ (8 : Int)) = false → conjP [(0 : Int) ≤ (tabL 10 fun j => Pl.targetR (tab 8 y1.1.1 (0 : Int), y1.1.2.1, tab 16 y1.1.2.2 ((0 : Int), (0 : Int))) j).getD 9 (0 : Int) ∧ (tabL 10 fun j => Pl.targetR (tab 8 y1.1.1 (0 : Int), y1.1.2.1, tab 16 y1.1.2.2 ((0 : Int), (0 : Int))) j).getD 9 (0 : Int) < (8 : Int), (0 : Int) ≤ (tabL 10 fun j => Pl.targetR (tab 8 y1.1.1 (0 : Int), y1.1.2.1, tab 16 y1.1.2.2 ((0 : Int), (0 : Int))) j).getD 9 (0 : Int) ∧ (tabL 10 fun j => Pl.targetR (tab 8 y1.1.1 (0 : Int), y1.1.2.1, tab 16 y1.1.2.2 ((0 : Int), (0 : Int))) j).getD 9 (0 : Int) < (8 : Int)]]) (
                                                                          .fork (decide ((tabL 10 fun j => Pl.targetR (tab 8 y1.1.1 (0 : Int), y1.1.2.1, tab 16 y1.1.2.2 ((0 : Int), (0 : Int))) j).getD 9 (0 : Int) < (0 : Int)) || (decide ((tabL 10 fun j => Pl.targetR (tab 8 y1.1.1 (0 : Int), y1.1.2.1, tab 16 y1.1.2.2 ((0 : Int), (0 : Int))) j).getD 9 (0 : Int) ≥ (8 : Int)) || (tab 8 y1.1.1 (0 : Int)).getD ((tabL 10 fun j => Pl.targetR (tab 8 y1.1.1 (0 : Int), y1.1.2.1, tab 16 y1.1.2.2 ((0 : Int), (0 : Int))) j).getD 9 (0 : Int)).toNat (0 : Int) != (2 : Int))) (
                                                                           .leaf ((false, ()))) (
                                                                           .req ((8 = 8 ∧ 16 = 16) ∧ (↑y1.1.2.1.2.2.length : Int) < (17592186044416 : Int)) (
                                                                            .req (99 ≤ 70368744177664) (
                                                                             .req ((0 : Int) ≤ (10 : Int) ∧ (10 : Int) < (11 : Int)) (
                                                                              .req ((0 : Int) ≤ (10 : Int) ∧ (10 : Int) < (11 : Int)) (
                                                                               .req (decide ((tabL 11 fun j => Pl.targetR (tab 8 y1.1.1 (0 : Int), y1.1.2.1, tab 16 y1.1.2.2 ((0 : Int), (0 : Int))) j).getD 10 (0 : Int) < (0 : Int)) = false → conjP [decide ((tabL 11 fun j => Pl.targetR (tab 8 y1.1.1 (0 : Int), y1.1.2.1, tab 16 y1.1.2.2 ((0 : Int), (0 : Int))) j).getD 10 (0 : Int) ≥ (8 : Int)) = false → conjP [(0 : Int) ≤ (tabL 11 fun j => Pl.targetR (tab 8 y1.1.1 (0 : Int), y1.1.2.1, tab 16 y1.1.2.2 ((0 : Int), (0 : Int))) j).getD 10 (0 : Int) ∧ (tabL 11 fun j => Pl.targetR (tab 8 y1.1.1 (0 : Int), y1.1.2.1, tab 16 y1.1.2.2 ((0 : Int), (0 : Int))) j).getD 10 (0 : Int) < (8 : Int), (0 : Int) ≤ (tabL 11 fun j => Pl.targetR (tab 8 y1.1.1 (0 : Int), y1.1.2.1, tab 16 y1.1.2.2 ((0 : Int), (0 : Int))) j).getD 10 (0 : Int) ∧ (tabL 11 fun j => Pl.targetR (tab 8 y1.1.1 (0 : Int), y1.1.2.1, tab 16 y1.1.2.2 ((0 : Int), (0 : Int))) j).getD 10 (0 : Int) < (8 : Int)]]) (
                                                                                .fork (decide ((tabL 11 fun j => Pl.targetR (tab 8 y1.1.1 (0 : Int), y1.1.2.1, tab 16 y1.1.2.2 ((0 : Int), (0 : Int))) j).getD 10 (0 : Int) < (0 : Int)) || (decide ((tabL 11 fun j => Pl.targetR (tab 8 y1.1.1 (0 : Int), y1.1.2.1, tab 16 y1.1.2.2 ((0 : Int), (0 : Int))) j).getD 10 (0 : Int) ≥ (8 : Int)) || (tab 8 y1.1.1 (0 : Int)).getD ((tabL 11 fun j => Pl.targetR (tab 8 y1.1.1 (0 : Int), y1.1.2.1, tab 16 y1.1.2.2 ((0 : Int), (0 : Int))) j).getD 10 (0 : Int)).toNat (0 : Int) != (2 : Int))) (
                                                                                 .leaf ((false, ()))) (
                                                                                 .req ((8 = 8 ∧ 16 = 16) ∧ (↑y1.1.2.1.2.2.length : Int) < (17592186044416 : Int)) (
                                                                                  .req (108 ≤ 70368744177664) (
                                                                                   .req ((0 : Int) ≤ (11 : Int) ∧ (11 : Int) < (12 : Int)) (
                                                                                    .req ((0 : Int) ≤ (11 : Int) ∧ (11 : Int) < (12 : Int)) (
                                                                                     .req (decide ((tabL 12 fun j => Pl.targetR (tab 8 y1.1.1 (0 : Int), y1.1.2.1, tab 16 y1.1.2.2 ((0 : Int), (0 : Int))) j).getD 11 (0 : Int) < (0 : Int)) = false → conjP [decide ((tabL 12 fun j => Pl.targetR (tab 8 y1.1.1 (0 : Int), y1.1.2.1, tab 16 y1.1.2.2 ((0 : Int), (0 : Int))) j).getD 11 (0 : Int) ≥ (8 : Int)) = false → conjP [(0 : Int) ≤ (tabL 12 fun j => Pl.targetR (tab 8 y1.1.1 (0 : Int), y1.1.2.1, tab 16 y1.1.2.2 ((0 : Int), (0 : Int))) j).getD 11 (0 : Int) ∧ (tabL 12 fun j => Pl.targetR (tab 8 y1.1.1 (0 : Int), y1.1.2.1, tab 16 y1.1.2.2 ((0 : Int), (0 : Int))) j).getD 11 (0 : Int) < (8 : Int), (0 : Int) ≤ (tabL 12 fun j => Pl.targetR (tab 8 y1.1.1 (0 : Int), y1.1.2.1, tab 16 y1.1.2.2 ((0 : Int), (0 : Int))) j).getD 11 (0 : Int) ∧ (tabL 12 fun j => Pl.targetR (tab 8 y1.1.1 (0 : Int), y1.1.2.1, tab 16 y1.1.2.2 ((0 : Int), (0 : Int))) j).getD 11 (0 : Int) < (8 : Int)]]) (
                                                                                      .fork (decide ((tabL 12 fun j => Pl.targetR (tab 8 y1.1.1 (0 : Int), y1.1.2.1, tab 16 y1.1.2.2 ((0 : Int), (0 : Int))) j).getD 11 (0 : Int) < (0 : Int)) || (decide ((tabL 12 fun j => Pl.targetR (tab 8 y1.1.1 (0 : Int), y1.1.2.1, tab 16 y1.1.2.2 ((0 : Int), (0 : Int))) j).getD 11 (0 : Int) ≥ (8 : Int)) || (tab 8 y1.1.1 (0 : Int)).getD ((tabL 12 fun j => Pl.targetR (tab 8 y1.1.1 (0 : Int), y1.1.2.1, tab 16 y1.1.2.2 ((0 : Int), (0 : Int))) j).getD 11 (0 : Int)).toNat (0 : Int) != (2 : Int))) (
                                                                                       .leaf ((false, ()))) (
                                                                                       .req ((8 = 8 ∧ 16 = 16) ∧ (↑y1.1.2.1.2.2.length : Int) < (17592186044416 : Int)) (
                                                                                        .req (117 ≤ 70368744177664) (
                                                                                         .req ((0 : Int) ≤ (12 : Int) ∧ (12 : Int) < (13 : Int)) (
                                                                                          .req ((0 : Int) ≤ (12 : Int) ∧ (12 : Int) < (13 : Int)) (
                                                                                           .req (decide ((tabL 13 fun j => Pl.targetR (tab 8 y1.1.1 (0 : Int), y1.1.2.1, tab 16 y1.1.2.2 ((0 : Int), (0 : Int))) j).getD 12 (0 : Int) < (0 : Int)) = false → conjP [decide ((tabL 13 fun j => Pl.targetR (tab 8 y1.1.1 (0 : Int), y1.1.2.1, tab 16 y1.1.2.2 ((0 : Int), (0 : Int))) j).getD 12 (0 : Int) ≥ (8 : Int)) = false → conjP [(0 : Int) ≤ (tabL 13 fun j => Pl.targetR (tab 8 y1.1.1 (0 : Int), y1.1.2.1, tab 16 y1.1.2.2 ((0 : Int), (0 : Int))) j).getD 12 (0 : Int) ∧ (tabL 13 fun j => Pl.targetR (tab 8 y1.1.1 (0 : Int), y1.1.2.1, tab 16 y1.1.2.2 ((0 : Int), (0 : Int))) j).getD 12 (0 : Int) < (8 : Int), (0 : Int) ≤ (tabL 13 fun j => Pl.targetR (tab 8 y1.1.1 (0 : Int), y1.1.2.1, tab 16 y1.1.2.2 ((0 : Int), (0 : Int))) j).getD 12 (0 : Int) ∧ (tabL 13 fun j => Pl.targetR (tab 8 y1.1.1 (0 : Int), y1.1.2.1, tab 16 y1.1.2.2 ((0 : Int), (0 : Int))) j).getD 12 (0 : Int) < (8 : Int)]]) (
                                                                                            .fork (decide ((tabL 13 fun j => Pl.targetR (tab 8 y1.1.1 (0 : Int), y1.1.2.1, tab 16 y1.1.2.2 ((0 : Int), (0 : Int))) j).getD 12 (0 : Int) < (0 : Int)) || (decide ((tabL 13 fun j => Pl.targetR (tab 8 y1.1.1 (0 : Int), y1.1.2.1, tab 16 y1.1.2.2 ((0 : Int), (0 : Int))) j).getD 12 (0 : Int) ≥ (8 : Int)) || (tab 8 y1.1.1 (0 : Int)).getD ((tabL 13 fun j => Pl.targetR (tab 8 y1.1.1 (0 : Int), y1.1.2.1, tab 16 y1.1.2.2 ((0 : Int), (0 : Int))) j).getD 12 (0 : Int)).toNat (0 : Int) != (2 : Int))) (
                                                                                             .leaf ((false, ()))) (
                                                                                             .req ((8 = 8 ∧ 16 = 16) ∧ (↑y1.1.2.1.2.2.length : Int) < (17592186044416 : Int)) (
                                                                                              .req (126 ≤ 70368744177664) (
                                                                                               .req ((0 : Int) ≤ (13 : Int) ∧ (13 : Int) < (14 : Int)) (
                                                                                                .req ((0 : Int) ≤ (13 : Int) ∧ (13 : Int) < (14 : Int)) (
                                                                                                 .req (decide ((tabL 14 fun j => Pl.targetR (tab 8 y1.1.1 (0 : Int), y1.1.2.1, tab 16 y1.1.2.2 ((0 : Int), (0 : Int))) j).getD 13 (0 : Int) < (0 : Int)) = false → conjP [decide ((tabL 14 fun j => Pl.targetR (tab 8 y1.1.1 (0 : Int), y1.1.2.1, tab 16 y1.1.2.2 ((0 : Int), (0 : Int))) j).getD 13 (0 : Int) ≥ (8 : Int)) = false → conjP [(0 : Int) ≤ (tabL 14 fun j => Pl.targetR (tab 8 y1.1.1 (0 : Int), y1.1.2.1, tab 16 y1.1.2.2 ((0 : Int), (0 : Int))) j).getD 13 (0 : Int) ∧ (tabL 14 fun j => Pl.targetR (tab 8 y1.1.1 (0 : Int), y1.1.2.1, tab 16 y1.1.2.2 ((0 : Int), (0 : Int))) j).getD 13 (0 : Int) < (8 : Int), (0 : Int) ≤ (tabL 14 fun j => Pl.targetR (tab 8 y1.1.1 (0 : Int), y1.1.2.1, tab 16 y1.1.2.2 ((0 : Int), (0 : Int))) j).getD 13 (0 : Int) ∧ (tabL 14 fun j => Pl.targetR (tab 8 y1.1.1 (0 : Int), y1.1.2.1, tab 16 y1.1.2.2 ((0 : Int), (0 : Int))) j).getD 13 (0 : Int) < (8 : Int)]]) (
                                                                                                  .fork (decide ((tabL 14 fun j => Pl.targetR (tab 8 y1.1.1 (0 : Int), y1.1.2.1, tab 16 y1.1.2.2 ((0 : Int), (0 : Int))) j).getD 13 (0 : Int) < (0 : Int)) || (decide ((tabL 14 fun j => Pl.targetR (tab 8 y1.1.1 (0 : Int), y1.1.2.1, tab 16 y1.1.2.2 ((0 : Int), (0 : Int))) j).getD 13 (0 : Int) ≥ (8 : Int)) || (tab 8 y1.1.1 (0 : Int)).getD ((tabL 14 fun j => Pl.targetR (tab 8 y1.1.1 (0 : Int), y1.1.2.1, tab 16 y1.1.2.2 ((0 : Int), (0 : Int))) j).getD 13 (0 : Int)).toNat (0 : Int) != (2 : Int))) (
                                                                                                   .leaf ((false, ()))) (
                                                                                                   .req ((8 = 8 ∧ 16 = 16) ∧ (↑y1.1.2.1.2.2.length : Int) < (17592186044416 : Int)) (
                                                                                                    .req (135 ≤ 70368744177664) (
                                                                                                     .req ((0 : Int) ≤ (14 : Int) ∧ (14 : Int) < (15 : Int)) (
                                                                                                      .req ((0 : Int) ≤ (14 : Int) ∧ (14 : Int) < (15 : Int)) (
                                                                                                       .req (decide ((tabL 15 fun j => Pl.targetR (tab 8 y1.1.1 (0 : Int), y1.1.2.1, tab 16 y1.1.2.2 ((0 : Int), (0 : Int))) j).getD 14 (0 : Int) < (0 : Int)) = false → conjP [decide ((tabL 15 fun j => Pl.targetR (tab 8 y1.1.1 (0 : Int), y1.1.2.1, tab 16 y1.1.2.2 ((0 : Int), (0 : Int))) j).getD 14 (0 : Int) ≥ (8 : Int)) = false → conjP [(0 : Int) ≤ (tabL 15 fun j => Pl.targetR (tab 8 y1.1.1 (0 : Int), y1.1.2.1, tab 16 y1.1.2.2 ((0 : Int), (0 : Int))) j).getD 14 (0 : Int) ∧ (tabL 15 fun j => Pl.targetR (tab 8 y1.1.1 (0 : Int), y1.1.2.1, tab 16 y1.1.2.2 ((0 : Int), (0 : Int))) j).getD 14 (0 : Int) < (8 : Int), (0 : Int) ≤ (tabL 15 fun j => Pl.targetR (tab 8 y1.1.1 (0 : Int), y1.1.2.1, tab 16 y1.1.2.2 ((0 : Int), (0 : Int))) j).getD 14 (0 : Int) ∧ (tabL 15 fun j => Pl.targetR (tab 8 y1.1.1 (0 : Int), y1.1.2.1, tab 16 y1.1.2.2 ((0 : Int), (0 : Int))) j).getD 14 (0 : Int) < (8 : Int)]]) (
                                                                                                        .fork (decide ((tabL 15 fun j => Pl.targetR (tab 8 y1.1.1 (0 : Int), y1.1.2.1, tab 16 y1.1.2.2 ((0 : Int), (0 : Int))) j).getD 14 (0 : Int) < (0 : Int)) || (decide ((tabL 15 fun j => Pl.targetR (tab 8 y1.1.1 (0 : Int), y1.1.2.1, tab 16 y1.1.2.2 ((0 : Int), (0 : Int))) j).getD 14 (0 : Int) ≥ (8 : Int)) || (tab 8 y1.1.1 (0 : Int)).getD ((tabL 15 fun j => Pl.targetR (tab 8 y1.1.1 (0 : Int), y1.1.2.1, tab 16 y1.1.2.2 ((0 : Int), (0 : Int))) j).getD 14 (0 : Int)).toNat (0 : Int) != (2 : Int))) (
                                                                                                         .leaf ((false, ()))) (
                                                                                                         .req ((8 = 8 ∧ 16 = 16) ∧ (↑y1.1.2.1.2.2.length : Int) < (17592186044416 : Int)) (
                                                                                                          .req (144 ≤ 70368744177664) (
                                                                                                           .req ((0 : Int) ≤ (15 : Int) ∧ (15 : Int) < (16 : Int)) (
                                                                                                            .req ((0 : Int) ≤ (15 : Int) ∧ (15 : Int) < (16 : Int)) (
                                                                                                             .req (decide ((tabL 16 fun j => Pl.targetR (tab 8 y1.1.1 (0 : Int), y1.1.2.1, tab 16 y1.1.2.2 ((0 : Int), (0 : Int))) j).getD 15 (0 : Int) < (0 : Int)) = false → conjP [decide ((tabL 16 fun j => Pl.targetR (tab 8 y1.1.1 (0 : Int), y1.1.2.1, tab 16 y1.1.2.2 ((0 : Int), (0 : Int))) j).getD 15 (0 : Int) ≥ (8 : Int)) = false → conjP [(0 : Int) ≤ (tabL 16 fun j => Pl.targetR (tab 8 y1.1.1 (0 : Int), y1.1.2.1, tab 16 y1.1.2.2 ((0 : Int), (0 : Int))) j).getD 15 (0 : Int) ∧ (tabL 16 fun j => Pl.targetR (tab 8 y1.1.1 (0 : Int), y1.1.2.1, tab 16 y1.1.2.2 ((0 : Int), (0 : Int))) j).getD 15 (0 : Int) < (8 : Int), (0 : Int) ≤ (tabL 16 fun j => Pl.targetR (tab 8 y1.1.1 (0 : Int), y1.1.2.1, tab 16 y1.1.2.2 ((0 : Int), (0 : Int))) j).getD 15 (0 : Int) ∧ (tabL 16 fun j => Pl.targetR (tab 8 y1.1.1 (0 : Int), y1.1.2.1, tab 16 y1.1.2.2 ((0 : Int), (0 : Int))) j).getD 15 (0 : Int) < (8 : Int)]]) (
                                                                                                              .fork (decide ((tabL 16 fun j => Pl.targetR (tab 8 y1.1.1 (0 : Int), y1.1.2.1, tab 16 y1.1.2.2 ((0 : Int), (0 : Int))) j).getD 15 (0 : Int) < (0 : Int)) || (decide ((tabL 16 fun j => Pl.targetR (tab 8 y1.1.1 (0 : Int), y1.1.2.1, tab 16 y1.1.2.2 ((0 : Int), (0 : Int))) j).getD 15 (0 : Int) ≥ (8 : Int)) || (tab 8 y1.1.1 (0 : Int)).getD ((tabL 16 fun j => Pl.targetR (tab 8 y1.1.1 (0 : Int), y1.1.2.1, tab 16 y1.1.2.2 ((0 : Int), (0 : Int))) j).getD 15 (0 : Int)).toNat (0 : Int) != (2 : Int))) (
                                                                                                               .leaf ((false, ()))) (
                                                                                                               .req ((↑(Pl.ofR (tab 8 r.1 (0 : Int), r.2.1, tab 16 r.2.2 ((0 : Int), (0 : Int))) (1 : Int) (2 : Int)).length : Int) < (4611686018427387904 : Int)) (
                                                                                                                .req (True) (
                                                                                                                 .fork (Pl.movL (Pl.asgL (tabL 16 fun j => Pl.targetR (tab 8 y1.1.1 (0 : Int), y1.1.2.1, tab 16 y1.1.2.2 ((0 : Int), (0 : Int))) j) (Pl.ofR (tab 8 r.1 (0 : Int), r.2.1, tab 16 r.2.2 ((0 : Int), (0 : Int))) (1 : Int) (2 : Int))) (tabL 16 fun j => Pl.targetR (tab 8 y1.1.1 (0 : Int), y1.1.2.1, tab 16 y1.1.2.2 ((0 : Int), (0 : Int))) j) == (0 : Int)) (
                                                                                                                  .req (8 = 8 ∧ 16 = 16) (
                                                                                                                   .fork ((↑(Pl.ofR (tab 8 y1.1.1 (0 : Int), y1.1.2.1, tab 16 y1.1.2.2 ((0 : Int), (0 : Int))) (1 : Int) (1 : Int)).length : Int) == (0 : Int)) (
                                                                                                                    .req (True) (
                                                                                                                     .leaf ((true, ())))) (
                                                                                                                    .leaf ((false, ()))))) (
                                                                                                                  .leaf ((false, ())))))))))))))))))))))))))))))))))))))))))))))))))))))))))))))))))))))))))))))))))))))))))))))))))))))))))))))))))))))) : Tree (Bool × PUnit)) := by kernel_rfl
end Pl
namespace Pl
open Go Sx Go.Proofs Go.RowKit
theorem planS_len (r : RingD) (s : Int) : (planS r s).1.2.2.length ≤ max r.2.1.2.2.length 16 := by
  unfold planS
  split
  · exact Nat.le_max_left _ _
  · split
    · exact Nat.le_max_left _ _
    · have := asg_len (r := r) (nowR r)
      unfold nextP
      split
      · split
        · simp
        · exact Nat.le_trans this (Nat.le_max_right _ _)
      · simp
theorem stage_okr {r : RingD} (hr : okR r) (s : Int) (h : List Int) : okR (stageR r s h).1 ∧ (stageR r s h).1.2.1.2.2.length ≤ max r.2.1.2.2.length 16 := by
  have hz : okR zeroR ∧ zeroR.2.1.2.2.length ≤ max r.2.1.2.2.length 16 := ⟨⟨rfl, rfl⟩, Nat.zero_le _⟩
  unfold stageR
  split
  · exact hz
  · split
    · exact hz
    · split
      · exact hz
      · split
        · exact hz
        · exact ⟨out_ok r s hr, planS_len r s⟩
theorem rises_facts {r S : RingD} {s : Int} {h : List Int} (hr : okR r) (e : stageR r s h = (S, 0)) :
    mayR S = true ∧ belowR r S = true ∧ sameR r S = false ∧ S.2.2 = r.2.2 ∧ leadR r h = s ∧ nodeB s = true ∧ ∀ s' h', stageR S s' h' = (zeroR, if nodeB s' = false then 1 else if leadR S h' ≠ s' then 10 else 9) := by
  obtain ⟨h1, h2, h3, h4, rfl, h6⟩ := stage_zero e
  exact ⟨out_may hr h1 h4, belowR_iff.2 (out_join hr h4), by rw [Bool.eq_false_iff, Ne, sameR_iff]; exact fun e => h6 e.symm, rfl, h3, h2, fun s' h' => stage_again h' hr h1 h4⟩
theorem rises_targets {r S : RingD} {s : Int} {h : List Int} (hr : okR r) (e : stageR r s h = (S, 0)) (hm : (ofR r 1 2).length ≠ 0) :
    tgtL S = asgL (nowR r) (ofR r 1 2) ∧ (∀ j : Nat, j < 16 → 0 ≤ targetR S (j : Int) ∧ targetR S (j : Int) < 8 ∧ S.1.getD (targetR S (j : Int)).toNat 0 = 2) ∧ ofR S 1 1 = [] := by
  obtain ⟨h1, h2, h3, h4, rfl, h6⟩ := stage_zero e
  have hp := planS_may (may_plan hr h1) h4
  have hto := planS_to h4 hm
  have ha := asg_all hm (nowR r)
  have ht : tgtL (outS r s) = asgL (nowR r) (ofR r 1 2) := by
    rw [tgtL_eq (r := outS r s) hp (by show (planS r s).1.2.2.length ≠ 0; rw [hto, ha.1]; omega)]
    exact hto
  refine ⟨ht, fun j hj => ?_, ?_⟩
  · have e1 : targetR (outS r s) (j : Int) = (tgtL (outS r s)).getD j 0 := by unfold tgtL; rw [tabL_getD _ _ _ hj]
    have e2 := ha.2 j hj
    rw [← ht, ← e1] at e2
    obtain ⟨a1, a2, a3, a4⟩ := ofR_mem.1 e2
    refine ⟨a1, a2, ?_⟩
    show (stG _ _ r.1).getD _ 0 = 2
    rw [stG_getD _ _ _ (by omega)]
    split
    · rfl
    · split <;> omega
  · refine List.eq_nil_iff_forall_not_mem.2 fun x hx => ?_
    obtain ⟨a1, a2, a3, a4⟩ := ofR_mem.1 hx
    have : (stG (ownL r) (tgtL (r.1, (planS r s).1, r.2.2)) r.1).getD x.toNat 0 = 1 := by
      show (outS r s).1.getD x.toNat 0 = 1
      omega
    rw [stG_getD _ _ _ (by omega)] at this
    split at this
    · omega
    · split at this <;> omega
theorem rises_t (r : RingD) (s : Int) (h : List Int) (hr : okR r) : (fnT Z3 [] 100 Try.f6 [Ring, i64, ints] [.bool] (r, s, h, ())).all fun y => y = (true, ()) := by
  refine Tree.all_eq (tL2 r s h) ?_
  show Tree.all (α := Bool × Unit) _ Yes
  rw [tab_eq hr.1, tab_eq hr.2]
  have e : (r.1, r.2.1, r.2.2) = r := rfl
  simp only [e, all_leaf, all_fork, all_req, all_lt, and_true, true_and, conjP, yes_t, yes_f, yes_iff, implies_true]
  have hs := stage_okr hr s h
  obtain ⟨S, E, hSE⟩ : ∃ S E, stageR r s h = (S, E) := ⟨_, _, rfl⟩
  rw [hSE] at hs ⊢
  simp only at hs ⊢
  rw [tab_eq hs.1.1, tab_eq hs.1.2]
  have e' : (S.1, S.2.1, S.2.2) = S := rfl
  simp only [e', eq16 hs.1.2 hr.2]
  have hl := hs.2
  intro r1 h1
  simp only [decide_eq_false_iff_not] at r1 h1
  have r100 : (r.2.1.2.2.length : Int) < 17592186044416 := by omega
  have s100 : (S.2.1.2.2.length : Int) < 17592186044416 := by omega
  refine ⟨⟨r100, by omega⟩, fun n0 => ⟨⟨s100, by omega⟩, ?_⟩, fun n0 => ?_⟩
  · rw [stage_err hSE (by simpa using n0)]; rfl
  have n0 : E = 0 := by simpa using n0
  subst n0
  obtain ⟨f1, f2, f3, f4, f5, f6, f7⟩ := rises_facts hr hSE
  have f6' := nodeB_iff.1 f6
  have ft := rises_targets hr hSE
  rw [f7 s h, f6, f1, f2, f3, f4]
  simp only [Bool.true_eq_false, if_false]
  refine ⟨fun n1 => ?_, fun n1 => ⟨⟨s100, by omega⟩, ⟨s100, ?_⟩, ?_⟩⟩
  · simp only [Bool.or_eq_true, decide_eq_true_eq] at n1; omega
  · exact fun _ => ⟨⟨r100, s100⟩, fun _ => ⟨⟨r100, s100⟩, fun _ _ => by omega⟩⟩
  refine ⟨fun n2 => by rw [f5] at n2; simp at n2, fun n2 => ⟨fun _ _ => by omega, fun n3 => ?_, fun n3 n4 => ?_⟩⟩
  · by_cases g : leadR S h = s
    · rw [if_neg (by simpa using g)] at n3; simp at n3
    · rw [if_pos g] at n3; simp [g] at n3
  have hm : (ofR r 1 2).length ≠ 0 := by simp only [beq_eq_false_iff_ne] at n4; omega
  obtain ⟨t1, t2, t3⟩ := ft hm
  have hn : ∀ j : Nat, j < 16 → decide (targetR S (j : Int) < 0) = false ∧ decide (targetR S (j : Int) ≥ 8) = false ∧ (S.1.getD (targetR S (j : Int)).toNat 0 != 2) = false ∧ 0 ≤ targetR S (j : Int) ∧ targetR S (j : Int) < 8 := fun j hj => by
    obtain ⟨b1, b2, b3⟩ := t2 j hj
    exact ⟨decide_eq_false (by omega), decide_eq_false (by omega), by rw [b3]; rfl, b1, b2⟩
  have k1 : ∀ j : Nat, j < 16 → decide (targetR S (j : Int) < 0) = false := fun j hj => (hn j hj).1
  have k2 : ∀ j : Nat, j < 16 → decide (targetR S (j : Int) ≥ 8) = false := fun j hj => (hn j hj).2.1
  have k3 : ∀ j : Nat, j < 16 → (S.1.getD (targetR S (j : Int)).toNat 0 != 2) = false := fun j hj => (hn j hj).2.2.1
  have k4 : ∀ j : Nat, j < 16 → 0 ≤ targetR S (j : Int) := fun j hj => (hn j hj).2.2.2.1
  have k5 : ∀ j : Nat, j < 16 → targetR S (j : Int) < 8 := fun j hj => (hn j hj).2.2.2.2
  have i0 := hn 0 (by decide)
  have i1 := hn 1 (by decide)
  have i2 := hn 2 (by decide)
  simp only [Int.natCast_zero] at i0
  have c1 : ((1 : Nat) : Int) = 1 := rfl
  have c2 : ((2 : Nat) : Int) = 2 := rfl
  rw [c1] at i1
  rw [c2] at i2
  have et : tabL 16 (fun j => targetR S (j : Int)) = tgtL S := rfl
  have o15 : (tgtL S).getD 15 0 = targetR S ((15 : Nat) : Int) := by unfold tgtL; rw [tabL_getD _ _ _ (by decide)]
  simp only [List.getD_cons_zero, List.getD_cons_succ, tabL_getD, Nat.reduceLT, k1, k2, k3, k4, k5, i0, i1, i2, s100, Bool.or_self, Bool.false_eq_true, false_implies, implies_true, true_and, and_true, Int.reduceLE, Int.reduceLT, forall_const, et, o15]
  have m8 := ofR_len r 1 2
  have ag : asgL (tgtL S) (ofR r 1 2) = tgtL S := by
    rw [t1]; exact (again (nowR r) (ofR r 1 2) (by rw [memL_ofR]; exact hm)).2
  rw [ag, mov_self, t3]
  and_intros
  all_goals try omega
  · intro _ c; exact absurd c (by decide)
  · intro c; exact absurd c (by decide)
theorem rises_ok : PureOK Try.prog 6 [Ring, i64, ints] [.bool] (fun x => okR x.1) (fun _ => (true, ())) :=
  fn_pure (E := Z3) (n := 100) Z3_ok Try.func6 bodyL2 .nil fun x h => rises_t x.1 x.2.1 x.2.2.1 h
end Pl
namespace Pl
open Go Sx Go.Proofs Go.RowKit
theorem bodyL3 : Try.f4.body = some (bodyOf Try.f4) := by kernel_rfl
noncomputable abbrev Z4 : Ex := mkExM Try.prog [KAw, KHv, KSt, KrM, KrB, KLe, KrJL]
theorem Z4_ok : Z4.Sound := mkExM_sound ⟨pureSp_ok aw_ok, fnI_ok (E := E0) E0_ok Try.func8 bodyH .nil, pureSpL_ok stage_pok, pureSp_ok rmay_ok, pureSp_ok rbelow_ok, pureSp_ok leader_ok, pureSpL_ok rjoin_ok, trivial⟩
theorem tL3 (r : RingD) (a b : List Int) : @Eq _
  (fnT Z4 [] 100 Try.f4 [Ring, ints, ints] [.bool] (r, a, b, ()))
  (.fork (decide ((↑r.2.1.2.2.length : Int) > (100 : Int))) (
 .req (True) (
  .leaf ((true, ())))) (
 .fork (decide ((↑a.length : Int) > (60 : Int))) (
  .req (True) (
   .leaf ((true, ())))) (
  .fork (decide ((↑b.length : Int) > (60 : Int))) (
   .req (True) (
    .leaf ((true, ())))) (
   .req ((8 = 8 ∧ 16 = 16) ∧ (↑a.length : Int) < (4611686018427387904 : Int)) (
    .req ((8 = 8 ∧ 16 = 16) ∧ (↑b.length : Int) < (4611686018427387904 : Int)) (
     .req (True) (
      .fork (decide (Pl.leadR (tab 8 r.1 (0 : Int), r.2.1, tab 16 r.2.2 ((0 : Int), (0 : Int))) a < (0 : Int)) || decide (Pl.leadR (tab 8 r.1 (0 : Int), r.2.1, tab 16 r.2.2 ((0 : Int), (0 : Int))) b < (0 : Int))) (
       .req (True) (
        .leaf ((true, ())))) (
       .req ((8 = 8 ∧ 16 = 16) ∧ (↑r.2.1.2.2.length : Int) < (17592186044416 : Int) ∧ (↑a.length : Int) < (4611686018427387904 : Int)) (
        .lt [(Ty.rep 8 (Ty.int IntKind.i64)).cat
    (((Ty.int IntKind.i64).cat ((Ty.int IntKind.i64).cat (Ty.int IntKind.i64).slice)).cat
      (Ty.rep 16 ((Ty.int IntKind.i64).cat (Ty.int IntKind.i64)))),
  Ty.int IntKind.i64] (((Pl.stageR (tab 8 r.1 (0 : Int), r.2.1, tab 16 r.2.2 ((0 : Int), (0 : Int))) (Pl.leadR (tab 8 r.1 (0 : Int), r.2.1, tab 16 r.2.2 ((0 : Int), (0 : Int))) a) a).1, (Pl.stageR (tab 8 r.1 (0 : Int), r.2.1, tab 16 r.2.2 ((0 : Int), (0 : Int))) (Pl.leadR (tab 8 r.1 (0 : Int), r.2.1, tab 16 r.2.2 ((0 : Int), (0 : Int))) a) a).2, ())) (fun (y1 : (List Int × (Int × Int × List Int) × List (Int × Int)) × Int × PUnit) => (
         .req ((8 = 8 ∧ 16 = 16) ∧ (↑r.2.1.2.2.length : Int) < (17592186044416 : Int) ∧ (↑b.length : Int) < (4611686018427387904 : Int)) (
          .lt [(Ty.rep 8 (Ty.int IntKind.i64)).cat
    (((Ty.int IntKind.i64).cat ((Ty.int IntKind.i64).cat (Ty.int IntKind.i64).slice)).cat
      (Ty.rep 16 ((Ty.int IntKind.i64).cat (Ty.int IntKind.i64)))),
  Ty.int IntKind.i64] (((Pl.stageR (tab 8 r.1 (0 : Int), r.2.1, tab 16 r.2.2 ((0 : Int), (0 : Int))) (Pl.leadR (tab 8 r.1 (0 : Int), r.2.1, tab 16 r.2.2 ((0 : Int), (0 : Int))) b) b).1, (Pl.stageR (tab 8 r.1 (0 : Int), r.2.1, tab 16 r.2.2 ((0 : Int), (0 : Int))) (Pl.leadR (tab 8 r.1 (0 : Int), r.2.1, tab 16 r.2.2 ((0 : Int), (0 : Int))) b) b).2, ())) (fun (y2 : (List Int × (Int × Int × List Int) × List (Int × Int)) × Int × PUnit) => (
           .req (True) (
            .fork (y1.2.1 != (0 : Int) || y2.2.1 != (0 : Int)) (
             .req (True) (
              .leaf ((true, ())))) (
             .req ((8 = 8 ∧ 16 = 16) ∧ (8 = 8 ∧ 16 = 16) ∧ (↑y1.1.2.1.2.2.length : Int) < (17592186044416 : Int) ∧ (↑y2.1.2.1.2.2.length : Int) < (17592186044416 : Int)) (
              .lt [(Ty.rep 8 (Ty.int IntKind.i64)).cat
    (((Ty.int IntKind.i64).cat ((Ty.int IntKind.i64).cat (Ty.int IntKind.i64).slice)).cat
      (Ty.rep 16 ((Ty.int IntKind.i64).cat (Ty.int IntKind.i64))))] ((Pl.joinR (tab 8 y1.1.1 (0 : Int), y1.1.2.1, tab 16 y1.1.2.2 ((0 : Int), (0 : Int))) (tab 8 y2.1.1 (0 : Int), y2.1.2.1, tab 16 y2.1.2.2 ((0 : Int), (0 : Int))), ())) (fun (y3 : (List Int × (Int × Int × List Int) × List (Int × Int)) × PUnit) => (
               .req (((8 = 8 ∧ 16 = 16) ∧ (↑y3.1.2.1.2.2.length : Int) < (17592186044416 : Int)) ∧ ((!Pl.mayR (tab 8 y3.1.1 (0 : Int), y3.1.2.1, tab 16 y3.1.2.2 ((0 : Int), (0 : Int)))) = false → conjP (((8 = 8 ∧ 16 = 16) ∧ (8 = 8 ∧ 16 = 16) ∧ (↑y1.1.2.1.2.2.length : Int) < (17592186044416 : Int) ∧ (↑y3.1.2.1.2.2.length : Int) < (17592186044416 : Int)) :: (([] : List Prop) ++ [(!Pl.belowR (tab 8 y1.1.1 (0 : Int), y1.1.2.1, tab 16 y1.1.2.2 ((0 : Int), (0 : Int))) (tab 8 y3.1.1 (0 : Int), y3.1.2.1, tab 16 y3.1.2.2 ((0 : Int), (0 : Int)))) = false → conjP (((8 = 8 ∧ 16 = 16) ∧ (8 = 8 ∧ 16 = 16) ∧ (↑y2.1.2.1.2.2.length : Int) < (17592186044416 : Int) ∧ (↑y3.1.2.1.2.2.length : Int) < (17592186044416 : Int)) :: (([] : List Prop) ++ ([] : List Prop)))])))) (
                .fork (!Pl.mayR (tab 8 y3.1.1 (0 : Int), y3.1.2.1, tab 16 y3.1.2.2 ((0 : Int), (0 : Int))) || (!Pl.belowR (tab 8 y1.1.1 (0 : Int), y1.1.2.1, tab 16 y1.1.2.2 ((0 : Int), (0 : Int))) (tab 8 y3.1.1 (0 : Int), y3.1.2.1, tab 16 y3.1.2.2 ((0 : Int), (0 : Int))) || (!Pl.belowR (tab 8 y2.1.1 (0 : Int), y2.1.2.1, tab 16 y2.1.2.2 ((0 : Int), (0 : Int))) (tab 8 y3.1.1 (0 : Int), y3.1.2.1, tab 16 y3.1.2.2 ((0 : Int), (0 : Int))) || !((y3.1.2.2.getD 0 ((0 : Int), (0 : Int))).1 == (r.2.2.getD 0 ((0 : Int), (0 : Int))).1 && ((y3.1.2.2.getD 0 ((0 : Int), (0 : Int))).2 == (r.2.2.getD 0 ((0 : Int), (0 : Int))).2 && true) && ((y3.1.2.2.getD 1 ((0 : Int), (0 : Int))).1 == (r.2.2.getD 1 ((0 : Int), (0 : Int))).1 && ((y3.1.2.2.getD 1 ((0 : Int), (0 : Int))).2 == (r.2.2.getD 1 ((0 : Int), (0 : Int))).2 && true) && ((y3.1.2.2.getD 2 ((0 : Int), (0 : Int))).1 == (r.2.2.getD 2 ((0 : Int), (0 : Int))).1 && ((y3.1.2.2.getD 2 ((0 : Int), (0 : Int))).2 == (r.2.2.getD 2 ((0 : Int), (0 : Int))).2 && true) && ((y3.1.2.2.getD 3 ((0 : Int), (0 : Int))).1 == (r.2.2.getD 3 ((0 : Int), (0 : Int))).1 && ((y3.1.2.2.getD 3 ((0 : Int), (0 : Int))).2 == (r.2.2.getD 3 ((0 : Int), (0 : Int))).2 && true) && ((y3.1.2.2.getD 4 ((0 : Int), (0 : Int))).1 == (r.2.2.getD 4 ((0 : Int), (0 : Int))).1 && ((y3.1.2.2.getD 4 ((0 : Int), (0 : Int))).2 == (r.2.2.getD 4 ((0 : Int), (0 : Int))).2 && true) && ((y3.1.2.2.getD 5 ((0 : Int), (0 : Int))).1 == (r.2.2.getD 5 ((0 : Int), (0 : Int))).1 && ((y3.1.2.2.getD 5 ((0 : Int), (0 : Int))).2 == (r.2.2.getD 5 ((0 : Int), (0 : Int))).2 && true) && ((y3.1.2.2.getD 6 ((0 : Int), (0 : Int))).1 == (r.2.2.getD 6 ((0 : Int), (0 : Int))).1 && ((y3.1.2.2.getD 6 ((0 : Int), (0 : Int))).2 == (r.2.2.getD 6 ((0 : Int), (0 : Int))).2 && true) && ((y3.1.2.2.getD 7 ((0 : Int), (0 : Int))).1 == (r.2.2.getD 7 ((0 : Int), (0 : Int))).1 && ((y3.1.2.2.getD 7 ((0 : Int), (0 : Int))).2 == (r.2.2.getD 7 ((0 : Int), (0 : Int))).2 && true) && ((y3.1.2.2.getD 8 ((0 : Int), (0 : Int))).1 == (r.2.2.getD 8 ((0 : Int), (0 : Int))).1 && ((y3.1.2.2.getD 8 ((0 : Int), (0 : Int))).2 == (r.2.2.getD 8 ((0 : Int), (0 : Int))).2 && true) && ((y3.1.2.2.getD 9 ((0 : Int), (0 : Int))).1 == (r.2.2.getD 9 ((0 : Int), (0 : Int))).1 && ((y3.1.2.2.getD 9 ((0 : Int), (0 : Int))).2 == (r.2.2.getD 9 ((0 : Int), (0 : Int))).2 && true) && ((y3.1.2.2.getD 10 ((0 : Int), (0 : Int))).1 == (r.2.2.getD 10 ((0 : Int), (0 : Int))).1 && ((y3.1.2.2.getD 10 ((0 : Int), (0 : Int))).2 == (r.2.2.getD 10 ((0 : Int), (0 : Int))).2 && true) && ((y3.1.2.2.getD 11 ((0 : Int), (0 : Int))).1 == (r.2.2.getD 11 ((0 : Int), (0 : Int))).1 && ((y3.1.2.2.getD 11 ((0 : Int), (0 : Int))).2 == (r.2.2.getD 11 ((0 : Int), (0 : Int))).2 && true) && ((y3.1.2.2.getD 12 ((0 : Int), (0 : Int))).1 == (r.2.2.getD 12 ((0 : Int), (0 : Int))).1 && ((y3.1.2.2.getD 12 ((0 : Int), (0 : Int))).2 == (r.2.2.getD 12 ((0 : Int), (0 : Int))).2 && true) && ((y3.1.2.2.getD 13 ((0 : Int), (0 : Int))).1 == (r.2.2.getD 13 ((0 : Int), (0 : Int))).1 && ((y3.1.2.2.getD 13 ((0 : Int), (0 : Int))).2 == (r.2.2.getD 13 ((0 : Int), (0 : Int))).2 && true) && ((y3.1.2.2.getD 14 ((0 : Int), (0 : Int))).1 == (r.2.2.getD 14 ((0 : Int), (0 : Int))).1 && ((y3.1.2.2.getD 14 ((0 : Int), (0 : Int))).2 == (r.2.2.getD 14 ((0 : Int), (0 : Int))).2 && true) && ((y3.1.2.2.getD 15 ((0 : Int), (0 : Int))).1 == (r.2.2.getD 15 ((0 : Int), (0 : Int))).1 && ((y3.1.2.2.getD 15 ((0 : Int), (0 : Int))).2 == (r.2.2.getD 15 ((0 : Int), (0 : Int))).2 && true) && true))))))))))))))))))) (
                 .leaf ((false, ()))) (
                 .req ((0 + a.length) * 9 ≤ 70368744177664) (
                  .req ((a.length + b.length) * 9 ≤ 70368744177664) (
                   .req ((8 = 8 ∧ 16 = 16) ∧ (↑(a ++ b).length : Int) < (4611686018427387904 : Int)) (
                    .fork (decide (Pl.leadR (tab 8 y3.1.1 (0 : Int), y3.1.2.1, tab 16 y3.1.2.2 ((0 : Int), (0 : Int))) (a ++ b) < (0 : Int))) (
                     .req (True) (
                      .leaf ((true, ())))) (
                     .req ((8 = 8 ∧ 16 = 16) ∧ (↑y3.1.2.1.2.2.length : Int) < (17592186044416 : Int) ∧ (↑(a ++ b).length : Int) < (4611686018427387904 : Int)) (
                      .lt [(Ty.rep 8 (Ty.int IntKind.i64)).cat
    (((Ty.int IntKind.i64).cat ((Ty.int IntKind.i64).cat (Ty.int IntKind.i64).slice)).cat
      (Ty.rep 16 ((Ty.int IntKind.i64).cat (Ty.int IntKind.i64)))),
  Ty.int IntKind.i64] (((Pl.stageR (tab 8 y3.1.1 (0 : Int), y3.1.2.1, tab 16 y3.1.2.2 ((0 : Int), (0 : Int))) (Pl.leadR (tab 8 y3.1.1 (0 : Int), y3.1.2.1, tab 16 y3.1.2.2 ((0 : Int), (0 : Int))) (a ++ b)) (a ++ b)).1, (Pl.stageR (tab 8 y3.1.1 (0 : Int), y3.1.2.1, tab 16 y3.1.2.2 ((0 : Int), (0 : Int))) (Pl.leadR (tab 8 y3.1.1 (0 : Int), y3.1.2.1, tab 16 y3.1.2.2 ((0 : Int), (0 : Int))) (a ++ b)) (a ++ b)).2, ())) (fun (y4 : (List Int × (Int × Int × List Int) × List (Int × Int)) × Int × PUnit) => (
                       .fork (y4.2.1 != (0 : Int)) (
                        .req (((y4.2.1 == (9 : Int)) = true → conjP [True]) ∧ ((y4.2.1 == (9 : Int)) = false → conjP (((y4.2.1 == (6 : Int)) = true → conjP [True]) :: ([] : List Prop)))) (
                         .leaf ((bif y4.2.1 == (9 : Int) then true else y4.2.1 == (6 : Int) && true, ())))) (
                        .req ((8 = 8 ∧ 16 = 16) ∧ (↑(a ++ b).length : Int) < (4611686018427387904 : Int)) (
                         .req ((8 = 8 ∧ 16 = 16) ∧ (↑y4.1.2.1.2.2.length : Int) < (17592186044416 : Int) ∧ (↑(a ++ b).length : Int) < (4611686018427387904 : Int)) (
                          .lt [(Ty.rep 8 (Ty.int IntKind.i64)).cat
    (((Ty.int IntKind.i64).cat ((Ty.int IntKind.i64).cat (Ty.int IntKind.i64).slice)).cat
      (Ty.rep 16 ((Ty.int IntKind.i64).cat (Ty.int IntKind.i64)))),
  Ty.int IntKind.i64] (((Pl.stageR (tab 8 y4.1.1 (0 : Int), y4.1.2.1, tab 16 y4.1.2.2 ((0 : Int), (0 : Int))) (Pl.leadR (tab 8 y4.1.1 (0 : Int), y4.1.2.1, tab 16 y4.1.2.2 ((0 : Int), (0 : Int))) (a ++ b)) (a ++ b)).1, (Pl.stageR (tab 8 y4.1.1 (0 : Int), y4.1.2.1, tab 16 y4.1.2.2 ((0 : Int), (0 : Int))) (Pl.leadR (tab 8 y4.1.1 (0 : Int), y4.1.2.1, tab 16 y4.1.2.2 ((0 : Int), (0 : Int))) (a ++ b)) (a ++ b)).2, ())) (fun (y5 : (List Int × (Int × Int × List Int) × List (Int × Int)) × Int × PUnit) => (
                           .req (((8 = 8 ∧ 16 = 16) ∧ (8 = 8 ∧ 16 = 16) ∧ (↑y3.1.2.1.2.2.length : Int) < (17592186044416 : Int) ∧ (↑y4.1.2.1.2.2.length : Int) < (17592186044416 : Int)) ∧ (Pl.belowR (tab 8 y3.1.1 (0 : Int), y3.1.2.1, tab 16 y3.1.2.2 ((0 : Int), (0 : Int))) (tab 8 y4.1.1 (0 : Int), y4.1.2.1, tab 16 y4.1.2.2 ((0 : Int), (0 : Int))) = true → conjP [(y5.2.1 == (9 : Int)) = true → conjP [True], (y5.2.1 == (9 : Int)) = false → conjP [(y5.2.1 == (1 : Int)) = true → conjP [True], (y5.2.1 == (1 : Int)) = false → conjP (((y5.2.1 == (10 : Int)) = true → conjP [True]) :: ([] : List Prop))]])) (
                            .leaf ((Pl.belowR (tab 8 y3.1.1 (0 : Int), y3.1.2.1, tab 16 y3.1.2.2 ((0 : Int), (0 : Int))) (tab 8 y4.1.1 (0 : Int), y4.1.2.1, tab 16 y4.1.2.2 ((0 : Int), (0 : Int))) && bif y5.2.1 == (9 : Int) then true else bif y5.2.1 == (1 : Int) then true else y5.2.1 == (10 : Int) && true, ()))))))))))))))))))))))))))))))))))) : Tree (Bool × PUnit)) := by kernel_rfl
end Pl
namespace Pl
open Go Sx Go.Proofs Go.RowKit
theorem asg_full {r : RingD} (hm : (ofR r 1 2).length ≠ 0) (now : List Int) : fullB (asgL now (ofR r 1 2)) = true := by
  obtain ⟨h1, h2⟩ := asg_all hm now
  simp only [fullB, Bool.and_eq_true, decide_eq_true_eq, allN, List.all_eq_true]
  refine ⟨h1, fun x hx => ?_⟩
  obtain ⟨k, hk, rfl⟩ := mem_getD16 (z := 0) hx
  have := ofR_mem.1 (h2 k (by omega))
  exact nodeB_iff.2 ⟨this.1, this.2.1⟩
theorem planS_err {r : RingD} {s : Int} (hp : mayB r.2.1 = true) (hn : nodeB s = true) : (planS r s).2 = 0 ∨ (planS r s).2 = 6 := by
  unfold planS
  split
  · exact .inl rfl
  · rename_i hm
    split
    · exact .inl rfl
    · unfold nextP
      rw [if_pos (by rw [hp, hn, asg_full hm]; rfl)]
      split
      · exact .inr rfl
      · exact .inl rfl
theorem stage_errs {r : RingD} {h : List Int} (hr : okR r) (hm : mayR r = true) (hl : 0 ≤ leadR r h) : (stageR r (leadR r h) h).2 = 0 ∨ (stageR r (leadR r h) h).2 = 9 ∨ (stageR r (leadR r h) h).2 = 6 := by
  have hn : nodeB (leadR r h) = true := by
    rcases leadR_spec r h with ⟨a, _⟩ | ⟨a1, a2, _⟩
    · omega
    · exact nodeB_iff.2 ⟨a1, a2⟩
  unfold stageR
  rw [if_neg (by simp [hm, hn]), if_neg (by simp)]
  rcases planS_err (may_plan hr hm) hn with e | e
  · rw [if_neg (by simp [e])]
    split
    · exact .inr (.inl rfl)
    · exact .inl rfl
  · rw [if_pos (by simp [e])]
    exact .inr (.inr e)
theorem two_t (r : RingD) (a b : List Int) (hr : okR r) : (fnT Z4 [] 100 Try.f4 [Ring, ints, ints] [.bool] (r, a, b, ())).all fun y => y = (true, ()) := by
  refine Tree.all_eq (tL3 r a b) ?_
  show Tree.all (α := Bool × Unit) _ Yes
  rw [tab_eq hr.1, tab_eq hr.2]
  have e : (r.1, r.2.1, r.2.2) = r := rfl
  simp only [e, all_leaf, all_fork, all_req, all_lt, and_true, true_and, conjP, yes_t, yes_f, yes_iff, implies_true, List.nil_append]
  have hs1 := stage_okr hr (leadR r a) a
  have hs2 := stage_okr hr (leadR r b) b
  obtain ⟨S, E, hS⟩ : ∃ S E, stageR r (leadR r a) a = (S, E) := ⟨_, _, rfl⟩
  obtain ⟨T, F, hT⟩ : ∃ S E, stageR r (leadR r b) b = (S, E) := ⟨_, _, rfl⟩
  rw [hS] at hs1 ⊢
  rw [hT] at hs2 ⊢
  simp only at hs1 hs2 ⊢
  rw [tab_eq hs1.1.1, tab_eq hs1.1.2, tab_eq hs2.1.1, tab_eq hs2.1.2]
  have eS : (S.1, S.2.1, S.2.2) = S := rfl
  have eT : (T.1, T.2.1, T.2.2) = T := rfl
  rw [eS, eT]
  have hj := joinR_ok S T
  have hjl : (joinR S T).2.1.2.2.length ≤ max r.2.1.2.2.length 16 := by
    show (joinP S.2.1 T.2.1).2.2.length ≤ _
    rcases join_either S.2.1 T.2.1 with g | g <;> rw [g]
    · exact hs1.2
    · exact hs2.2
  have below1 := below_join S T hs1.1
  have below2 := below_join' S T hs2.1
  have hJ : E = 0 → F = 0 → mayR (joinR S T) = true ∧ (joinR S T).2.2 = r.2.2 := fun e1 e2 => by
    subst e1; subst e2
    obtain ⟨a1, a2, a3, a4, _⟩ := rises_facts hr hS
    obtain ⟨b1, b2, b3, b4, _⟩ := rises_facts hr hT
    refine ⟨mayR_join hs1.1 hs2.1 a1 b1, ?_⟩
    show tabL 16 (fun j => joinE (S.2.2.getD j (0, 0)) (T.2.2.getD j (0, 0))) = r.2.2
    rw [a4, b4]
    simp only [joinE_self]
    exact tabL_self hr.2
  generalize joinR S T = J at *
  rw [tab_eq hj.1, tab_eq hj.2]
  have eJ : (J.1, J.2.1, J.2.2) = J := rfl
  rw [eJ, eq16 hj.2 hr.2]
  obtain ⟨Z, G, hZ⟩ : ∃ S E, stageR J (leadR J (a ++ b)) (a ++ b) = (S, E) := ⟨_, _, rfl⟩
  have hz := stage_okr hj (leadR J (a ++ b)) (a ++ b)
  have hze := stage_errs (h := a ++ b) hj
  rw [hZ] at hz hze ⊢
  simp only at hz hze ⊢
  rw [tab_eq hz.1.1, tab_eq hz.1.2]
  have eZ : (Z.1, Z.2.1, Z.2.2) = Z := rfl
  rw [eZ]
  intro r1 a1 b1
  simp only [decide_eq_false_iff_not] at r1 a1 b1
  have hl : (a ++ b).length = a.length + b.length := by simp
  refine ⟨by omega, by omega, fun n1 => ⟨⟨by omega, by omega⟩, ⟨by omega, by omega⟩, fun n2 => ?_⟩⟩
  simp only [Bool.or_eq_false_iff, bne_eq_false_iff_eq] at n2
  obtain ⟨j1, j2⟩ := hJ n2.1 n2.2
  rw [j1, j2, below1, below2]
  refine ⟨⟨by omega, by omega⟩, ⟨by omega, fun _ => ⟨⟨by omega, by omega⟩, fun _ => ⟨by omega, by omega⟩⟩⟩, fun c => by simp at c, fun _ => ⟨by omega, by omega, by omega, fun n3 => ⟨⟨by omega, by omega⟩, fun n4 => ?_, fun n4 => ?_⟩⟩⟩
  · rcases hze j1 (by simpa using n3) with g | g | g
    · rw [g] at n4; cases n4
    · rw [g]; rfl
    · rw [g]; rfl
  · have n4 : G = 0 := by simpa using n4
    subst n4
    obtain ⟨f1, f2, f3, f4, f5, f6, f7⟩ := rises_facts hj hZ
    rw [f7, f2]
    refine ⟨by omega, ⟨by omega, by omega⟩, ⟨by omega, by omega⟩, ?_⟩
    simp only [ne_eq, not_true_eq_false, if_false, Bool.true_and]
    split <;> rfl
theorem two_ok : PureOK Try.prog 4 [Ring, ints, ints] [.bool] (fun x => okR x.1) (fun _ => (true, ())) :=
  fn_pure (E := Z4) (n := 100) Z4_ok Try.func4 bodyL3 .nil fun x h => two_t x.1 x.2.1 x.2.2.1 h
end Pl
