import Derived.Test.YtmbbdddbijonaaaRiRlR
namespace Pl
open Go Sx Go.Proofs Go.RowKit
noncomputable abbrev VF : Ex := mkExM Try.prog [KrM, KrS, KrO, KrT, KM7, KAw, KMv, KrJL, KrFL, KrB]
theorem VF_ok : VF.Sound := mkExM_sound ⟨pureSp_ok rmay_ok, pureSp_ok rsame_ok, pureSp_ok rowner_ok, pureSp_ok rtarget_ok, pureSp_ok mr_ok, pureSp_ok aw_ok, pureSp_ok rmv_ok, pureSpL_ok rjoin_ok, pureSpL_ok rfirst_ok, pureSp_ok rbelow_ok, trivial⟩
theorem bodyRF : Try.f7.body = some (bodyOf Try.f7) := by kernel_rfl
theorem tRF (a b : Int) : @Eq _
  (fnT VF [] 100 Try.f7 [i64, i64] [.bool] (a, b, ()))
  (.req ((8 : Int) ≠ (0 : Int)) (
 .req ((8 : Int) ≠ (0 : Int)) (
  .req (True) (
   .lt [(Ty.rep 8 (Ty.int IntKind.i64)).cat
    (((Ty.int IntKind.i64).cat ((Ty.int IntKind.i64).cat (Ty.int IntKind.i64).slice)).cat
      (Ty.rep 16 ((Ty.int IntKind.i64).cat (Ty.int IntKind.i64)))),
  Ty.bool] (((Pl.firstR (IntKind.i64.wrap ((IntKind.u64.wrap a).tmod (8 : Int)))).1, (Pl.firstR (IntKind.i64.wrap ((IntKind.u64.wrap a).tmod (8 : Int)))).2, ())) (fun (y1 : (List Int × (Int × Int × List Int) × List (Int × Int)) × Bool × PUnit) => (
    .req (True) (
     .lt [(Ty.rep 8 (Ty.int IntKind.i64)).cat
    (((Ty.int IntKind.i64).cat ((Ty.int IntKind.i64).cat (Ty.int IntKind.i64).slice)).cat
      (Ty.rep 16 ((Ty.int IntKind.i64).cat (Ty.int IntKind.i64)))),
  Ty.bool] (((Pl.firstR (IntKind.i64.wrap ((IntKind.u64.wrap b).tmod (8 : Int)))).1, (Pl.firstR (IntKind.i64.wrap ((IntKind.u64.wrap b).tmod (8 : Int)))).2, ())) (fun (y2 : (List Int × (Int × Int × List Int) × List (Int × Int)) × Bool × PUnit) => (
      .req ((8 = 8 ∧ 16 = 16) ∧ (8 = 8 ∧ 16 = 16) ∧ (↑y1.1.2.1.2.2.length : Int) < (17592186044416 : Int) ∧ (↑y2.1.2.1.2.2.length : Int) < (17592186044416 : Int)) (
       .lt [(Ty.rep 8 (Ty.int IntKind.i64)).cat
    (((Ty.int IntKind.i64).cat ((Ty.int IntKind.i64).cat (Ty.int IntKind.i64).slice)).cat
      (Ty.rep 16 ((Ty.int IntKind.i64).cat (Ty.int IntKind.i64))))] ((Pl.joinR (tab 8 y1.1.1 (0 : Int), y1.1.2.1, tab 16 y1.1.2.2 ((0 : Int), (0 : Int))) (tab 8 y2.1.1 (0 : Int), y2.1.2.1, tab 16 y2.1.2.2 ((0 : Int), (0 : Int))), ())) (fun (y3 : (List Int × (Int × Int × List Int) × List (Int × Int)) × PUnit) => (
        .fork (!y1.2.1) (
         .leaf ((false, ()))) (
         .fork (!y2.2.1) (
          .leaf ((false, ()))) (
          .req ((8 = 8 ∧ 16 = 16) ∧ (↑y3.1.2.1.2.2.length : Int) < (17592186044416 : Int)) (
           .fork (!Pl.mayR (tab 8 y3.1.1 (0 : Int), y3.1.2.1, tab 16 y3.1.2.2 ((0 : Int), (0 : Int)))) (
            .leaf ((false, ()))) (
            .req ((0 : Int) ≤ IntKind.i64.wrap ((IntKind.u64.wrap a).tmod (8 : Int)) ∧ IntKind.i64.wrap ((IntKind.u64.wrap a).tmod (8 : Int)) < (8 : Int)) (
             .req ((0 : Int) ≤ IntKind.i64.wrap ((IntKind.u64.wrap a).tmod (8 : Int)) ∧ IntKind.i64.wrap ((IntKind.u64.wrap a).tmod (8 : Int)) < (8 : Int)) (
              .fork ((tab 8 y3.1.1 (0 : Int)).getD (IntKind.i64.wrap ((IntKind.u64.wrap a).tmod (8 : Int))).toNat (0 : Int) != (2 : Int)) (
               .leaf ((false, ()))) (
               .req ((0 : Int) ≤ IntKind.i64.wrap ((IntKind.u64.wrap b).tmod (8 : Int)) ∧ IntKind.i64.wrap ((IntKind.u64.wrap b).tmod (8 : Int)) < (8 : Int)) (
                .req ((0 : Int) ≤ IntKind.i64.wrap ((IntKind.u64.wrap b).tmod (8 : Int)) ∧ IntKind.i64.wrap ((IntKind.u64.wrap b).tmod (8 : Int)) < (8 : Int)) (
                 .fork ((tab 8 y3.1.1 (0 : Int)).getD (IntKind.i64.wrap ((IntKind.u64.wrap b).tmod (8 : Int))).toNat (0 : Int) != (2 : Int)) (
                  .leaf ((false, ()))) (
                  .req ((8 = 8 ∧ 16 = 16) ∧ (↑y3.1.2.1.2.2.length : Int) < (17592186044416 : Int)) (
                   .fork ((↑(Pl.moveR (tab 8 y3.1.1 (0 : Int), y3.1.2.1, tab 16 y3.1.2.2 ((0 : Int), (0 : Int))) (IntKind.i64.wrap ((IntKind.u64.wrap a).tmod (8 : Int)))).length : Int) != (0 : Int)) (
                    .leaf ((false, ()))) (
                    .req (((8 = 8 ∧ 16 = 16) ∧ (↑y3.1.2.1.2.2.length : Int) < (17592186044416 : Int)) ∧ ((Pl.ownerR (tab 8 y3.1.1 (0 : Int), y3.1.2.1, tab 16 y3.1.2.2 ((0 : Int), (0 : Int))) (0 : Int) != if IntKind.i64.wrap ((IntKind.u64.wrap b).tmod (8 : Int)) > IntKind.i64.wrap ((IntKind.u64.wrap a).tmod (8 : Int)) then IntKind.i64.wrap ((IntKind.u64.wrap b).tmod (8 : Int)) else IntKind.i64.wrap ((IntKind.u64.wrap a).tmod (8 : Int))) = false → conjP [(8 = 8 ∧ 16 = 16) ∧ (↑y3.1.2.1.2.2.length : Int) < (17592186044416 : Int)])) (
                     .fork ((Pl.ownerR (tab 8 y3.1.1 (0 : Int), y3.1.2.1, tab 16 y3.1.2.2 ((0 : Int), (0 : Int))) (0 : Int) != if IntKind.i64.wrap ((IntKind.u64.wrap b).tmod (8 : Int)) > IntKind.i64.wrap ((IntKind.u64.wrap a).tmod (8 : Int)) then IntKind.i64.wrap ((IntKind.u64.wrap b).tmod (8 : Int)) else IntKind.i64.wrap ((IntKind.u64.wrap a).tmod (8 : Int))) || Pl.targetR (tab 8 y3.1.1 (0 : Int), y3.1.2.1, tab 16 y3.1.2.2 ((0 : Int), (0 : Int))) (0 : Int) != (-1 : Int)) (
                      .leaf ((false, ()))) (
                      .req (((8 = 8 ∧ 16 = 16) ∧ (↑y3.1.2.1.2.2.length : Int) < (17592186044416 : Int)) ∧ ((Pl.ownerR (tab 8 y3.1.1 (0 : Int), y3.1.2.1, tab 16 y3.1.2.2 ((0 : Int), (0 : Int))) (1 : Int) != if IntKind.i64.wrap ((IntKind.u64.wrap b).tmod (8 : Int)) > IntKind.i64.wrap ((IntKind.u64.wrap a).tmod (8 : Int)) then IntKind.i64.wrap ((IntKind.u64.wrap b).tmod (8 : Int)) else IntKind.i64.wrap ((IntKind.u64.wrap a).tmod (8 : Int))) = false → conjP [(8 = 8 ∧ 16 = 16) ∧ (↑y3.1.2.1.2.2.length : Int) < (17592186044416 : Int)])) (
                       .fork ((Pl.ownerR (tab 8 y3.1.1 (0 : Int), y3.1.2.1, tab 16 y3.1.2.2 ((0 : Int), (0 : Int))) (1 : Int) != if IntKind.i64.wrap ((IntKind.u64.wrap b).tmod (8 : Int)) > IntKind.i64.wrap ((IntKind.u64.wrap a).tmod (8 : Int)) then IntKind.i64.wrap ((IntKind.u64.wrap b).tmod (8 : Int)) else IntKind.i64.wrap ((IntKind.u64.wrap a).tmod (8 : Int))) || Pl.targetR (tab 8 y3.1.1 (0 : Int), y3.1.2.1, tab 16 y3.1.2.2 ((0 : Int), (0 : Int))) (1 : Int) != (-1 : Int)) (
                        .leaf ((false, ()))) (
                        .req (((8 = 8 ∧ 16 = 16) ∧ (↑y3.1.2.1.2.2.length : Int) < (17592186044416 : Int)) ∧ ((Pl.ownerR (tab 8 y3.1.1 (0 : Int), y3.1.2.1, tab 16 y3.1.2.2 ((0 : Int), (0 : Int))) (2 : Int) != if IntKind.i64.wrap ((IntKind.u64.wrap b).tmod (8 : Int)) > IntKind.i64.wrap ((IntKind.u64.wrap a).tmod (8 : Int)) then IntKind.i64.wrap ((IntKind.u64.wrap b).tmod (8 : Int)) else IntKind.i64.wrap ((IntKind.u64.wrap a).tmod (8 : Int))) = false → conjP [(8 = 8 ∧ 16 = 16) ∧ (↑y3.1.2.1.2.2.length : Int) < (17592186044416 : Int)])) (
                         .fork ((Pl.ownerR (tab 8 y3.1.1 (0 : Int), y3.1.2.1, tab 16 y3.1.2.2 ((0 : Int), (0 : Int))) (2 : Int) != if IntKind.i64.wrap ((IntKind.u64.wrap b).tmod (8 : Int)) > IntKind.i64.wrap ((IntKind.u64.wrap a).tmod (8 : Int)) then IntKind.i64.wrap ((IntKind.u64.wrap b).tmod (8 : Int)) else IntKind.i64.wrap ((IntKind.u64.wrap a).tmod (8 : Int))) || Pl.targetR (tab 8 y3.1.1 (0 : Int), y3.1.2.1, tab 16 y3.1.2.2 ((0 : Int), (0 : Int))) (2 : Int) != (-1 : Int)) (
                          .leaf ((false, ()))) (
                          .req (((8 = 8 ∧ 16 = 16) ∧ (↑y3.1.2.1.2.2.length : Int) < (17592186044416 : Int)) ∧ ((Pl.ownerR (tab 8 y3.1.1 (0 : Int), y3.1.2.1, tab 16 y3.1.2.2 ((0 : Int), (0 : Int))) (3 : Int) != if IntKind.i64.wrap ((IntKind.u64.wrap b).tmod (8 : Int)) > IntKind.i64.wrap ((IntKind.u64.wrap a).tmod (8 : Int)) then IntKind.i64.wrap ((IntKind.u64.wrap b).tmod (8 : Int)) else IntKind.i64.wrap ((IntKind.u64.wrap a).tmod (8 : Int))) = false → conjP [(8 = 8 ∧ 16 = 16) ∧ (↑y3.1.2.1.2.2.length : Int) < (17592186044416 : Int)])) (
                           .fork ((Pl.ownerR (tab 8 y3.1.1 (0 : Int), y3.1.2.1, tab 16 y3.1.2.2 ((0 : Int), (0 : Int))) (3 : Int) != if IntKind.i64.wrap ((IntKind.u64.wrap b).tmod (8 : Int)) > IntKind.i64.wrap ((IntKind.u64.wrap a).tmod (8 : Int)) then IntKind.i64.wrap ((IntKind.u64.wrap b).tmod (8 : Int)) else IntKind.i64.wrap ((IntKind.u64.wrap a).tmod (8 : Int))) || Pl.targetR (tab 8 y3.1.1 (0 : Int), y3.1.2.1, tab 16 y3.1.2.2 ((0 : Int), (0 : Int))) (3 : Int) != (-1 : Int)) (
                            .leaf ((false, ()))) (
                            .req (((8 = 8 ∧ 16 = 16) ∧ (↑y3.1.2.1.2.2.length : Int) < (17592186044416 : Int)) ∧ ((Pl.ownerR (tab 8 y3.1.1 (0 : Int), y3.1.2.1, tab 16 y3.1.2.2 ((0 : Int), (0 : Int))) (4 : Int) != if IntKind.i64.wrap ((IntKind.u64.wrap b).tmod (8 : Int)) > IntKind.i64.wrap ((IntKind.u64.wrap a).tmod (8 : Int)) then IntKind.i64.wrap ((IntKind.u64.wrap b).tmod (8 : Int)) else IntKind.i64.wrap ((IntKind.u64.wrap a).tmod (8 : Int))) = false → conjP [(8 = 8 ∧ 16 = 16) ∧ (↑y3.1.2.1.2.2.length : Int) < (17592186044416 : Int)])) (
                             .fork ((Pl.ownerR (tab 8 y3.1.1 (0 : Int), y3.1.2.1, tab 16 y3.1.2.2 ((0 : Int), (0 : Int))) (4 : Int) != if IntKind.i64.wrap ((IntKind.u64.wrap b).tmod (8 : Int)) > IntKind.i64.wrap ((IntKind.u64.wrap a).tmod (8 : Int)) then IntKind.i64.wrap ((IntKind.u64.wrap b).tmod (8 : Int)) else IntKind.i64.wrap ((IntKind.u64.wrap a).tmod (8 : Int))) || Pl.targetR (tab 8 y3.1.1 (0 : Int), y3.1.2.1, tab 16 y3.1.2.2 ((0 : Int), (0 : Int))) (4 : Int) != (-1 : Int)) (
                              .leaf ((false, ()))) (
                              .req (((8 = 8 ∧ 16 = 16) ∧ (↑y3.1.2.1.2.2.length : Int) < (17592186044416 : Int)) ∧ ((Pl.ownerR (tab 8 y3.1.1 (0 : Int), y3.1.2.1, tab 16 y3.1.2.2 ((0 : Int), (0 : Int))) (5 : Int) != if IntKind.i64.wrap ((IntKind.u64.wrap b).tmod (8 : Int)) > IntKind.i64.wrap ((IntKind.u64.wrap a).tmod (8 : Int)) then IntKind.i64.wrap ((IntKind.u64.wrap b).tmod (8 : Int)) else IntKind.i64.wrap ((IntKind.u64.wrap a).tmod (8 : Int))) = false → conjP [(8 = 8 ∧ 16 = 16) ∧ (↑y3.1.2.1.2.2.length : Int) < (17592186044416 : Int)])) (
                               .fork ((Pl.ownerR (tab 8 y3.1.1 (0 : Int), y3.1.2.1, tab 16 y3.1.2.2 ((0 : Int), (0 : Int))) (5 : Int) != if IntKind.i64.wrap ((IntKind.u64.wrap b).tmod (8 : Int)) > IntKind.i64.wrap ((IntKind.u64.wrap a).tmod (8 : Int)) then IntKind.i64.wrap ((IntKind.u64.wrap b).tmod (8 : Int)) else IntKind.i64.wrap ((IntKind.u64.wrap a).tmod (8 : Int))) || Pl.targetR (tab 8 y3.1.1 (0 : Int), y3.1.2.1, tab 16 y3.1.2.2 ((0 : Int), (0 : Int))) (5 : Int) != (-1 : Int)) (
                                .leaf ((false, ()))) (
                                .req (((8 = 8 ∧ 16 = 16) ∧ (↑y3.1.2.1.2.2.length : Int) < (17592186044416 : Int)) ∧ ((Pl.ownerR (tab 8 y3.1.1 (0 : Int), y3.1.2.1, tab 16 y3.1.2.2 ((0 : Int), (0 : Int))) (6 : Int) != if IntKind.i64.wrap ((IntKind.u64.wrap b).tmod (8 : Int)) > IntKind.i64.wrap ((IntKind.u64.wrap a).tmod (8 : Int)) then IntKind.i64.wrap ((IntKind.u64.wrap b).tmod (8 : Int)) else IntKind.i64.wrap ((IntKind.u64.wrap a).tmod (8 : Int))) = false → conjP [(8 = 8 ∧ 16 = 16) ∧ (↑y3.1.2.1.2.2.length : Int) < (17592186044416 : Int)])) (
                                 .fork ((Pl.ownerR (tab 8 y3.1.1 (0 : Int), y3.1.2.1, tab 16 y3.1.2.2 ((0 : Int), (0 : Int))) (6 : Int) != if IntKind.i64.wrap ((IntKind.u64.wrap b).tmod (8 : Int)) > IntKind.i64.wrap ((IntKind.u64.wrap a).tmod (8 : Int)) then IntKind.i64.wrap ((IntKind.u64.wrap b).tmod (8 : Int)) else IntKind.i64.wrap ((IntKind.u64.wrap a).tmod (8 : Int))) || Pl.targetR (tab 8 y3.1.1 (0 : Int), y3.1.2.1, tab 16 y3.1.2.2 ((0 : Int), (0 : Int))) (6 : Int) != (-1 : Int)) (
                                  .leaf ((false, ()))) (
                                  .req (((8 = 8 ∧ 16 = 16) ∧ (↑y3.1.2.1.2.2.length : Int) < (17592186044416 : Int)) ∧ ((Pl.ownerR (tab 8 y3.1.1 (0 : Int), y3.1.2.1, tab 16 y3.1.2.2 ((0 : Int), (0 : Int))) (7 : Int) != if IntKind.i64.wrap ((IntKind.u64.wrap b).tmod (8 : Int)) > IntKind.i64.wrap ((IntKind.u64.wrap a).tmod (8 : Int)) then IntKind.i64.wrap ((IntKind.u64.wrap b).tmod (8 : Int)) else IntKind.i64.wrap ((IntKind.u64.wrap a).tmod (8 : Int))) = false → conjP [(8 = 8 ∧ 16 = 16) ∧ (↑y3.1.2.1.2.2.length : Int) < (17592186044416 : Int)])) (
                                   .fork ((Pl.ownerR (tab 8 y3.1.1 (0 : Int), y3.1.2.1, tab 16 y3.1.2.2 ((0 : Int), (0 : Int))) (7 : Int) != if IntKind.i64.wrap ((IntKind.u64.wrap b).tmod (8 : Int)) > IntKind.i64.wrap ((IntKind.u64.wrap a).tmod (8 : Int)) then IntKind.i64.wrap ((IntKind.u64.wrap b).tmod (8 : Int)) else IntKind.i64.wrap ((IntKind.u64.wrap a).tmod (8 : Int))) || Pl.targetR (tab 8 y3.1.1 (0 : Int), y3.1.2.1, tab 16 y3.1.2.2 ((0 : Int), (0 : Int))) (7 : Int) != (-1 : Int)) (
                                    .leaf ((false, ()))) (
                                    .req (((8 = 8 ∧ 16 = 16) ∧ (↑y3.1.2.1.2.2.length : Int) < (17592186044416 : Int)) ∧ ((Pl.ownerR (tab 8 y3.1.1 (0 : Int), y3.1.2.1, tab 16 y3.1.2.2 ((0 : Int), (0 : Int))) (8 : Int) != if IntKind.i64.wrap ((IntKind.u64.wrap b).tmod (8 : Int)) > IntKind.i64.wrap ((IntKind.u64.wrap a).tmod (8 : Int)) then IntKind.i64.wrap ((IntKind.u64.wrap b).tmod (8 : Int)) else IntKind.i64.wrap ((IntKind.u64.wrap a).tmod (8 : Int))) = false → conjP [(8 = 8 ∧ 16 = 16) ∧ (↑y3.1.2.1.2.2.length : Int) < (17592186044416 : Int)])) (
                                     .fork ((Pl.ownerR (tab 8 y3.1.1 (0 : Int), y3.1.2.1, tab 16 y3.1.2.2 ((0 : Int), (0 : Int))) (8 : Int) != if IntKind.i64.wrap ((IntKind.u64.wrap b).tmod (8 : Int)) > IntKind.i64.wrap ((IntKind.u64.wrap a).tmod (8 : Int)) then IntKind.i64.wrap ((IntKind.u64.wrap b).tmod (8 : Int)) else IntKind.i64.wrap ((IntKind.u64.wrap a).tmod (8 : Int))) || Pl.targetR (tab 8 y3.1.1 (0 : Int), y3.1.2.1, tab 16 y3.1.2.2 ((0 : Int), (0 : Int))) (8 : Int) != (-1 : Int)) (
                                      .leaf ((false, ()))) (
                                      .req (((8 = 8 ∧ 16 = 16) ∧ (↑y3.1.2.1.2.2.length : Int) < (17592186044416 : Int)) ∧ ((Pl.ownerR (tab 8 y3.1.1 (0 : Int), y3.1.2.1, tab 16 y3.1.2.2 ((0 : Int), (0 : Int))) (9 : Int) != if IntKind.i64.wrap ((IntKind.u64.wrap b).tmod (8 : Int)) > IntKind.i64.wrap ((IntKind.u64.wrap a).tmod (8 : Int)) then IntKind.i64.wrap ((IntKind.u64.wrap b).tmod (8 : Int)) else IntKind.i64.wrap ((IntKind.u64.wrap a).tmod (8 : Int))) = false → conjP [(8 = 8 ∧ 16 = 16) ∧ (↑y3.1.2.1.2.2.length : Int) < (17592186044416 : Int)])) (
                                       .fork ((Pl.ownerR (tab 8 y3.1.1 (0 : Int), y3.1.2.1, tab 16 y3.1.2.2 ((0 : Int), (0 : Int))) (9 : Int) != if IntKind.i64.wrap ((IntKind.u64.wrap b).tmod (8 : Int)) > IntKind.i64.wrap ((IntKind.u64.wrap a).tmod (8 : Int)) then IntKind.i64.wrap ((IntKind.u64.wrap b).tmod (8 : Int)) else IntKind.i64.wrap ((IntKind.u64.wrap a).tmod (8 : Int))) || Pl.targetR (tab 8 y3.1.1 (0 : Int), y3.1.2.1, tab 16 y3.1.2.2 ((0 : Int), (0 : Int))) (9 : Int) != (-1 : Int)) (
                                        .leaf ((false, ()))) (
                                        .req (((8 = 8 ∧ 16 = 16) ∧ (↑y3.1.2.1.2.2.length : Int) < (17592186044416 : Int)) ∧ ((Pl.ownerR (tab 8 y3.1.1 (0 : Int), y3.1.2.1, tab 16 y3.1.2.2 ((0 : Int), (0 : Int))) (10 : Int) != if IntKind.i64.wrap ((IntKind.u64.wrap b).tmod (8 : Int)) > IntKind.i64.wrap ((IntKind.u64.wrap a).tmod (8 : Int)) then IntKind.i64.wrap ((IntKind.u64.wrap b).tmod (8 : Int)) else IntKind.i64.wrap ((IntKind.u64.wrap a).tmod (8 : Int))) = false → conjP [(8 = 8 ∧ 16 = 16) ∧ (↑y3.1.2.1.2.2.length : Int) < (17592186044416 : Int)])) (
                                         .fork ((Pl.ownerR (tab 8 y3.1.1 (0 : Int), y3.1.2.1, tab 16 y3.1.2.2 ((0 : Int), (0 : Int))) (10 : Int) != if IntKind.i64.wrap ((IntKind.u64.wrap b).tmod (8 : Int)) > IntKind.i64.wrap ((IntKind.u64.wrap a).tmod (8 : Int)) then IntKind.i64.wrap ((IntKind.u64.wrap b).tmod (8 : Int)) else IntKind.i64.wrap ((IntKind.u64.wrap a).tmod (8 : Int))) || Pl.targetR (tab 8 y3.1.1 (0 : Int), y3.1.2.1, tab 16 y3.1.2.2 ((0 : Int), (0 : Int))) (10 : Int) != (-1 : Int)) (
                                          .leaf ((false, ()))) (
                                          .req (((8 = 8 ∧ 16 = 16) ∧ (↑y3.1.2.1.2.2.length : Int) < (17592186044416 : Int)) ∧ ((Pl.ownerR (tab 8 y3.1.1 (0 : Int), y3.1.2.1, tab 16 y3.1.2.2 ((0 : Int), (0 : Int))) (11 : Int) != if IntKind.i64.wrap ((IntKind.u64.wrap b).tmod (8 : Int)) > IntKind.i64.wrap ((IntKind.u64.wrap a).tmod (8 : Int)) then IntKind.i64.wrap ((IntKind.u64.wrap b).tmod (8 : Int)) else IntKind.i64.wrap ((IntKind.u64.wrap a).tmod (8 : Int))) = false → conjP [(8 = 8 ∧ 16 = 16) ∧ (↑y3.1.2.1.2.2.length : Int) < (17592186044416 : Int)])) (
                                           .fork ((Pl.ownerR (tab 8 y3.1.1 (0 : Int), y3.1.2.1, tab 16 y3.1.2.2 ((0 : Int), (0 : Int))) (11 : Int) != if IntKind.i64.wrap ((IntKind.u64.wrap b).tmod (8 : Int)) > IntKind.i64.wrap ((IntKind.u64.wrap a).tmod (8 : Int)) then IntKind.i64.wrap ((IntKind.u64.wrap b).tmod (8 : Int)) else IntKind.i64.wrap ((IntKind.u64.wrap a).tmod (8 : Int))) || Pl.targetR (tab 8 y3.1.1 (0 : Int), y3.1.2.1, tab 16 y3.1.2.2 ((0 : Int), (0 : Int))) (11 : Int) != (-1 : Int)) (
                                            .leaf ((false, ()))) (
                                            .req (((8 = 8 ∧ 16 = 16) ∧ (↑y3.1.2.1.2.2.length : Int) < (17592186044416 : Int)) ∧ ((Pl.ownerR (tab 8 y3.1.1 (0 : Int), y3.1.2.1, tab 16 y3.1.2.2 ((0 : Int), (0 : Int))) (12 : Int) != if IntKind.i64.wrap ((IntKind.u64.wrap b).tmod (8 : Int)) > IntKind.i64.wrap ((IntKind.u64.wrap a).tmod (8 : Int)) then IntKind.i64.wrap ((IntKind.u64.wrap b).tmod (8 : Int)) else IntKind.i64.wrap ((IntKind.u64.wrap a).tmod (8 : Int))) = false → conjP [(8 = 8 ∧ 16 = 16) ∧ (↑y3.1.2.1.2.2.length : Int) < (17592186044416 : Int)])) (
                                             .fork ((Pl.ownerR (tab 8 y3.1.1 (0 : Int), y3.1.2.1, tab 16 y3.1.2.2 ((0 : Int), (0 : Int))) (12 : Int) != if IntKind.i64.wrap ((IntKind.u64.wrap b).tmod (8 : Int)) > IntKind.i64.wrap ((IntKind.u64.wrap a).tmod (8 : Int)) then IntKind.i64.wrap ((IntKind.u64.wrap b).tmod (8 : Int)) else IntKind.i64.wrap ((IntKind.u64.wrap a).tmod (8 : Int))) || Pl.targetR (tab 8 y3.1.1 (0 : Int), y3.1.2.1, tab 16 y3.1.2.2 ((0 : Int), (0 : Int))) (12 : Int) != (-1 : Int)) (
                                              .leaf ((false, ()))) (
                                              .req (((8 = 8 ∧ 16 = 16) ∧ (↑y3.1.2.1.2.2.length : Int) < (17592186044416 : Int)) ∧ ((Pl.ownerR (tab 8 y3.1.1 (0 : Int), y3.1.2.1, tab 16 y3.1.2.2 ((0 : Int), (0 : Int))) (13 : Int) != if IntKind.i64.wrap ((IntKind.u64.wrap b).tmod (8 : Int)) > IntKind.i64.wrap ((IntKind.u64.wrap a).tmod (8 : Int)) then IntKind.i64.wrap ((IntKind.u64.wrap b).tmod (8 : Int)) else IntKind.i64.wrap ((IntKind.u64.wrap a).tmod (8 : Int))) = false → conjP [(8 = 8 ∧ 16 = 16) ∧ (↑y3.1.2.1.2.2.length : Int) < (17592186044416 : Int)])) (
                                               .fork ((Pl.ownerR (tab 8 y3.1.1 (0 : Int), y3.1.2.1, tab 16 y3.1.2.2 ((0 : Int), (0 : Int))) (13 : Int) != if IntKind.i64.wrap ((IntKind.u64.wrap b).tmod (8 : Int)) > IntKind.i64.wrap ((IntKind.u64.wrap a).tmod (8 : Int)) then IntKind.i64.wrap ((IntKind.u64.wrap b).tmod (8 : Int)) else IntKind.i64.wrap ((IntKind.u64.wrap a).tmod (8 : Int))) || Pl.targetR (tab 8 y3.1.1 (0 : Int), y3.1.2.1, tab 16 y3.1.2.2 ((0 : Int), (0 : Int))) (13 : Int) != (-1 : Int)) (
                                                .leaf ((false, ()))) (
                                                .req (((8 = 8 ∧ 16 = 16) ∧ (↑y3.1.2.1.2.2.length : Int) < (17592186044416 : Int)) ∧ ((Pl.ownerR (tab 8 y3.1.1 (0 : Int), y3.1.2.1, tab 16 y3.1.2.2 ((0 : Int), (0 : Int))) (14 : Int) != if IntKind.i64.wrap ((IntKind.u64.wrap b).tmod (8 : Int)) > IntKind.i64.wrap ((IntKind.u64.wrap a).tmod (8 : Int)) then IntKind.i64.wrap ((IntKind.u64.wrap b).tmod (8 : Int)) else IntKind.i64.wrap ((IntKind.u64.wrap a).tmod (8 : Int))) = false → conjP [(8 = 8 ∧ 16 = 16) ∧ (↑y3.1.2.1.2.2.length : Int) < (17592186044416 : Int)])) (
                                                 .fork ((Pl.ownerR (tab 8 y3.1.1 (0 : Int), y3.1.2.1, tab 16 y3.1.2.2 ((0 : Int), (0 : Int))) (14 : Int) != if IntKind.i64.wrap ((IntKind.u64.wrap b).tmod (8 : Int)) > IntKind.i64.wrap ((IntKind.u64.wrap a).tmod (8 : Int)) then IntKind.i64.wrap ((IntKind.u64.wrap b).tmod (8 : Int)) else IntKind.i64.wrap ((IntKind.u64.wrap a).tmod (8 : Int))) || Pl.targetR (tab 8 y3.1.1 (0 : Int), y3.1.2.1, tab 16 y3.1.2.2 ((0 : Int), (0 : Int))) (14 : Int) != (-1 : Int)) (
                                                  .leaf ((false, ()))) (
                                                  .req (((8 = 8 ∧ 16 = 16) ∧ (↑y3.1.2.1.2.2.length : Int) < (17592186044416 : Int)) ∧ ((Pl.ownerR (tab 8 y3.1.1 (0 : Int), y3.1.2.1, tab 16 y3.1.2.2 ((0 : Int), (0 : Int))) (15 : Int) != if IntKind.i64.wrap ((IntKind.u64.wrap b).tmod (8 : Int)) > IntKind.i64.wrap ((IntKind.u64.wrap a).tmod (8 : Int)) then IntKind.i64.wrap ((IntKind.u64.wrap b).tmod (8 : Int)) else IntKind.i64.wrap ((IntKind.u64.wrap a).tmod (8 : Int))) = false → conjP [(8 = 8 ∧ 16 = 16) ∧ (↑y3.1.2.1.2.2.length : Int) < (17592186044416 : Int)])) (
                                                   .fork ((Pl.ownerR (tab 8 y3.1.1 (0 : Int), y3.1.2.1, tab 16 y3.1.2.2 ((0 : Int), (0 : Int))) (15 : Int) != if IntKind.i64.wrap ((IntKind.u64.wrap b).tmod (8 : Int)) > IntKind.i64.wrap ((IntKind.u64.wrap a).tmod (8 : Int)) then IntKind.i64.wrap ((IntKind.u64.wrap b).tmod (8 : Int)) else IntKind.i64.wrap ((IntKind.u64.wrap a).tmod (8 : Int))) || Pl.targetR (tab 8 y3.1.1 (0 : Int), y3.1.2.1, tab 16 y3.1.2.2 ((0 : Int), (0 : Int))) (15 : Int) != (-1 : Int)) (
                                                    .leaf ((false, ()))) (
                                                    .req (True) (
                                                     .lt [(Ty.rep 8 (Ty.int IntKind.i64)).cat
    (((Ty.int IntKind.i64).cat ((Ty.int IntKind.i64).cat (Ty.int IntKind.i64).slice)).cat
      (Ty.rep 16 ((Ty.int IntKind.i64).cat (Ty.int IntKind.i64)))),
  Ty.bool] (((Pl.firstR (IntKind.i64.wrap ((8 : Int) + IntKind.i64.wrap ((IntKind.u64.wrap a).tmod (8 : Int))))).1, (Pl.firstR (IntKind.i64.wrap ((8 : Int) + IntKind.i64.wrap ((IntKind.u64.wrap a).tmod (8 : Int))))).2, ())) (fun (y4 : (List Int × (Int × Int × List Int) × List (Int × Int)) × Bool × PUnit) => (
                                                      .req ((!y4.2.1) = true → conjP [(8 = 8 ∧ 16 = 16) ∧ (8 = 8 ∧ 16 = 16) ∧ (↑y1.1.2.1.2.2.length : Int) < (17592186044416 : Int) ∧ (↑y2.1.2.1.2.2.length : Int) < (17592186044416 : Int), (Pl.sameR (tab 8 y1.1.1 (0 : Int), y1.1.2.1, tab 16 y1.1.2.2 ((0 : Int), (0 : Int))) (tab 8 y2.1.1 (0 : Int), y2.1.2.1, tab 16 y2.1.2.2 ((0 : Int), (0 : Int))) == (IntKind.i64.wrap ((IntKind.u64.wrap a).tmod (8 : Int)) == IntKind.i64.wrap ((IntKind.u64.wrap b).tmod (8 : Int)))) = true → conjP [(8 = 8 ∧ 16 = 16) ∧ (↑y3.1.2.1.2.2.length : Int) < (17592186044416 : Int), Pl.mayR (tab 8 y3.1.1 (0 : Int), y3.1.2.1, tab 16 y3.1.2.2 ((0 : Int), (0 : Int))) = true → conjP [True]]]) (
                                                       .leaf ((!y4.2.1 && (Pl.sameR (tab 8 y1.1.1 (0 : Int), y1.1.2.1, tab 16 y1.1.2.2 ((0 : Int), (0 : Int))) (tab 8 y2.1.1 (0 : Int), y2.1.2.1, tab 16 y2.1.2.2 ((0 : Int), (0 : Int))) == (IntKind.i64.wrap ((IntKind.u64.wrap a).tmod (8 : Int)) == IntKind.i64.wrap ((IntKind.u64.wrap b).tmod (8 : Int))) && (Pl.mayR (tab 8 y3.1.1 (0 : Int), y3.1.2.1, tab 16 y3.1.2.2 ((0 : Int), (0 : Int))) && true)), ()))))))))))))))))))))))))))))))))))))))))))))))))))))))))))))) : Tree (Bool × PUnit)) := by kernel_rfl
theorem eta3 {r : RingD} : (r.1, r.2.1, r.2.2) = r := rfl
def fst8 (a : Int) : RingD := (firstR a).1
def jn8 (a b : Int) : RingD := joinR (fst8 a) (fst8 b)
def chkF (a b : Int) : Bool :=
  (firstR a).2 && ((firstR b).2 && (mayR (jn8 a b) && (((jn8 a b).1.getD a.toNat 0 == 2) && (((jn8 a b).1.getD b.toNat 0 == 2) && (((moveR (jn8 a b) a).length == 0) &&
  ((List.range 16).all (fun k => (ownerR (jn8 a b) (k : Int) == if b > a then b else a) && (targetR (jn8 a b) (k : Int) == -1)) && ((sameR (fst8 a) (fst8 b) == (a == b)) && (((jn8 a b).2.1.2.2.length == 0) && (((fst8 a).2.1.2.2.length == 0) &&
  (((fst8 b).2.1.2.2.length == 0) && ((!(firstR (8 + a)).2) && ((fst8 a).1.length == 8 && ((fst8 a).2.2.length == 16 && ((fst8 b).1.length == 8 && (fst8 b).2.2.length == 16))))))))))))))
theorem chkF_all : ∀ a b : Fin 8, chkF ((a.val : Nat) : Int) ((b.val : Nat) : Int) = true := by decide +kernel
theorem firsts_t (a b : Int) : (fnT VF [] 100 Try.f7 [i64, i64] [.bool] (a, b, ())).all fun y => y = (true, ()) := by
  refine Tree.all_eq (tRF a b) ?_
  show Tree.all (α := Bool × Unit) _ Yes
  obtain ⟨u, eu, u0, u1⟩ := umod a 8 (by omega) (by omega)
  obtain ⟨v, ev, v0, v1⟩ := umod b 8 (by omega) (by omega)
  rw [eu, ev]
  have hc := chkF_all ⟨u.toNat, by omega⟩ ⟨v.toNat, by omega⟩
  simp only [show ((u.toNat : Nat) : Int) = u by omega, show ((v.toNat : Nat) : Int) = v by omega] at hc
  unfold chkF at hc
  simp only [Bool.and_eq_true, beq_iff_eq, List.all_eq_true, List.mem_range, Bool.not_eq_true'] at hc
  obtain ⟨k1, k2, k3, k4, k5, k6, k7, k8, k9, k10, k11, k12, k13, k14, k15, k16⟩ := hc
  have ho : okR (fst8 u) := ⟨k13, k14⟩
  have hp : okR (fst8 v) := ⟨k15, k16⟩
  have hO : ∀ k : Int, 0 ≤ k → k < 16 → ownerR (jn8 u v) k = if v > u then v else u := fun k h0 h1 => by
    have := (k7 k.toNat (by omega)).1
    rwa [show ((k.toNat : Nat) : Int) = k by omega] at this
  have hT : ∀ k : Int, 0 ≤ k → k < 16 → targetR (jn8 u v) k = -1 := fun k h0 h1 => by
    have := (k7 k.toNat (by omega)).2
    rwa [show ((k.toNat : Nat) : Int) = k by omega] at this
  have hj : okR (jn8 u v) := joinR_ok _ _
  have e1 : (firstR u).1 = fst8 u := rfl
  have e2 : (firstR v).1 = fst8 v := rfl
  have e3 : joinR (fst8 u) (fst8 v) = jn8 u v := rfl
  simp only [all_leaf, all_fork, all_req, all_lt, yes_t, yes_f, yes_iff, e1, e2, tab_r ho, tab_r hp, e3, tab_eq hj.1, tab_eq hj.2, eta3, k1, k2, k3, k4, k5, k6, hO, hT, k8, k9, k10, k11, k12, conjP]
  have w : IntKind.i64.wrap (8 + u) = 8 + u := IntWalk.i64_in _ (by omega)
  simp [u0, u1, v0, v1, w, k12, hO, hT]

theorem firsts_ok : PureOK Try.prog 7 [i64, i64] [.bool] (fun _ => True) (fun _ => (true, ())) :=
  fn_pure (E := VF) (n := 100) VF_ok Try.func7 bodyRF .nil fun x _ => firsts_t x.1 x.2.1
end Pl
