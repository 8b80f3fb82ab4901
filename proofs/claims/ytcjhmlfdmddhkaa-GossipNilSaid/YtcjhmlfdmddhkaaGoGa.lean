import Derived.Test.YtcjhmlfdmddhkaaGoRlp
import Derived.Test.YtcjhmlfdmddhkaaGoPlC
import Derived.Test.YtcjhmlfdmddhkaaSx32
namespace Pl
open Go Sx Go.Proofs Go.RowKit
abbrev Call : Ty := .cat i64 (.cat i64 (.cat Ring (.cat ints (.int .u64))))
abbrev CallD : Type := Int × Int × RingD × List Int × Int
abbrev KClo : Nat × Sx.Spec := (40, ownSp [ints] [ints] (fun x => (List.length (α := Int) x.1 : Int) < 17592186044416) (fun x => (x.1, ())))
theorem gbI : Try.f62.body = some (bodyOf Try.f62) := by kernel_rfl
theorem gbC : Try.f44.body = some (bodyOf Try.f44) := by kernel_rfl
theorem gbN1 : Try.f43.body = some (bodyOf Try.f43) := by kernel_rfl
theorem gbF : Try.f61.body = some (bodyOf Try.f61) := by kernel_rfl
theorem gbB : Try.f41.body = some (bodyOf Try.f41) := by kernel_rfl
theorem gbD : Try.f42.body = some (bodyOf Try.f42) := by kernel_rfl
theorem gbS : Try.f45.body = some (bodyOf Try.f45) := by kernel_rfl
theorem gbn : Try.f25.body = some (bodyOf Try.f25) := by kernel_rfl
theorem gbNx : Try.f27.body = some (bodyOf Try.f27) := by kernel_rfl
theorem gbPN : Try.f26.body = some (bodyOf Try.f26) := by kernel_rfl
theorem gbK : Try.f16.body = some (bodyOf Try.f16) := by kernel_rfl
theorem gbNd : Try.f17.body = some (bodyOf Try.f17) := by kernel_rfl
theorem gbNw : Try.f10.body = some (bodyOf Try.f10) := by kernel_rfl
theorem gbT : Try.f12.body = some (bodyOf Try.f12) := by kernel_rfl
theorem gbH : Try.f14.body = some (bodyOf Try.f14) := by kernel_rfl
theorem gbFR : Try.f23.body = some (bodyOf Try.f23) := by kernel_rfl
noncomputable abbrev g0 : Ex := mkExM Try.prog [(62, fnI E0 [] 100 Try.f62)]
noncomputable abbrev g1 : Ex := mkExM Try.prog [(44, fnI g0 [] 100 Try.f44), KClo]
noncomputable abbrev g1b : Ex := mkExM Try.prog [(43, fnI g1 [] 100 Try.f43)]
noncomputable abbrev g1c : Ex := mkExM Try.prog [(43, fnI g1 [] 100 Try.f43), (61, fnI g1b [] 100 Try.f61)]
noncomputable abbrev g2 : Ex := mkExM Try.prog [(41, fnI g1 [] 100 Try.f41), (42, fnI g1c [] 100 Try.f42), (45, fnI g1 [] 100 Try.f45), (43, fnI g1 [] 100 Try.f43)]
noncomputable abbrev g3 : Ex := mkExM Try.prog [(25, fnI E0 [] 100 Try.f25), KrJL, KrB, KrM, KrS, (27, fnI g2 [] 100 Try.f27), (26, fnI E0 [] 100 Try.f26)]
noncomputable abbrev g4 : Ex := mkExM Try.prog [(25, fnI E0 [] 100 Try.f25), KrJL, KrB, KrM, KrS, (27, fnI g2 [] 100 Try.f27), (26, fnI E0 [] 100 Try.f26), (16, concD 1 0 8 (fnI g3 [] 100 Try.f16))]
noncomputable abbrev g6 : Ex := mkExM Try.prog [(17, fnI E0 [] 100 Try.f17)]
noncomputable abbrev g5 : Ex := mkExM Try.prog [(10, fnI g4 [] 100 Try.f10), (12, fnI g4 [] 100 Try.f12), (14, concD 1 0 8 (fnI g4 [] 100 Try.f14)), (16, concD 1 0 8 (fnI g3 [] 100 Try.f16)), (23, fnI g6 [] 100 Try.f23)]
theorem tAw  : @Eq _
  (cutT <| fnT g5 [] 100 Try.f9 [] [.bool] ())
  (.req (9 ≤ 70368744177664) (
 .req ((0 : Int) ≤ (0 : Int) ∧ (0 : Int) ≤ (1 : Int) ∧ (1 : Int) ≤ (1 : Int)) (
  .req ((1 : Int) < (17592186044416 : Int)) (
   .req ((0 : Int) ≤ (0 : Int) ∧ (0 : Int) < (1 : Int)) (
    .req ((0 : Int) ≤ (0 : Int) ∧ (0 : Int) < (1 : Int)) (
     .req ((0 : Int) ≤ (1 : Int) ∧ (1 : Int) ≤ (1 : Int) ∧ (1 : Int) ≤ (1 : Int)) (
      .req ((8 = 8 ∧ 16 = 16) ∧ (0 : Int) < (17592186044416 : Int)) (
       .req ((8 = 8 ∧ 16 = 16) ∧ (8 = 8 ∧ 16 = 16) ∧ (0 : Int) < (17592186044416 : Int) ∧ (0 : Int) < (17592186044416 : Int)) (
        .req (9 ≤ 70368744177664) (
         .req ((0 : Int) ≤ (0 : Int) ∧ (0 : Int) ≤ (1 : Int) ∧ (1 : Int) ≤ (1 : Int)) (
          .req ((1 : Int) < (17592186044416 : Int)) (
           .req ((0 : Int) ≤ (0 : Int) ∧ (0 : Int) < (1 : Int)) (
            .req ((0 : Int) ≤ (0 : Int) ∧ (0 : Int) < (1 : Int)) (
             .req ((0 : Int) ≤ (1 : Int) ∧ (1 : Int) ≤ (1 : Int) ∧ (1 : Int) ≤ (1 : Int)) (
              .req ((8 = 8 ∧ 16 = 16) ∧ (8 = 8 ∧ 16 = 16) ∧ (0 : Int) < (17592186044416 : Int) ∧ (0 : Int) < (17592186044416 : Int)) (
               .req ((8 = 8 ∧ 16 = 16) ∧ (8 = 8 ∧ 16 = 16) ∧ (0 : Int) < (17592186044416 : Int) ∧ (0 : Int) < (17592186044416 : Int)) (
                .leaf ((true, ())))))))))))))))))) : Tree (Bool × PUnit)) := by kernel_rfl
theorem g0_ok : g0.Sound := mkExM_sound ⟨fnI_ok (E := E0) E0_ok Try.func62 gbI .nil, trivial⟩
theorem bclo : PureOwnOK Try.prog 40 [ints] [ints] (fun x => (List.length (α := Int) x.1 : Int) < 17592186044416) (fun x => (x.1, ())) := clone_fok.own
theorem g1_ok : g1.Sound := mkExM_sound ⟨fnI_ok (E := g0) g0_ok Try.func44 gbC .nil, ownSp_ok bclo, trivial⟩
theorem g1b_ok : g1b.Sound := mkExM_sound ⟨fnI_ok (E := g1) g1_ok Try.func43 gbN1 .nil, trivial⟩
theorem g1c_ok : g1c.Sound := mkExM_sound ⟨fnI_ok (E := g1) g1_ok Try.func43 gbN1 .nil, fnI_ok (E := g1b) g1b_ok Try.func61 gbF .nil, trivial⟩
theorem g2_ok : g2.Sound := mkExM_sound ⟨fnI_ok (E := g1) g1_ok Try.func41 gbB .nil, fnI_ok (E := g1c) g1c_ok Try.func42 gbD .nil, fnI_ok (E := g1) g1_ok Try.func45 gbS .nil, fnI_ok (E := g1) g1_ok Try.func43 gbN1 .nil, trivial⟩
theorem g3_ok : g3.Sound := mkExM_sound ⟨fnI_ok (E := E0) E0_ok Try.func25 gbn .nil, pureSpL_ok rjoin_ok, pureSp_ok rbelow_ok, pureSp_ok rmay_ok, pureSp_ok rsame_ok, fnI_ok (E := g2) g2_ok Try.func27 gbNx .nil, fnI_ok (E := E0) E0_ok Try.func26 gbPN .nil, trivial⟩
theorem gkn_ok : SpecOK Try.prog 16 (concD 1 0 8 (fnI g3 [] 100 Try.f16)) := concD_ok (fnI_ok (E := g3) g3_ok Try.func16 gbK .nil)
theorem g4_ok : g4.Sound := mkExM_sound ⟨fnI_ok (E := E0) E0_ok Try.func25 gbn .nil, pureSpL_ok rjoin_ok, pureSp_ok rbelow_ok, pureSp_ok rmay_ok, pureSp_ok rsame_ok, fnI_ok (E := g2) g2_ok Try.func27 gbNx .nil, fnI_ok (E := E0) E0_ok Try.func26 gbPN .nil, gkn_ok, trivial⟩
theorem ghe_ok : SpecOK Try.prog 14 (concD 1 0 8 (fnI g4 [] 100 Try.f14)) := concD_ok (fnI_ok (E := g4) g4_ok Try.func14 gbH .nil)
theorem g6_ok : g6.Sound := mkExM_sound ⟨fnI_ok (E := E0) E0_ok Try.func17 gbNd .nil, trivial⟩
theorem g5_ok : g5.Sound := mkExM_sound ⟨fnI_ok (E := g4) g4_ok Try.func10 gbNw .nil, fnI_ok (E := g4) g4_ok Try.func12 gbT .nil, ghe_ok, gkn_ok, fnI_ok (E := g6) g6_ok Try.func23 gbFR .nil, trivial⟩
theorem aw_ok : PureOK Try.prog 9 [] [.bool] (fun _ => True) (fun _ => (true, ())) :=
  fn_pure (E := g5) (n := 100) g5_ok Try.func9 (by kernel_rfl) .nil fun x _ => by
    refine cut_all (Tree.all_eq tAw ?_)
    show Tree.all (α := Bool × Unit) _ (fun y => y = (true, ()))
    simp [Tree.all]
end Pl
