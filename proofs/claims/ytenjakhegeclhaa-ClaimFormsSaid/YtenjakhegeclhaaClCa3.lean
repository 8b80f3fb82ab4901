import Derived.Test.YtenjakhegeclhaaClCa2
namespace Pl
open Go Sx Go.Proofs Go.RowKit
theorem bodyM64 : Try.f34.body = some (bodyOf Try.f34) := by kernel_rfl
theorem bodyM32 : Try.f33.body = some (bodyOf Try.f33) := by kernel_rfl
theorem bodyMul : Try.f31.body = some (bodyOf Try.f31) := by kernel_rfl
theorem bodyRep : Try.f23.body = some (bodyOf Try.f23) := by kernel_rfl
noncomputable abbrev D1 : Ex := mkEx Try.prog [(34, fnI E0 [] 100 Try.f34), (33, fnI E0 [] 100 Try.f33)]
theorem D1_ok : D1.Sound := mkEx_sound ⟨fnI_ok (E := E0) E0_ok Try.func34 bodyM64 .nil, fnI_ok (E := E0) E0_ok Try.func33 bodyM32 .nil, trivial⟩
noncomputable abbrev D2 : Ex := mkExC Try.prog [(31, fnI D1 [] 100 Try.f31)]
theorem D2_ok : D2.Sound := mkExC_sound ⟨fnI_ok (E := D1) D1_ok Try.func31 bodyMul .nil, trivial⟩
noncomputable def repSp : Sx.Spec := concSp 1 1 8 (fnI D2 [] 100 Try.f23)
theorem repSp_ok : SpecOK Try.prog 23 repSp := concSp_ok (fnI_ok (E := D2) D2_ok Try.func23 bodyRep .nil)
theorem tRp (e n : Int) : @Eq _
  (((repSp [.one (.sub 0 0 1 1), .one (.int .i64 n)] [(0, .blk [.int .i64 e])] 1).getD (.fail "x")).bind fun d => .leaf (d.next))
  (.fork (decide (n = (1 : Int))) (
 .req ((0 : Int) ≤ (32 : Int)) (
  .req ((0 : Int) ≤ (32 : Int)) (
   .req ((0 : Int) ≤ (32 : Int)) (
    .req ((0 : Int) ≤ (32 : Int)) (
     .req ((0 : Int) ≤ (32 : Int)) (
      .leaf (2))))))) (
 .fork (decide (n = (2 : Int))) (
  .req ((0 : Int) ≤ (32 : Int)) (
   .req ((0 : Int) ≤ (32 : Int)) (
    .req ((0 : Int) ≤ (32 : Int)) (
     .req ((0 : Int) ≤ (32 : Int)) (
      .req ((0 : Int) ≤ (32 : Int)) (
       .leaf (2))))))) (
  .fork (decide (n = (3 : Int))) (
   .req ((0 : Int) ≤ (32 : Int)) (
    .req ((0 : Int) ≤ (32 : Int)) (
     .req ((0 : Int) ≤ (32 : Int)) (
      .req ((0 : Int) ≤ (32 : Int)) (
       .req ((0 : Int) ≤ (32 : Int)) (
        .leaf (2))))))) (
   .fork (decide (n = (4 : Int))) (
    .req ((0 : Int) ≤ (32 : Int)) (
     .req ((0 : Int) ≤ (32 : Int)) (
      .req ((0 : Int) ≤ (32 : Int)) (
       .req ((0 : Int) ≤ (32 : Int)) (
        .req ((0 : Int) ≤ (32 : Int)) (
         .leaf (2))))))) (
    .fork (decide (n = (5 : Int))) (
     .req ((0 : Int) ≤ (32 : Int)) (
      .req ((0 : Int) ≤ (32 : Int)) (
       .req ((0 : Int) ≤ (32 : Int)) (
        .req ((0 : Int) ≤ (32 : Int)) (
         .req ((0 : Int) ≤ (32 : Int)) (
          .leaf (2))))))) (
     .fork (decide (n = (6 : Int))) (
      .req ((0 : Int) ≤ (32 : Int)) (
       .req ((0 : Int) ≤ (32 : Int)) (
        .req ((0 : Int) ≤ (32 : Int)) (
         .req ((0 : Int) ≤ (32 : Int)) (
          .req ((0 : Int) ≤ (32 : Int)) (
           .leaf (2))))))) (
      .fork (decide (n = (7 : Int))) (
       .req ((0 : Int) ≤ (32 : Int)) (
        .req ((0 : Int) ≤ (32 : Int)) (
         .req ((0 : Int) ≤ (32 : Int)) (
          .req ((0 : Int) ≤ (32 : Int)) (
           .req ((0 : Int) ≤ (32 : Int)) (
            .leaf (2))))))) (
       .fork (decide (n = (8 : Int))) (
        .req ((0 : Int) ≤ (32 : Int)) (
         .req ((0 : Int) ≤ (32 : Int)) (
          .req ((0 : Int) ≤ (32 : Int)) (
           .req ((0 : Int) ≤ (32 : Int)) (
            .req ((0 : Int) ≤ (32 : Int)) (
             .leaf (2))))))) (
        .fail "no such number")))))))) : Tree (Nat)) := by kernel_rfl
end Pl
