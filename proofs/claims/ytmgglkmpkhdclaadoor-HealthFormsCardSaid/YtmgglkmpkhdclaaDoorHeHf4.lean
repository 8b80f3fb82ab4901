import Derived.Test.YtmgglkmpkhdclaaDoorHeHf3
namespace Pl
open Go Sx Go.Proofs Go.RowKit
theorem rb1 : Tryd.f12.body = some (bodyOf Tryd.f12) := by kernel_rfl
theorem rb2 : Tryd.f26.body = some (bodyOf Tryd.f26) := by kernel_rfl
theorem rb3 : Tryd.f17.body = some (bodyOf Tryd.f17) := by kernel_rfl
theorem rb4 : Tryd.f25.body = some (bodyOf Tryd.f25) := by kernel_rfl
noncomputable abbrev U1 : Ex := mkExM Tryd.prog [(12, fnI E0 [] 100 Tryd.f12), (26, fnI E0 [] 100 Tryd.f26)]
theorem U1_ok : U1.Sound := mkExM_sound ⟨fnI_ok (E := E0) E0_ok Tryd.func12 rb1 .nil, fnI_ok (E := E0) E0_ok Tryd.func26 rb2 .nil, trivial⟩
theorem rtM (c : ClaimD) : @Eq _
  (fnT U1 [] 100 Tryd.f17 [Claim] [.bool] (c, ()))
  (.fork (decide (c.1 ≥ (0 : Int))) (
 .fork (decide (c.1 < (8 : Int))) (
  .fork (c.2.1 == (0 : Int)) (
   .fork (c.2.2 == (0 : Int)) (
    .leaf ((true, ()))) (
    .fork (decide (c.2.1 ≥ (0 : Int))) (
     .fork (decide (c.2.1 ≤ (1000000 : Int))) (
      .fork (decide (c.2.2 ≥ (1 : Int))) (
       .leaf ((decide (c.2.2 ≤ (4 : Int)), ()))) (
       .leaf ((false, ())))) (
      .leaf ((false, ())))) (
     .leaf ((false, ()))))) (
   .fork (decide (c.2.1 ≥ (0 : Int))) (
    .fork (decide (c.2.1 ≤ (1000000 : Int))) (
     .fork (decide (c.2.2 ≥ (1 : Int))) (
      .leaf ((decide (c.2.2 ≤ (4 : Int)), ()))) (
      .leaf ((false, ())))) (
     .leaf ((false, ())))) (
    .leaf ((false, ()))))) (
  .leaf ((false, ())))) (
 .leaf ((false, ()))) : Tree (Bool × PUnit)) := by kernel_rfl
noncomputable abbrev U2 : Ex := mkExM Tryd.prog [(25, fnI E0 [] 100 Tryd.f25)]
theorem U2_ok : U2.Sound := mkExM_sound ⟨fnI_ok (E := E0) E0_ok Tryd.func25 rb4 .nil, trivial⟩
theorem rtC (a b : ClaimD) : @Eq _
  (fnT U2 [] 100 Tryd.f16 [Claim, Claim] [i64] (a, b, ()))
  (.req (True) (
 .fork (a.2.2 == (4 : Int) && b.2.2 == (4 : Int)) (
  .leaf (((0 : Int), ()))) (
  .fork (a.2.2 == (4 : Int)) (
   .leaf (((1 : Int), ()))) (
   .fork (b.2.2 == (4 : Int)) (
    .leaf (((-1 : Int), ()))) (
    .fork (a.2.1 != b.2.1) (
     .req (True) (
      .leaf ((bif decide (a.2.1 < b.2.1) then (-1 : Int) else bif decide (a.2.1 > b.2.1) then (1 : Int) else (0 : Int), ())))) (
     .req (True) (
      .leaf ((bif decide (a.2.2 < b.2.2) then (-1 : Int) else bif decide (a.2.2 > b.2.2) then (1 : Int) else (0 : Int), ())))))))) : Tree (Int × PUnit)) := by kernel_rfl
abbrev KrMy : Nat × Sx.Spec := (17, pureSp [Claim] [.bool] (fun _ => True) (fun x => (mayC x.1, ())))
noncomputable abbrev U3 : Ex := mkExM Tryd.prog [KrMy, (12, fnI E0 [] 100 Tryd.f12)]
theorem rtR (s i : Int) (c : ClaimD) : @Eq _
  (fnT U3 [] 100 Tryd.f15 [i64, i64, Claim] [i64, i64] (s, i, c, ()))
  (.req (decide (s ≥ (0 : Int)) = true → conjP [(!decide (s < (8 : Int))) = false → conjP [decide (i < (0 : Int)) = false → conjP [decide (i > (1000000 : Int)) = false → conjP [True]]]]) (
 .fork (!decide (s ≥ (0 : Int)) || (!decide (s < (8 : Int)) || (decide (i < (0 : Int)) || (decide (i > (1000000 : Int)) || !Pl.mayC c)))) (
  .leaf (((0 : Int), (1 : Int), ()))) (
  .req (True) (
   .fork (c.1 != s || bif c.2.2 != (2 : Int) then c.2.2 != (3 : Int) || decide (c.2.1 < i) else decide (c.2.1 < i)) (
    .leaf ((i, (0 : Int), ()))) (
    .fork (c.2.1 == (1000000 : Int)) (
     .leaf ((i, (6 : Int), ()))) (
     .leaf ((IntKind.i64.wrap (c.2.1 + (1 : Int)), (0 : Int), ()))))))) : Tree (Int × Int × PUnit)) := by kernel_rfl
noncomputable abbrev U4 : Ex := mkExM Tryd.prog [KrMy, KiW]
theorem rtT (c : ClaimD) : @Eq _
  (fnTW 0 pow10V U4 [] 100 Tryd.f19 [Claim] [.str] (c, ()))
  (.req (True) (
 .fork (!Pl.mayC c) (
  .leaf (((ByteArray.mk (Array.mk ([] : List UInt8))), ()))) (
  .req (Pl.pow10V = Pl.pow10V) (
   .req ((-9223372036854775808 : Int) ≤ c.1 ∧ c.1 ≤ (9223372036854775807 : Int)) (
    .req ((↑((Pl.itoaB c.1).size + 1) : Int) ≤ (9223372036854775807 : Int)) (
     .fork (c.2.2 == (0 : Int)) (
      .req ((↑((Pl.itoaB c.1 ++ (ByteArray.mk (Array.mk [58]))).size + 1) : Int) ≤ (9223372036854775807 : Int)) (
       .leaf ((Pl.itoaB c.1 ++ (ByteArray.mk (Array.mk [58])) ++ (ByteArray.mk (Array.mk [45])), ())))) (
      .fork (c.2.2 == (1 : Int)) (
       .req ((↑((Pl.itoaB c.1 ++ (ByteArray.mk (Array.mk [58]))).size + 6) : Int) ≤ (9223372036854775807 : Int)) (
        .req (Pl.pow10V = Pl.pow10V) (
         .req ((-9223372036854775808 : Int) ≤ c.2.1 ∧ c.2.1 ≤ (9223372036854775807 : Int)) (
          .req ((↑((Pl.itoaB c.1 ++ (ByteArray.mk (Array.mk [58])) ++ (ByteArray.mk (Array.mk [97, 108, 105, 118, 101, 64]))).size + (Pl.itoaB c.2.1).size) : Int) ≤ (9223372036854775807 : Int)) (
           .leaf ((Pl.itoaB c.1 ++ (ByteArray.mk (Array.mk [58])) ++ (ByteArray.mk (Array.mk [97, 108, 105, 118, 101, 64])) ++ Pl.itoaB c.2.1, ()))))))) (
       .fork (c.2.2 == (2 : Int)) (
        .req ((↑((Pl.itoaB c.1 ++ (ByteArray.mk (Array.mk [58]))).size + 8) : Int) ≤ (9223372036854775807 : Int)) (
         .req (Pl.pow10V = Pl.pow10V) (
          .req ((-9223372036854775808 : Int) ≤ c.2.1 ∧ c.2.1 ≤ (9223372036854775807 : Int)) (
           .req ((↑((Pl.itoaB c.1 ++ (ByteArray.mk (Array.mk [58])) ++ (ByteArray.mk (Array.mk [115, 117, 115, 112, 101, 99, 116, 64]))).size + (Pl.itoaB c.2.1).size) : Int) ≤ (9223372036854775807 : Int)) (
            .leaf ((Pl.itoaB c.1 ++ (ByteArray.mk (Array.mk [58])) ++ (ByteArray.mk (Array.mk [115, 117, 115, 112, 101, 99, 116, 64])) ++ Pl.itoaB c.2.1, ()))))))) (
        .fork (c.2.2 == (3 : Int)) (
         .req ((↑((Pl.itoaB c.1 ++ (ByteArray.mk (Array.mk [58]))).size + 5) : Int) ≤ (9223372036854775807 : Int)) (
          .req (Pl.pow10V = Pl.pow10V) (
           .req ((-9223372036854775808 : Int) ≤ c.2.1 ∧ c.2.1 ≤ (9223372036854775807 : Int)) (
            .req ((↑((Pl.itoaB c.1 ++ (ByteArray.mk (Array.mk [58])) ++ (ByteArray.mk (Array.mk [100, 101, 97, 100, 64]))).size + (Pl.itoaB c.2.1).size) : Int) ≤ (9223372036854775807 : Int)) (
             .leaf ((Pl.itoaB c.1 ++ (ByteArray.mk (Array.mk [58])) ++ (ByteArray.mk (Array.mk [100, 101, 97, 100, 64])) ++ Pl.itoaB c.2.1, ()))))))) (
         .req ((↑((Pl.itoaB c.1 ++ (ByteArray.mk (Array.mk [58]))).size + 4) : Int) ≤ (9223372036854775807 : Int)) (
          .leaf ((Pl.itoaB c.1 ++ (ByteArray.mk (Array.mk [58])) ++ (ByteArray.mk (Array.mk [108, 101, 102, 116])), ())))))))))))) : Tree (ByteArray × PUnit)) := by kernel_rfl
end Pl
