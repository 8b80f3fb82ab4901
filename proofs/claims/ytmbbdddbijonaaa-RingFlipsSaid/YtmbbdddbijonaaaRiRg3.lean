import Derived.Test.YtmbbdddbijonaaaRiRg2
namespace Pl
open Go Sx Go.Proofs Go.RowKit
abbrev KrJ : Nat × Sx.Spec := (10, pureSp [Ring, Ring] [Ring] S2r (fun x => (joinR x.1 x.2.1, ())))
abbrev KrS : Nat × Sx.Spec := (11, pureSp [Ring, Ring] [.bool] S2r (fun x => (sameR x.1 x.2.1, ())))
abbrev KrM : Nat × Sx.Spec := (13, pureSp [Ring] [.bool] S1r (fun x => (mayR x.1, ())))
abbrev KrJL : Nat × Sx.Spec := (10, pureSpL [Ring, Ring] [Ring] S2r (fun x => (joinR x.1 x.2.1, ())))
noncomputable abbrev Q7 : Ex := mkEx Try.prog [KrJL, KrS]
theorem Q7_ok : Q7.Sound := mkEx_sound ⟨pureSpL_ok rjoin_ok, pureSp_ok rsame_ok, trivial⟩
theorem bodyB : Try.f12.body = some (bodyOf Try.f12) := by kernel_rfl
theorem tB (a b : RingD) : @Eq _
  (fnT Q7 [] 100 Try.f12 [Ring, Ring] [.bool] (a, b, ()))
  (.req ((8 = 8 ∧ 16 = 16) ∧ (8 = 8 ∧ 16 = 16) ∧ (↑a.2.1.2.2.length : Int) < (17592186044416 : Int) ∧ (↑b.2.1.2.2.length : Int) < (17592186044416 : Int)) (
 .lt [(Ty.rep 8 (Ty.int IntKind.i64)).cat
    (((Ty.int IntKind.i64).cat ((Ty.int IntKind.i64).cat (Ty.int IntKind.i64).slice)).cat
      (Ty.rep 16 ((Ty.int IntKind.i64).cat (Ty.int IntKind.i64))))] ((Pl.joinR (tab 8 a.1 (0 : Int), a.2.1, tab 16 a.2.2 ((0 : Int), (0 : Int))) (tab 8 b.1 (0 : Int), b.2.1, tab 16 b.2.2 ((0 : Int), (0 : Int))), ())) (fun (y1 : (List Int × (Int × Int × List Int) × List (Int × Int)) × PUnit) => (
  .req ((8 = 8 ∧ 16 = 16) ∧ (8 = 8 ∧ 16 = 16) ∧ (↑y1.1.2.1.2.2.length : Int) < (17592186044416 : Int) ∧ (↑b.2.1.2.2.length : Int) < (17592186044416 : Int)) (
   .leaf ((Pl.sameR (tab 8 y1.1.1 (0 : Int), y1.1.2.1, tab 16 y1.1.2.2 ((0 : Int), (0 : Int))) (tab 8 b.1 (0 : Int), b.2.1, tab 16 b.2.2 ((0 : Int), (0 : Int))), ())))))) : Tree (Bool × PUnit)) := by kernel_rfl
theorem bodyN : Try.f30.body = some (bodyOf Try.f30) := by kernel_rfl
abbrev KrN : Nat × Sx.Spec := (30, pureSp [i64] [.bool] (fun _ => True) (fun x => (nodeB x.1, ())))
theorem tN (x : Int) : @Eq _
  (fnT E0 [] 100 Try.f30 [i64] [.bool] (x, ()))
  (.fork (decide (x ≥ (0 : Int))) (
 .leaf ((decide (x < (8 : Int)), ()))) (
 .leaf ((false, ()))) : Tree (Bool × PUnit)) := by kernel_rfl
theorem rnode_ok : PureOK Try.prog 30 [i64] [.bool] (fun _ => True) (fun x => (nodeB x.1, ())) :=
  fn_pure (E := E0) (n := 100) E0_ok Try.func30 bodyN .nil fun x _ => by
    refine Tree.all_eq (tN x.1) ?_
    simp only [Tree.all, decide_eq_true_eq, decide_eq_false_iff_not, nodeB]
    exact ⟨fun c => by simp [c], fun c => by simp [c]⟩
abbrev KpC : Nat × Sx.Spec := (31, pureSp [ints] [ints] (fun x => (List.length (α := Int) x.1 : Int) < small) (fun x => x))
noncomputable abbrev Q8 : Ex := mkEx Try.prog [KrN, KrM, KpC]
theorem Q8_ok : Q8.Sound := mkEx_sound ⟨pureSp_ok rnode_ok, pureSp_ok rmay_ok, pureSp_ok clone_ok, trivial⟩
theorem bodyF : Try.f16.body = some (bodyOf Try.f16) := by kernel_rfl
theorem tF (x : Int) : @Eq _
  (fnT Q8 [] 100 Try.f16 [i64] [Ring, .bool] (x, ()))
  (.req (True) (
 .fork (!Pl.nodeB x) (
  .leaf (((List.replicate 8 (0 : Int), ((0 : Int), (0 : Int), ([] : List Int)), List.replicate 16 ((0 : Int), (0 : Int))), false, ()))) (
  .req ((0 : Int) ≤ x ∧ x < (8 : Int)) (
   .req ((0 : Int) ≤ x ∧ x < (8 : Int)) (
    .leaf (((tabL 8 fun j => bif decide (x = j) then (2 : Int) else (0 : Int), ((0 : Int), (0 : Int), ([] : List Int)), List.replicate 16 ((1 : Int), x)), true, ())))))) : Tree ((List Int × (Int × Int × List Int) × List (Int × Int)) × Bool × PUnit)) := by kernel_rfl
theorem bodyR : Try.f15.body = some (bodyOf Try.f15) := by kernel_rfl
theorem tR (r : RingD) (n s : Int) : @Eq _
  (fnT Q8 [] 100 Try.f15 [Ring, i64, i64] [Ring, i64] (r, n, s, ()))
  (.req ((8 = 8 ∧ 16 = 16) ∧ (↑r.2.1.2.2.length : Int) < (17592186044416 : Int)) (
 .fork (!Pl.mayR (tab 8 r.1 (0 : Int), r.2.1, tab 16 r.2.2 ((0 : Int), (0 : Int)))) (
  .leaf (((List.replicate 8 (0 : Int), ((0 : Int), (0 : Int), ([] : List Int)), List.replicate 16 ((0 : Int), (0 : Int))), (1 : Int), ()))) (
  .req (True) (
   .fork (!Pl.nodeB n) (
    .leaf (((List.replicate 8 (0 : Int), ((0 : Int), (0 : Int), ([] : List Int)), List.replicate 16 ((0 : Int), (0 : Int))), (1 : Int), ()))) (
    .fork (decide (s < (1 : Int))) (
     .leaf (((List.replicate 8 (0 : Int), ((0 : Int), (0 : Int), ([] : List Int)), List.replicate 16 ((0 : Int), (0 : Int))), (1 : Int), ()))) (
     .fork (decide (s > (4 : Int))) (
      .leaf (((List.replicate 8 (0 : Int), ((0 : Int), (0 : Int), ([] : List Int)), List.replicate 16 ((0 : Int), (0 : Int))), (1 : Int), ()))) (
      .req ((0 : Int) ≤ n ∧ n < (8 : Int)) (
       .req ((0 : Int) ≤ n ∧ n < (8 : Int)) (
        .fork (decide ((tab 8 r.1 (0 : Int)).getD n.toNat (0 : Int) ≥ s)) (
         .leaf (((List.replicate 8 (0 : Int), ((0 : Int), (0 : Int), ([] : List Int)), List.replicate 16 ((0 : Int), (0 : Int))), (8 : Int), ()))) (
         .req ((0 : Int) ≤ n ∧ n < (8 : Int)) (
          .req ((0 : Int) ≤ n ∧ n < (8 : Int)) (
           .req ((↑r.2.1.2.2.length : Int) < (17592186044416 : Int)) (
            .leaf (((tabL 8 fun j => bif decide (n = j) then s else r.1.getD j (0 : Int), r.2.1, tab 16 r.2.2 ((0 : Int), (0 : Int))), (0 : Int), ())))))))))))))) : Tree ((List Int × (Int × Int × List Int) × List (Int × Int)) × Int × PUnit)) := by kernel_rfl
theorem bodyP : Try.f32.body = some (bodyOf Try.f32) := by kernel_rfl
noncomputable abbrev Q9 : Ex := mkEx Try.prog [(32, fnI E0 [] 100 Try.f32), KeM, KpM]
theorem Q9_ok : Q9.Sound := mkEx_sound ⟨fnI_ok (E := E0) E0_ok Try.func32 bodyP .nil, pureSp_ok emay_ok, pureSp_ok may_ok, trivial⟩
theorem bodyO : Try.f17.body = some (bodyOf Try.f17) := by kernel_rfl
theorem tO (r : RingD) (p : Int) : @Eq _
  (fnT Q9 [] 100 Try.f17 [Ring, i64] [i64] (r, p, ()))
  (.fork (decide (p ≥ (0 : Int))) (
 .fork (!decide (p < (16 : Int))) (
  .leaf (((-1 : Int), ()))) (
  .req ((0 : Int) ≤ p ∧ p < (16 : Int)) (
   .req ((0 : Int) ≤ p ∧ p < (16 : Int)) (
    .fork ((tabL 16 fun j => (r.2.2.getD j ((0 : Int), (0 : Int))).1).getD p.toNat (0 : Int) == (0 : Int)) (
     .leaf (((-1 : Int), ()))) (
     .req ((0 : Int) ≤ p ∧ p < (16 : Int)) (
      .req ((0 : Int) ≤ p ∧ p < (16 : Int)) (
       .req (True) (
        .fork (!Pl.mayE ((tabL 16 fun j => (r.2.2.getD j ((0 : Int), (0 : Int))).1).getD p.toNat (0 : Int), (tabL 16 fun j => (r.2.2.getD j ((0 : Int), (0 : Int))).2).getD p.toNat (0 : Int))) (
         .leaf (((-1 : Int), ()))) (
         .req ((0 : Int) ≤ p ∧ p < (16 : Int)) (
          .req ((0 : Int) ≤ p ∧ p < (16 : Int)) (
           .leaf (((tabL 16 fun j => (r.2.2.getD j ((0 : Int), (0 : Int))).2).getD p.toNat (0 : Int), ()))))))))))))) (
 .leaf (((-1 : Int), ()))) : Tree (Int × PUnit)) := by kernel_rfl
theorem bodyT : Try.f21.body = some (bodyOf Try.f21) := by kernel_rfl
theorem tT (r : RingD) (p : Int) : @Eq _
  (fnT Q9 [] 100 Try.f21 [Ring, i64] [i64] (r, p, ()))
  (.fork (decide (p ≥ (0 : Int))) (
 .fork (!decide (p < (16 : Int))) (
  .leaf (((-1 : Int), ()))) (
  .fork ((↑r.2.1.2.2.length : Int) == (0 : Int)) (
   .leaf (((-1 : Int), ()))) (
   .req ((↑r.2.1.2.2.length : Int) < (4611686018427387904 : Int)) (
    .fork (!Pl.mayB r.2.1) (
     .leaf (((-1 : Int), ()))) (
     .req ((0 : Int) ≤ p ∧ p < (↑r.2.1.2.2.length : Int)) (
      .req ((0 : Int) ≤ p ∧ p < (↑r.2.1.2.2.length : Int)) (
       .leaf ((r.2.1.2.2.getD p.toNat (0 : Int), ()))))))))) (
 .leaf (((-1 : Int), ()))) : Tree (Int × PUnit)) := by kernel_rfl
end Pl
