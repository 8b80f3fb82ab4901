import Derived.Test.YtcjhmlfdmddhkaaGoRg2
namespace Pl
open Go Sx Go.Proofs Go.RowKit
abbrev KrJ : Nat × Sx.Spec := (22, pureSp [Ring, Ring] [Ring] S2r (fun x => (joinR x.1 x.2.1, ())))
abbrev KrS : Nat × Sx.Spec := (18, pureSp [Ring, Ring] [.bool] S2r (fun x => (sameR x.1 x.2.1, ())))
abbrev KrM : Nat × Sx.Spec := (20, pureSp [Ring] [.bool] S1r (fun x => (mayR x.1, ())))
abbrev KrJL : Nat × Sx.Spec := (22, pureSpL [Ring, Ring] [Ring] S2r (fun x => (joinR x.1 x.2.1, ())))
noncomputable abbrev Q7 : Ex := mkEx Try.prog [KrJL, KrS]
theorem Q7_ok : Q7.Sound := mkEx_sound ⟨pureSpL_ok rjoin_ok, pureSp_ok rsame_ok, trivial⟩
theorem bodyB : Try.f21.body = some (bodyOf Try.f21) := by kernel_rfl
theorem tB (a b : RingD) : @Eq _
  (fnT Q7 [] 100 Try.f21 [Ring, Ring] [.bool] (a, b, ()))
  (.req ((8 = 8 ∧ 16 = 16) ∧ (8 = 8 ∧ 16 = 16) ∧ (↑a.2.1.2.2.length : Int) < (17592186044416 : Int) ∧ (↑b.2.1.2.2.length : Int) < (17592186044416 : Int)) (
 .lt [(Ty.rep 8 (Ty.int IntKind.i64)).cat
    (((Ty.int IntKind.i64).cat ((Ty.int IntKind.i64).cat (Ty.int IntKind.i64).slice)).cat
      (Ty.rep 16 ((Ty.int IntKind.i64).cat (Ty.int IntKind.i64))))] ((Pl.joinR (tab 8 a.1 (0 : Int), a.2.1, tab 16 a.2.2 ((0 : Int), (0 : Int))) (tab 8 b.1 (0 : Int), b.2.1, tab 16 b.2.2 ((0 : Int), (0 : Int))), ())) (fun (y1 : (List Int × (Int × Int × List Int) × List (Int × Int)) × PUnit) => (
  .req ((8 = 8 ∧ 16 = 16) ∧ (8 = 8 ∧ 16 = 16) ∧ (↑y1.1.2.1.2.2.length : Int) < (17592186044416 : Int) ∧ (↑b.2.1.2.2.length : Int) < (17592186044416 : Int)) (
   .leaf ((Pl.sameR (tab 8 y1.1.1 (0 : Int), y1.1.2.1, tab 16 y1.1.2.2 ((0 : Int), (0 : Int))) (tab 8 b.1 (0 : Int), b.2.1, tab 16 b.2.2 ((0 : Int), (0 : Int))), ())))))) : Tree (Bool × PUnit)) := by kernel_rfl
theorem bodyN : Try.f39.body = some (bodyOf Try.f39) := by kernel_rfl
abbrev KrN : Nat × Sx.Spec := (39, pureSp [i64] [.bool] (fun _ => True) (fun x => (nodeB x.1, ())))
theorem tN (x : Int) : @Eq _
  (fnT E0 [] 100 Try.f39 [i64] [.bool] (x, ()))
  (.fork (decide (x ≥ (0 : Int))) (
 .leaf ((decide (x < (8 : Int)), ()))) (
 .leaf ((false, ()))) : Tree (Bool × PUnit)) := by kernel_rfl
theorem rnode_ok : PureOK Try.prog 39 [i64] [.bool] (fun _ => True) (fun x => (nodeB x.1, ())) :=
  fn_pure (E := E0) (n := 100) E0_ok Try.func39 bodyN .nil fun x _ => by
    refine Tree.all_eq (tN x.1) ?_
    simp only [Tree.all, decide_eq_true_eq, decide_eq_false_iff_not, nodeB]
    exact ⟨fun c => by simp [c], fun c => by simp [c]⟩
abbrev KpC : Nat × Sx.Spec := (40, pureSp [ints] [ints] (fun x => (List.length (α := Int) x.1 : Int) < small) (fun x => x))
noncomputable abbrev Q8 : Ex := mkEx Try.prog [KrN, KrM, KpC]
theorem Q8_ok : Q8.Sound := mkEx_sound ⟨pureSp_ok rnode_ok, pureSp_ok rmay_ok, pureSp_ok clone_ok, trivial⟩
theorem bodyR : Try.f24.body = some (bodyOf Try.f24) := by kernel_rfl
theorem tR (r : RingD) (n s : Int) : @Eq _
  (fnT Q8 [] 100 Try.f24 [Ring, i64, i64] [Ring, i64] (r, n, s, ()))
  (.req ((8 = 8 ∧ 16 = 16) ∧ (↑r.2.1.2.2.length : Int) < (17592186044416 : Int)) (
 .fork (!Pl.mayR (tab 8 r.1 (0 : Int), r.2.1, tab 16 r.2.2 ((0 : Int), (0 : Int)))) (
  .leaf (((List.replicate 8 (0 : Int), ((0 : Int), (0 : Int), ([] : List Int)), List.replicate 16 ((0 : Int), (0 : Int))), (1 : Int), ()))) (
  .req (True) (
   .fork (!Pl.nodeB n) (
    .leaf (((List.replicate 8 (0 : Int), ((0 : Int), (0 : Int), ([] : List Int)), List.replicate 16 ((0 : Int), (0 : Int))), (1 : Int), ()))) (
    .fork (decide (s < (1 : Int))) (
     .leaf (((List.replicate 8 (0 : Int), ((0 : Int), (0 : Int), ([] : List Int)), List.replicate 16 ((0 : Int), (0 : Int))), (1 : Int), ()))) (
     .fork (decide (s > (4 : Int))) (
      .leaf (((List.replicate 8 (0 : Int), ((0 : Int), (0 : Int), ([] : List Int)), List.replicate 16 ((0 : Int), (0 : Int))), (1 : Int), ()))) (
      .req ((0 : Int) ≤ n ∧ n < (8 : Int)) (
       .req ((0 : Int) ≤ n ∧ n < (8 : Int)) (
        .fork (decide ((tab 8 r.1 (0 : Int)).getD n.toNat (0 : Int) ≥ s)) (
         .leaf (((List.replicate 8 (0 : Int), ((0 : Int), (0 : Int), ([] : List Int)), List.replicate 16 ((0 : Int), (0 : Int))), (8 : Int), ()))) (
         .req ((0 : Int) ≤ n ∧ n < (8 : Int)) (
          .req ((0 : Int) ≤ n ∧ n < (8 : Int)) (
           .req ((↑r.2.1.2.2.length : Int) < (17592186044416 : Int)) (
            .leaf (((tabL 8 fun j => bif decide (n = j) then s else r.1.getD j (0 : Int), r.2.1, tab 16 r.2.2 ((0 : Int), (0 : Int))), (0 : Int), ())))))))))))))) : Tree ((List Int × (Int × Int × List Int) × List (Int × Int)) × Int × PUnit)) := by kernel_rfl
end Pl
