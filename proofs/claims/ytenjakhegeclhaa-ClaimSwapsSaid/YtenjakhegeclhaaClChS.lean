import Derived.Test.YtenjakhegeclhaaClChO
namespace Pl
open Go Sx Go.Proofs Go.RowKit
def diffL (x l : List Int) : List Int := l.filter (fun n => !x.contains n)
structure ASw0 where
  l0 : List Int
  l1 : List Int
  i2 : Int
  l3 : List Int
def LSw0 : LoopC ASw0 where
  n0 := 6
  det st := match rowS st 23 i64, rowS st 5 i64, intS st 25, rowS st 6 i64 with | some l0, some l1, some i2, some l3 => some ⟨l0, l1, i2, l3⟩ | _, _, _, _ => none
  rows := [(6, .slot 6)]
  inv a := ⟨[(6, .one (.row 6)), (25, iv a.i2), (24, iv (↑a.l0.length : Int)), (23, .one (.row 4)), (5, .one (.row 3))],
    [(4, .ro i64 a.l0), (3, .ro i64 a.l1), (6, .own i64 a.l3)], 7⟩
  ok a := 0 ≤ a.i2 ∧ a.i2 ≤ a.l0.length ∧ a.l0.length ≤ 8 ∧ (a.l3.length : Int) ≤ a.i2 ∧ a.l1.length ≤ 8
  mu a := a.l0.length - a.i2.toNat
  fin a := .leaf ⟨2, ⟨[(6, .one (.row 6)), (5, .one (.row 3))], [(3, .ro i64 a.l1), (6, .own i64 (a.l3 ++ diffL a.l1 (a.l0.drop a.i2.toNat)))], 7⟩⟩
structure ASw1 where
  l0 : List Int
  l1 : List Int
  l3 : List Int
  i2 : Int
  n0 : Int
  i1 : Int
  b2 : Bool
def LSw1 : LoopC ASw1 where
  n0 := 7
  det st := match rowS st 23 i64, rowS st 29 i64, rowS st 6 i64, intS st 25, intS st 8, intS st 31, boolS st 9 with | some l0, some l1, some l3, some i2, some n0, some i1, some b2 => some ⟨l0, l1, l3, i2, n0, i1, b2⟩ | _, _, _, _, _, _, _ => none
  inv a := ⟨[(31, iv a.i1), (30, iv (↑a.l1.length : Int)), (29, .one (.row 3)), (9, .one (.bool a.b2)), (8, iv a.n0), (6, .one (.row 6)), (25, iv a.i2), (24, iv (↑a.l0.length : Int)), (23, .one (.row 4)), (5, .one (.row 3))],
    [(4, .ro i64 a.l0), (3, .ro i64 a.l1), (6, .own i64 a.l3)], 7⟩
  ok a := 0 ≤ a.i1 ∧ a.i1 ≤ a.l1.length ∧ a.l1.length ≤ 8
  mu a := a.l1.length - a.i1.toNat
  fin a := .leaf ⟨4, ⟨[(9, .one (.bool (a.b2 || (a.l1.drop a.i1.toNat).contains a.n0))), (8, iv a.n0), (6, .one (.row 6)), (25, iv a.i2), (24, iv (↑a.l0.length : Int)), (23, .one (.row 4)), (5, .one (.row 3))], [(4, .ro i64 a.l0), (3, .ro i64 a.l1), (6, .own i64 a.l3)], 7⟩⟩
theorem rSw1 (l0 l1 l3 : List Int) (i2 n0 i1 : Int) (b2 : Bool) : @Eq _
  (LSw1.round W4 [] 100 Try.f9 1 ⟨l0, l1, l3, i2, n0, i1, b2⟩)
  (.fork (decide (i1 < (↑l1.length : Int))) (
 .req ((0 : Int) ≤ i1 ∧ i1 < (↑l1.length : Int)) (
  .req ((0 : Int) ≤ i1 ∧ i1 < (↑l1.length : Int)) (
   .req (True) (
    .req (IntKind.i64.wrap (i1 + (1 : Int)) = IntKind.i64.wrap (i1 + (1 : Int)) ∧ (↑l1.length : Int) = (↑l1.length : Int) ∧ (b2 || l1.getD i1.toNat (0 : Int) == n0) = (b2 || l1.getD i1.toNat (0 : Int) == n0) ∧ n0 = n0 ∧ i2 = i2 ∧ (↑l0.length : Int) = (↑l0.length : Int) ∧ l0 = l0 ∧ l1 = l1 ∧ l3 = l3) (
     .leaf (Option.some { l0 := l0, l1 := l1, l3 := l3, i2 := i2, n0 := n0, i1 := IntKind.i64.wrap (i1 + (1 : Int)), b2 := b2 || l1.getD i1.toNat (0 : Int) == n0 })))))) (
 .req (b2 = (b2 || (List.drop i1.toNat l1).contains n0) ∧ n0 = n0 ∧ i2 = i2 ∧ (↑l0.length : Int) = (↑l0.length : Int) ∧ l0 = l0 ∧ l1 = l1 ∧ l3 = l3) (
  .leaf (Option.none))) : Tree (Option Pl.ASw1)) := by kernel_rfl
theorem rSw0 (l0 l1 l3 : List Int) (i2 : Int) : @Eq _
  (LSw0.round W4 [(1, LSw1.sp)] 100 Try.f9 0 ⟨l0, l1, i2, l3⟩)
  (.fork (decide (i2 < (↑l0.length : Int))) (
 .req ((0 : Int) ≤ i2 ∧ i2 < (↑l0.length : Int)) (
  .req ((0 : Int) ≤ i2 ∧ i2 < (↑l0.length : Int)) (
   .req ((0 : Int) ≤ (0 : Int) ∧ (0 : Int) ≤ (↑l1.length : Int) ∧ l1.length ≤ 8) (
    .req ((0 : Int) = (0 : Int) ∧ (↑l1.length : Int) = (↑l1.length : Int) ∧ false = false ∧ l0.getD i2.toNat (0 : Int) = l0.getD i2.toNat (0 : Int) ∧ i2 = i2 ∧ (↑l0.length : Int) = (↑l0.length : Int) ∧ l0 = l0 ∧ l1 = l1 ∧ l3 = l3) (
     .fork (!l1.contains (l0.getD i2.toNat (0 : Int))) (
      .req ((l3.length + 1) * 9 ≤ 70368744177664) (
       .req (IntKind.i64.wrap (i2 + (1 : Int)) = IntKind.i64.wrap (i2 + (1 : Int)) ∧ (↑l0.length : Int) = (↑l0.length : Int) ∧ l0 = l0 ∧ l1 = l1 ∧ l3 ++ [l0.getD i2.toNat (0 : Int)] = l3 ++ [l0.getD i2.toNat (0 : Int)]) (
        .leaf (Option.some { l0 := l0, l1 := l1, i2 := IntKind.i64.wrap (i2 + (1 : Int)), l3 := l3 ++ [l0.getD i2.toNat (0 : Int)] })))) (
      .req (IntKind.i64.wrap (i2 + (1 : Int)) = IntKind.i64.wrap (i2 + (1 : Int)) ∧ (↑l0.length : Int) = (↑l0.length : Int) ∧ l0 = l0 ∧ l1 = l1 ∧ l3 = l3) (
       .leaf (Option.some { l0 := l0, l1 := l1, i2 := IntKind.i64.wrap (i2 + (1 : Int)), l3 := l3 })))))))) (
 .req (l1 = l1 ∧ l3 = l3 ++ Pl.diffL l1 (List.drop i2.toNat l0)) (
  .leaf (Option.none))) : Tree (Option Pl.ASw0)) := by kernel_rfl
theorem tSw (a b : List Int) : @Eq _
  (fnT W4 [(0, viaP [(6, i64)] LSw0.sp)] 100 Try.f9 [ints, ints] [.bool] (a, b, ()))
  (.fork (decide ((↑a.length : Int) > (100 : Int))) (
 .req (True) (
  .leaf ((true, ())))) (
 .fork (decide ((↑b.length : Int) > (100 : Int))) (
  .req (True) (
   .leaf ((true, ())))) (
  .req ((↑a.length : Int) < (4611686018427387904 : Int)) (
   .req ((↑b.length : Int) < (4611686018427387904 : Int)) (
    .req ((0 : Int) ≤ (0 : Int) ∧ (0 : Int) ≤ (↑(Pl.memL b).length : Int) ∧ (Pl.memL b).length ≤ 8 ∧ (0 : Int) ≤ (0 : Int) ∧ (Pl.memL a).length ≤ 8) (
     .req ((0 : Int) = (0 : Int) ∧ (↑(Pl.memL b).length : Int) = (↑(Pl.memL b).length : Int) ∧ Pl.memL b = Pl.memL b ∧ Pl.memL a = Pl.memL a ∧ ([] : List Int) = ([] : List Int)) (
      .req (True) (
       .fork ((↑(Pl.memL a).length : Int) == (0 : Int) || (↑(([] : List Int) ++ Pl.diffL (Pl.memL a) (List.drop 0 (Pl.memL b))).length : Int) == (0 : Int)) (
        .req (True) (
         .leaf ((true, ())))) (
        .req ((↑(Pl.memL a).length : Int) < (4611686018427387904 : Int)) (
         .req ((↑(([] : List Int) ++ Pl.diffL (Pl.memL a) (List.drop 0 (Pl.memL b))).length : Int) < (4611686018427387904 : Int)) (
          .req (True) (
           .fork (Pl.movL (Pl.asgL (([] : List Int)) (Pl.memL a)) (Pl.asgL (Pl.asgL (([] : List Int)) (Pl.memL a)) (([] : List Int) ++ Pl.diffL (Pl.memL a) (List.drop 0 (Pl.memL b)))) == (16 : Int)) (
            .req ((↑(([] : List Int) ++ Pl.diffL (Pl.memL a) (List.drop 0 (Pl.memL b))).length : Int) < (4611686018427387904 : Int)) (
             .req ((↑(([] : List Int) ++ Pl.diffL (Pl.memL a) (List.drop 0 (Pl.memL b))).length : Int) < (4611686018427387904 : Int)) (
              .req ((↑(Pl.quotaL (Pl.asgL (([] : List Int)) (Pl.memL a)) (([] : List Int) ++ Pl.diffL (Pl.memL a) (List.drop 0 (Pl.memL b)))).length : Int) < (4611686018427387904 : Int)) (
               .fork (decide (Pl.quotaL (Pl.asgL (([] : List Int)) (Pl.memL a)) (([] : List Int) ++ Pl.diffL (Pl.memL a) (List.drop 0 (Pl.memL b))) = Pl.quotaL (([] : List Int)) (([] : List Int) ++ Pl.diffL (Pl.memL a) (List.drop 0 (Pl.memL b))))) (
                .req ((↑(([] : List Int) ++ Pl.diffL (Pl.memL a) (List.drop 0 (Pl.memL b))).length : Int) < (4611686018427387904 : Int)) (
                 .req ((↑(([] : List Int) ++ Pl.diffL (Pl.memL a) (List.drop 0 (Pl.memL b))).length : Int) < (4611686018427387904 : Int)) (
                  .req ((↑(Pl.asgL (([] : List Int)) (([] : List Int) ++ Pl.diffL (Pl.memL a) (List.drop 0 (Pl.memL b)))).length : Int) < (4611686018427387904 : Int)) (
                   .fork (decide (Pl.asgL (([] : List Int)) (([] : List Int) ++ Pl.diffL (Pl.memL a) (List.drop 0 (Pl.memL b))) = Pl.asgL (Pl.asgL (([] : List Int)) (Pl.memL a)) (([] : List Int) ++ Pl.diffL (Pl.memL a) (List.drop 0 (Pl.memL b))))) (
                    .req ((↑(Pl.memL a).length : Int) < (4611686018427387904 : Int)) (
                     .req ((↑(Pl.asgL (Pl.asgL (Pl.asgL (([] : List Int)) (Pl.memL a)) (([] : List Int) ++ Pl.diffL (Pl.memL a) (List.drop 0 (Pl.memL b)))) (Pl.memL a)).length : Int) < (4611686018427387904 : Int)) (
                      .fork (decide (Pl.asgL (Pl.asgL (Pl.asgL (([] : List Int)) (Pl.memL a)) (([] : List Int) ++ Pl.diffL (Pl.memL a) (List.drop 0 (Pl.memL b)))) (Pl.memL a) = Pl.asgL (([] : List Int)) (Pl.memL a))) (
                       .req (True) (
                        .leaf ((true, ())))) (
                       .leaf ((false, ())))))) (
                    .leaf ((false, ()))))))) (
                .leaf ((false, ()))))))) (
            .leaf ((false, ())))))))))))))) : Tree (Bool × PUnit)) := by kernel_rfl
end Pl
