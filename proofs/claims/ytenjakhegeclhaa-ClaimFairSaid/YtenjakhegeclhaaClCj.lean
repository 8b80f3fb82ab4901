import Derived.Test.YtenjakhegeclhaaClCi2
namespace Pl
open Go Sx Go.Proofs Go.RowKit
def fairP (m l q : List Int) : Bool := (List.range m.length).all (fun i => decide ((l.count (m.getD i 0) : Int) = q.getD i 0) && decide (qEach (m.length : Int) ≤ q.getD i 0) && decide (q.getD i 0 ≤ qEach (m.length : Int) + 1))
structure AFa where
  ms : List Int
  q : List Int
  l : List Int
  m : List Int
  i : Int
  all : Int
def LFa : LoopC AFa where
  n0 := 6
  det st := match rowS st 1 i64, rowS st 7 i64, rowS st 6 i64, rowS st 52 i64, intS st 54, intS st 8 with | some ms, some l0, some l1, some l2, some i3, some all => some ⟨ms, l0, l1, l2, i3, all⟩ | _, _, _, _, _, _ => none
  inv a := ⟨[(54, iv a.i), (53, iv (↑a.m.length : Int)), (52, .one (.row 3)), (8, iv a.all), (7, .one (.row 5)), (6, .one (.row 4)), (5, .one (.row 3)), (1, .one (.row 1))],
    [(5, .ro i64 a.q), (4, .ro i64 a.l), (3, .ro i64 a.m), (1, .ro i64 a.ms)], 6⟩
  ok a := a.l.length = 16 ∧ a.q.length = a.m.length ∧ 1 ≤ a.m.length ∧ a.m.length ≤ 8 ∧ 0 ≤ a.i ∧ a.i ≤ a.m.length ∧ 0 ≤ a.all ∧ a.all ≤ a.i * 40 ∧ fairP a.m a.l a.q = true
  mu a := a.m.length - a.i.toNat
  fin a := .leaf ⟨2, ⟨[(8, iv (a.all + (a.q.drop a.i.toNat).sum)), (6, .one (.row 4)), (1, .one (.row 1))], [(4, .ro i64 a.l), (1, .ro i64 a.ms)], 6⟩⟩
structure AFb where
  ms : List Int
  q : List Int
  l : List Int
  m : List Int
  i : Int
  all : Int
  n0 : Int
  i1 : Int
  i2 : Int
def LFb : LoopC AFb where
  n0 := 6
  det st := match rowS st 1 i64, rowS st 7 i64, rowS st 59 i64, rowS st 52 i64, intS st 9, intS st 8, intS st 10, intS st 61, intS st 11 with | some ms, some q, some l, some m, some i, some all, some n0, some i1, some i2 => some ⟨ms, q, l, m, i, all, n0, i1, i2⟩ | _, _, _, _, _, _, _, _, _ => none
  inv a := ⟨[(61, iv a.i1), (60, iv (↑a.l.length : Int)), (59, .one (.row 4)), (11, iv a.i2), (10, iv a.n0), (9, iv a.i), (54, iv a.i), (53, iv (↑a.m.length : Int)), (52, .one (.row 3)), (8, iv a.all), (7, .one (.row 5)), (6, .one (.row 4)), (5, .one (.row 3)), (1, .one (.row 1))],
    [(5, .ro i64 a.q), (4, .ro i64 a.l), (3, .ro i64 a.m), (1, .ro i64 a.ms)], 6⟩
  ok a := 0 ≤ a.i1 ∧ a.i1 ≤ a.l.length ∧ a.l.length = 16 ∧ 0 ≤ a.i2 ∧ a.i2 ≤ a.i1
  mu a := a.l.length - a.i1.toNat
  fin a := .leaf ⟨4, ⟨[(11, iv (a.i2 + ((a.l.drop a.i1.toNat).count a.n0 : Int))), (9, iv a.i), (54, iv a.i), (53, iv (↑a.m.length : Int)), (52, .one (.row 3)), (8, iv a.all), (7, .one (.row 5)), (6, .one (.row 4)), (5, .one (.row 3)), (1, .one (.row 1))], [(5, .ro i64 a.q), (4, .ro i64 a.l), (3, .ro i64 a.m), (1, .ro i64 a.ms)], 6⟩⟩
theorem rFb (ms q l m : List Int) (i all n0 i1 i2 : Int) : @Eq _
  (LFb.round W4 [] 100 Try.f4 1 ⟨ms, q, l, m, i, all, n0, i1, i2⟩)
  (.fork (decide (i1 < (↑l.length : Int))) (
 .req ((0 : Int) ≤ i1 ∧ i1 < (↑l.length : Int)) (
  .req ((0 : Int) ≤ i1 ∧ i1 < (↑l.length : Int)) (
   .fork (l.getD i1.toNat (0 : Int) == n0) (
    .req (IntKind.i64.wrap (i1 + (1 : Int)) = IntKind.i64.wrap (i1 + (1 : Int)) ∧ (↑l.length : Int) = (↑l.length : Int) ∧ IntKind.i64.wrap (i2 + (1 : Int)) = IntKind.i64.wrap (i2 + (1 : Int)) ∧ n0 = n0 ∧ i = i ∧ i = i ∧ (↑m.length : Int) = (↑m.length : Int) ∧ all = all ∧ q = q ∧ l = l ∧ m = m ∧ ms = ms) (
     .leaf (Option.some { ms := ms, q := q, l := l, m := m, i := i, all := all, n0 := n0, i1 := IntKind.i64.wrap (i1 + (1 : Int)), i2 := IntKind.i64.wrap (i2 + (1 : Int)) }))) (
    .req (IntKind.i64.wrap (i1 + (1 : Int)) = IntKind.i64.wrap (i1 + (1 : Int)) ∧ (↑l.length : Int) = (↑l.length : Int) ∧ i2 = i2 ∧ n0 = n0 ∧ i = i ∧ i = i ∧ (↑m.length : Int) = (↑m.length : Int) ∧ all = all ∧ q = q ∧ l = l ∧ m = m ∧ ms = ms) (
     .leaf (Option.some { ms := ms, q := q, l := l, m := m, i := i, all := all, n0 := n0, i1 := IntKind.i64.wrap (i1 + (1 : Int)), i2 := i2 })))))) (
 .req (i2 = i2 + (↑(List.count n0 (List.drop i1.toNat l)) : Int) ∧ i = i ∧ i = i ∧ (↑m.length : Int) = (↑m.length : Int) ∧ all = all ∧ q = q ∧ l = l ∧ m = m ∧ ms = ms) (
  .leaf (Option.none))) : Tree (Option Pl.AFb)) := by kernel_rfl
theorem rFa (ms q l m : List Int) (i all : Int) : @Eq _
  (LFa.round W4 [(1, LFb.sp)] 100 Try.f4 0 ⟨ms, q, l, m, i, all⟩)
  (.fork (decide (i < (↑m.length : Int))) (
 .req ((0 : Int) ≤ i ∧ i < (↑m.length : Int)) (
  .req ((0 : Int) ≤ i ∧ i < (↑m.length : Int)) (
   .req ((0 : Int) ≤ (0 : Int) ∧ (0 : Int) ≤ (↑l.length : Int) ∧ l.length = 16 ∧ (0 : Int) ≤ (0 : Int) ∧ (0 : Int) ≤ (0 : Int)) (
    .req ((0 : Int) = (0 : Int) ∧ (↑l.length : Int) = (↑l.length : Int) ∧ (0 : Int) = (0 : Int) ∧ m.getD i.toNat (0 : Int) = m.getD i.toNat (0 : Int) ∧ i = i ∧ i = i ∧ (↑m.length : Int) = (↑m.length : Int) ∧ all = all ∧ q = q ∧ l = l ∧ m = m ∧ ms = ms) (
     .req (((0 : Int) ≤ i ∧ i < (↑q.length : Int)) ∧ ((0 : Int) ≤ i ∧ i < (↑q.length : Int)) ∧ (((0 : Int) + (↑(List.count (m.getD i.toNat (0 : Int)) l) : Int) != q.getD i.toNat (0 : Int)) = false → conjP (((0 : Int) ≤ i ∧ i < (↑q.length : Int)) :: ((0 : Int) ≤ i ∧ i < (↑q.length : Int)) :: ((↑m.length : Int) ≠ (0 : Int)) :: (([] : List Prop) ++ [decide (q.getD i.toNat (0 : Int) < IntKind.i64.wrap (Int.tdiv (16 : Int) (↑m.length : Int))) = false → conjP [(0 : Int) ≤ i ∧ i < (↑q.length : Int), (0 : Int) ≤ i ∧ i < (↑q.length : Int), (↑m.length : Int) ≠ (0 : Int)]])))) (
      .fork ((0 : Int) + (↑(List.count (m.getD i.toNat (0 : Int)) l) : Int) != q.getD i.toNat (0 : Int) || (decide (q.getD i.toNat (0 : Int) < IntKind.i64.wrap (Int.tdiv (16 : Int) (↑m.length : Int))) || decide (q.getD i.toNat (0 : Int) > IntKind.i64.wrap (IntKind.i64.wrap (Int.tdiv (16 : Int) (↑m.length : Int)) + (1 : Int))))) (
       .req (False) (
        .leaf (Option.none))) (
       .req (IntKind.i64.wrap (i + (1 : Int)) = IntKind.i64.wrap (i + (1 : Int)) ∧ (↑m.length : Int) = (↑m.length : Int) ∧ IntKind.i64.wrap (all + ((0 : Int) + (↑(List.count (m.getD i.toNat (0 : Int)) l) : Int))) = IntKind.i64.wrap (all + ((0 : Int) + (↑(List.count (m.getD i.toNat (0 : Int)) l) : Int))) ∧ q = q ∧ l = l ∧ m = m ∧ ms = ms) (
        .leaf (Option.some { ms := ms, q := q, l := l, m := m, i := IntKind.i64.wrap (i + (1 : Int)), all := IntKind.i64.wrap (all + ((0 : Int) + (↑(List.count (m.getD i.toNat (0 : Int)) l) : Int))) }))))))))) (
 .req (all = all + (List.drop i.toNat q).sum ∧ l = l ∧ ms = ms) (
  .leaf (Option.none))) : Tree (Option Pl.AFa)) := by kernel_rfl
theorem tFa (now ms : List Int) : @Eq _
  (fnT W4 [(0, LFa.sp)] 100 Try.f4 [ints, ints] [.bool] (now, ms, ()))
  (.fork (decide ((↑now.length : Int) > (100 : Int))) (
 .req (True) (
  .leaf ((true, ())))) (
 .fork (decide ((↑ms.length : Int) > (100 : Int))) (
  .req (True) (
   .leaf ((true, ())))) (
  .req ((↑ms.length : Int) < (4611686018427387904 : Int)) (
   .req ((↑ms.length : Int) < (4611686018427387904 : Int)) (
    .req ((↑ms.length : Int) < (4611686018427387904 : Int)) (
     .fork ((↑(Pl.memL ms).length : Int) == (0 : Int)) (
      .req (((↑(Pl.asgL now ms).length : Int) == (0 : Int)) = true → conjP ((((↑(Pl.quotaL now ms).length : Int) == (0 : Int)) = true → conjP [True]) :: ([] : List Prop))) (
       .leaf (((↑(Pl.asgL now ms).length : Int) == (0 : Int) && ((↑(Pl.quotaL now ms).length : Int) == (0 : Int) && true), ())))) (
      .req (True) (
       .fork ((↑(Pl.asgL now ms).length : Int) != (16 : Int) || (↑(Pl.quotaL now ms).length : Int) != (↑(Pl.memL ms).length : Int)) (
        .leaf ((false, ()))) (
        .req ((Pl.asgL now ms).length = 16 ∧ (Pl.quotaL now ms).length = (Pl.memL ms).length ∧ 1 ≤ (Pl.memL ms).length ∧ (Pl.memL ms).length ≤ 8 ∧ (0 : Int) ≤ (0 : Int) ∧ (0 : Int) ≤ (↑(Pl.memL ms).length : Int) ∧ (0 : Int) ≤ (0 : Int) ∧ (0 : Int) ≤ (0 : Int) ∧ Pl.fairP (Pl.memL ms) (Pl.asgL now ms) (Pl.quotaL now ms) = true) (
         .req ((0 : Int) = (0 : Int) ∧ (↑(Pl.memL ms).length : Int) = (↑(Pl.memL ms).length : Int) ∧ (0 : Int) = (0 : Int) ∧ Pl.quotaL now ms = Pl.quotaL now ms ∧ Pl.asgL now ms = Pl.asgL now ms ∧ Pl.memL ms = Pl.memL ms ∧ ms = ms) (
          .fork ((0 : Int) + (List.drop 0 (Pl.quotaL now ms)).sum == (16 : Int)) (
           .req ((↑ms.length : Int) < (4611686018427387904 : Int)) (
            .req ((↑(Pl.asgL (Pl.asgL now ms) ms).length : Int) < (4611686018427387904 : Int)) (
             .fork (decide (Pl.asgL (Pl.asgL now ms) ms = Pl.asgL now ms)) (
              .req (True) (
               .fork (Pl.movL (Pl.asgL now ms) (Pl.asgL now ms) == (0 : Int)) (
                .req (True) (
                 .leaf ((true, ())))) (
                .leaf ((false, ()))))) (
              .leaf ((false, ())))))) (
           .leaf ((false, ()))))))))))))) : Tree (Bool × PUnit)) := by kernel_rfl
end Pl
