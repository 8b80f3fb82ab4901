import Derived.Test.YtmmoifibhhkohaaPl9
import Derived.Test.YtmmoifibhhkohaaSx30
namespace Pl
open Go Sx Go.Proofs Go.RowKit
def tgt (i : Int) : List Int := (List.range 16).map fun k : Nat => (i + (k : Int)) % 8
def modU (n : Int) : Int := IntKind.i64.wrap ((IntKind.u64.wrap n).tmod 8)
def planAt (bs : List Int) : Nat → PlanD
  | 0 => (0, 0, [])
  | k + 1 => ((k : Int) + 1, modU (bs.getD k 0), tgt k)
def plansTo (bs : List Int) (k : Nat) : List PlanD := (List.range (k + 1)).map (planAt bs)
def mx (k n : Nat) : Nat → Nat
  | 0 => 0
  | i + 1 => max (mx k n i) ((i + k) % n)
structure A5 where
  bs : List Int
  k : Int
  i1 : Int
  i2 : Int
  i3 : Int
  l4 : List PlanD
  l5 : List Int
def L5 : LoopC A5 where
  n0 := 4
  det st := match rowG st 0 i64, intS st 1, intS st 25, intG st 1 0, intG st 1 1, rowS st 6 Plan, rowC st 1 2 i64 with | some bs, some k, some i1, some i2, some i3, some l4, some l5 => some ⟨bs, k, i1, i2, i3, l4, l5⟩ | _, _, _, _, _, _, _ => none
  tau := [(4, some 3), (5, none)]
  back := [(4, some 10), (5, some 7)]
  inv a := ⟨[(6, .one (.row 4)), (25, iv a.i1), (24, iv (↑a.bs.length : Int)), (23, .one (.row 0)), (5, .one (.ptr 1 0)), (0, .one (.row 0)), (1, iv a.k)],
    [(1, .blk [.int .i64 a.i2, .int .i64 a.i3, .row 5]), (0, .ro i64 a.bs), (4, .own Plan a.l4), (5, .ro i64 a.l5)], 6⟩
  ok a := 0 ≤ a.i1 ∧ a.i1 ≤ a.bs.length ∧ a.bs.length ≤ 40 ∧ a.l4 = plansTo a.bs a.i1.toNat ∧ (a.i2, a.i3, a.l5) = planAt a.bs a.i1.toNat
  mu a := a.bs.length - a.i1.toNat
  fin a := .leaf ⟨2, ⟨[(6, .one (.row 4)), (5, .one (.ptr 1 0)), (0, .one (.row 0)), (1, iv a.k)],
    [(1, .blk [.int .i64 (planAt a.bs a.bs.length).1, .int .i64 (planAt a.bs a.bs.length).2.1, .row 5]), (0, .ro i64 a.bs), (4, .own Plan (plansTo a.bs a.bs.length)), (5, .ro i64 (planAt a.bs a.bs.length).2.2)], 6⟩⟩
structure A5i where
  bs : List Int
  k : Int
  i : Int
  p : Int
  q : Int
  all : List PlanD
  tg : List Int
  l0 : List Int
  n1 : Int
  i2 : Int
def L5i : LoopC A5i where
  n0 := 7
  det st := match rowG st 0 i64, intS st 1, intS st 7, intG st 1 0, intG st 1 1, rowS st 6 Plan, rowC st 1 2 i64, rowS st 9 i64, intS st 8, intS st 33 with | some bs, some k, some i, some p, some q, some all, some tg, some l0, some n1, some i2 => some ⟨bs, k, i, p, q, all, tg, l0, n1, i2⟩ | _, _, _, _, _, _, _, _, _, _ => none
  inv a := ⟨[(33, iv a.i2), (32, iv (16 : Int)), (9, .one (.row 6)), (8, iv a.n1), (7, iv a.i), (6, .one (.row 4)), (25, iv a.i), (24, iv (↑a.bs.length : Int)), (23, .one (.row 0)), (5, .one (.ptr 1 0)), (0, .one (.row 0)), (1, iv a.k)],
    [(6, .own i64 a.l0), (1, .blk [.int .i64 a.p, .int .i64 a.q, .row 5]), (0, .ro i64 a.bs), (4, .own Plan a.all), (5, .ro i64 a.tg)], 7⟩
  ok a := 0 ≤ a.i2 ∧ a.i2 ≤ 16 ∧ a.l0.length = 16 ∧ 0 ≤ a.i ∧ a.i ≤ 40 ∧ a.l0.take a.i2.toNat = (tgt a.i).take a.i2.toNat
  mu a := 16 - a.i2.toNat
  fin a := .leaf ⟨4, ⟨[(9, .one (.row 6)), (8, iv a.n1), (6, .one (.row 4)), (25, iv a.i), (24, iv (↑a.bs.length : Int)), (23, .one (.row 0)), (5, .one (.ptr 1 0)), (0, .one (.row 0)), (1, iv a.k)],
    [(6, .own i64 (tgt a.i)), (1, .blk [.int .i64 a.p, .int .i64 a.q, .row 5]), (0, .ro i64 a.bs), (4, .own Plan a.all), (5, .ro i64 a.tg)], 7⟩⟩
structure A5b where
  bs : List Int
  l0 : List PlanD
  l1 : List Int
  n2 : Int
  n3 : Int
  n4 : Int
  i5 : Int
  i6 : Int
  i7 : Int
  l8 : List Int
def L5b : LoopC A5b where
  n0 := 7
  det st := match rowS st 0 i64, rowS st 6 Plan, rowC st 1 2 i64, intS st 13, intG st 1 0, intG st 1 1, intS st 72, intG st 6 0, intG st 6 1, rowC st 6 2 i64 with | some bs, some l0, some l1, some n2, some n3, some n4, some i5, some i6, some i7, some l8 => some ⟨bs, l0, l1, n2, n3, n4, i5, i6, i7, l8⟩ | _, _, _, _, _, _, _, _, _, _ => none
  tau := [(7, none)]
  back := [(7, some 9)]
  inv a := ⟨[(72, iv a.i5), (71, iv (↑a.l0.length : Int)), (14, .one (.ptr 6 0)), (13, iv a.n2), (6, .one (.row 4)), (5, .one (.ptr 1 0)), (0, .one (.row 0))],
    [(6, .blk [.int .i64 a.i6, .int .i64 a.i7, .row 7]), (1, .blk [.int .i64 a.n3, .int .i64 a.n4, .row 5]), (0, .ro i64 a.bs), (4, .own Plan a.l0), (5, .ro i64 a.l1), (7, .ro i64 a.l8)], 8⟩
  ok a := 0 ≤ a.i5 ∧ a.i5 ≤ a.l0.length ∧ a.bs.length ≤ 40 ∧ a.l0 = plansTo a.bs a.bs.length ∧ 0 ≤ a.n2 ∧ a.n2 < a.bs.length + 1 ∧ (a.i6, a.i7, a.l8) = planAt a.bs (mx a.n2.toNat (a.bs.length + 1) a.i5.toNat)
  mu a := a.l0.length - a.i5.toNat
  fin a := .leaf ⟨6, ⟨[(14, .one (.ptr 6 0)), (5, .one (.ptr 1 0)), (0, .one (.row 0))],
    [(6, .blk [.int .i64 (planAt a.bs a.bs.length).1, .int .i64 (planAt a.bs a.bs.length).2.1, .row 7]), (1, .blk [.int .i64 a.n3, .int .i64 a.n4, .row 5]), (0, .ro i64 a.bs), (5, .ro i64 a.l1), (7, .ro i64 (planAt a.bs a.bs.length).2.2)], 8⟩⟩
theorem r5i (bs : List Int) (k i p q : Int) (all : List PlanD) (tg l0 : List Int) (n1 i2 : Int) : @Eq _
  (L5i.round EL [] 100 Try.f5 1 ⟨bs, k, i, p, q, all, tg, l0, n1, i2⟩)
  (.fork (decide (i2 < (16 : Int))) (
 .req ((8 : Int) ≠ (0 : Int)) (
  .req ((0 : Int) ≤ i2 ∧ i2 < (↑l0.length : Int)) (
   .req ((0 : Int) ≤ i2 ∧ i2 < (↑l0.length : Int)) (
    .req (IntKind.i64.wrap (i2 + (1 : Int)) = IntKind.i64.wrap (i2 + (1 : Int)) ∧ (16 : Int) = (16 : Int) ∧ n1 = n1 ∧ i = i ∧ i = i ∧ (↑bs.length : Int) = (↑bs.length : Int) ∧ k = k ∧ l0.set i2.toNat ((IntKind.i64.wrap (i + i2)).tmod (8 : Int)) = l0.set i2.toNat ((IntKind.i64.wrap (i + i2)).tmod (8 : Int)) ∧ p = p ∧ q = q ∧ bs = bs ∧ all = all ∧ tg = tg) (
     .leaf (Option.some { bs := bs, k := k, i := i, p := p, q := q, all := all, tg := tg, l0 := l0.set i2.toNat ((IntKind.i64.wrap (i + i2)).tmod (8 : Int)), n1 := n1, i2 := IntKind.i64.wrap (i2 + (1 : Int)) })))))) (
 .req (n1 = n1 ∧ i = i ∧ (↑bs.length : Int) = (↑bs.length : Int) ∧ k = k ∧ l0 = Pl.tgt i ∧ p = p ∧ q = q ∧ bs = bs ∧ all = all ∧ tg = tg) (
  .leaf (Option.none)))) := by kernel_rfl
theorem r5 (bs : List Int) (k i1 i2 i3 : Int) (l4 : List PlanD) (l5 : List Int) : @Eq _
  (L5.round EL [(1, L5i.sp)] 100 Try.f5 0 ⟨bs, k, i1, i2, i3, l4, l5⟩)
  (.fork (decide (i1 < (↑bs.length : Int))) (
 .req ((0 : Int) ≤ i1 ∧ i1 < (↑bs.length : Int)) (
  .req ((0 : Int) ≤ i1 ∧ i1 < (↑bs.length : Int)) (
   .req ((0 : Int) ≤ (16 : Int) ∧ (16 : Int) ≤ (16 : Int) ∧ (128 : Int) ≤ (140737488355328 : Int) ∧ (16 : Int) ≤ (140737488355328 : Int)) (
    .req ((0 : Int) ≤ (0 : Int) ∧ (0 : Int) ≤ (16 : Int) ∧ 16 = 16 ∧ (0 : Int) ≤ i1 ∧ i1 ≤ (40 : Int) ∧ ([] : List Int) = ([] : List Int)) (
     .req ((0 : Int) = (0 : Int) ∧ (16 : Int) = (16 : Int) ∧ bs.getD i1.toNat (0 : Int) = bs.getD i1.toNat (0 : Int) ∧ i1 = i1 ∧ i1 = i1 ∧ (↑bs.length : Int) = (↑bs.length : Int) ∧ k = k ∧ [(0 : Int), (0 : Int), (0 : Int), (0 : Int), (0 : Int), (0 : Int), (0 : Int), (0 : Int), (0 : Int), (0 : Int), (0 : Int), (0 : Int), (0 : Int), (0 : Int), (0 : Int), (0 : Int)] = [(0 : Int), (0 : Int), (0 : Int), (0 : Int), (0 : Int), (0 : Int), (0 : Int), (0 : Int), (0 : Int), (0 : Int), (0 : Int), (0 : Int), (0 : Int), (0 : Int), (0 : Int), (0 : Int)] ∧ i2 = i2 ∧ i3 = i3 ∧ bs = bs ∧ l4 = l4 ∧ l5 = l5) (
      .req ((8 : Int) ≠ (0 : Int)) (
       .req ((↑l5.length : Int) < (17592186044416 : Int) ∧ (16 : Int) < (17592186044416 : Int)) (
        .fork ((Pl.nextP (i2, i3, l5) (IntKind.i64.wrap ((IntKind.u64.wrap (bs.getD i1.toNat (0 : Int))).tmod (8 : Int))) (Pl.tgt i1)).2 != (0 : Int)) (
         .req (False) (
          .leaf (Option.none))) (
         .req ((l4.length + 1) * 41 ≤ 70368744177664) (
          .req (IntKind.i64.wrap (i1 + (1 : Int)) = IntKind.i64.wrap (i1 + (1 : Int)) ∧ (↑bs.length : Int) = (↑bs.length : Int) ∧ k = k ∧ (Pl.nextP (i2, i3, l5) (IntKind.i64.wrap ((IntKind.u64.wrap (bs.getD i1.toNat (0 : Int))).tmod (8 : Int))) (Pl.tgt i1)).1.1 = (Pl.nextP (i2, i3, l5) (IntKind.i64.wrap ((IntKind.u64.wrap (bs.getD i1.toNat (0 : Int))).tmod (8 : Int))) (Pl.tgt i1)).1.1 ∧ (Pl.nextP (i2, i3, l5) (IntKind.i64.wrap ((IntKind.u64.wrap (bs.getD i1.toNat (0 : Int))).tmod (8 : Int))) (Pl.tgt i1)).1.2.1 = (Pl.nextP (i2, i3, l5) (IntKind.i64.wrap ((IntKind.u64.wrap (bs.getD i1.toNat (0 : Int))).tmod (8 : Int))) (Pl.tgt i1)).1.2.1 ∧ bs = bs ∧ l4 ++ [(Pl.nextP (i2, i3, l5) (IntKind.i64.wrap ((IntKind.u64.wrap (bs.getD i1.toNat (0 : Int))).tmod (8 : Int))) (Pl.tgt i1)).1] = l4 ++ [(Pl.nextP (i2, i3, l5) (IntKind.i64.wrap ((IntKind.u64.wrap (bs.getD i1.toNat (0 : Int))).tmod (8 : Int))) (Pl.tgt i1)).1] ∧ (Pl.nextP (i2, i3, l5) (IntKind.i64.wrap ((IntKind.u64.wrap (bs.getD i1.toNat (0 : Int))).tmod (8 : Int))) (Pl.tgt i1)).1.2.2 = (Pl.nextP (i2, i3, l5) (IntKind.i64.wrap ((IntKind.u64.wrap (bs.getD i1.toNat (0 : Int))).tmod (8 : Int))) (Pl.tgt i1)).1.2.2) (
           .leaf (Option.some { bs := bs, k := k, i1 := IntKind.i64.wrap (i1 + (1 : Int)), i2 := (Pl.nextP (i2, i3, l5) (IntKind.i64.wrap ((IntKind.u64.wrap (bs.getD i1.toNat (0 : Int))).tmod (8 : Int))) (Pl.tgt i1)).1.1, i3 := (Pl.nextP (i2, i3, l5) (IntKind.i64.wrap ((IntKind.u64.wrap (bs.getD i1.toNat (0 : Int))).tmod (8 : Int))) (Pl.tgt i1)).1.2.1, l4 := l4 ++ [(Pl.nextP (i2, i3, l5) (IntKind.i64.wrap ((IntKind.u64.wrap (bs.getD i1.toNat (0 : Int))).tmod (8 : Int))) (Pl.tgt i1)).1], l5 := (Pl.nextP (i2, i3, l5) (IntKind.i64.wrap ((IntKind.u64.wrap (bs.getD i1.toNat (0 : Int))).tmod (8 : Int))) (Pl.tgt i1)).1.2.2 })))))))))))) (
 .req (k = k ∧ i2 = (Pl.planAt bs bs.length).1 ∧ i3 = (Pl.planAt bs bs.length).2.1 ∧ bs = bs ∧ l4 = Pl.plansTo bs bs.length ∧ l5 = (Pl.planAt bs bs.length).2.2) (
  .leaf (Option.none)))) := by kernel_rfl
theorem r5b (bs : List Int) (l0 : List PlanD) (l1 : List Int) (n2 n3 n4 i5 i6 i7 : Int) (l8 : List Int) : @Eq _
  (L5b.round EL [] 100 Try.f5 2 ⟨bs, l0, l1, n2, n3, n4, i5, i6, i7, l8⟩)
  (.fork (decide (i5 < (↑l0.length : Int))) (
 .req ((↑l0.length : Int) ≠ (0 : Int)) (
  .req ((0 : Int) ≤ (IntKind.i64.wrap (i5 + n2)).tmod (↑l0.length : Int) ∧ (IntKind.i64.wrap (i5 + n2)).tmod (↑l0.length : Int) < (↑l0.length : Int)) (
   .req ((0 : Int) ≤ (IntKind.i64.wrap (i5 + n2)).tmod (↑l0.length : Int) ∧ (IntKind.i64.wrap (i5 + n2)).tmod (↑l0.length : Int) < (↑l0.length : Int)) (
    .req ((↑l8.length : Int) < (17592186044416 : Int) ∧ (↑(l0.getD ((IntKind.i64.wrap (i5 + n2)).tmod (↑l0.length : Int)).toNat ((0 : Int), (0 : Int), ([] : List Int))).2.2.length : Int) < (17592186044416 : Int)) (
     .req (IntKind.i64.wrap (i5 + (1 : Int)) = IntKind.i64.wrap (i5 + (1 : Int)) ∧ (↑l0.length : Int) = (↑l0.length : Int) ∧ n2 = n2 ∧ (Pl.joinP (i6, i7, l8) (l0.getD ((IntKind.i64.wrap (i5 + n2)).tmod (↑l0.length : Int)).toNat ((0 : Int), (0 : Int), ([] : List Int)))).1 = (Pl.joinP (i6, i7, l8) (l0.getD ((IntKind.i64.wrap (i5 + n2)).tmod (↑l0.length : Int)).toNat ((0 : Int), (0 : Int), ([] : List Int)))).1 ∧ (Pl.joinP (i6, i7, l8) (l0.getD ((IntKind.i64.wrap (i5 + n2)).tmod (↑l0.length : Int)).toNat ((0 : Int), (0 : Int), ([] : List Int)))).2.1 = (Pl.joinP (i6, i7, l8) (l0.getD ((IntKind.i64.wrap (i5 + n2)).tmod (↑l0.length : Int)).toNat ((0 : Int), (0 : Int), ([] : List Int)))).2.1 ∧ n3 = n3 ∧ n4 = n4 ∧ bs = bs ∧ l0 = l0 ∧ l1 = l1 ∧ (Pl.joinP (i6, i7, l8) (l0.getD ((IntKind.i64.wrap (i5 + n2)).tmod (↑l0.length : Int)).toNat ((0 : Int), (0 : Int), ([] : List Int)))).2.2 = (Pl.joinP (i6, i7, l8) (l0.getD ((IntKind.i64.wrap (i5 + n2)).tmod (↑l0.length : Int)).toNat ((0 : Int), (0 : Int), ([] : List Int)))).2.2) (
      .leaf (Option.some { bs := bs, l0 := l0, l1 := l1, n2 := n2, n3 := n3, n4 := n4, i5 := IntKind.i64.wrap (i5 + (1 : Int)), i6 := (Pl.joinP (i6, i7, l8) (l0.getD ((IntKind.i64.wrap (i5 + n2)).tmod (↑l0.length : Int)).toNat ((0 : Int), (0 : Int), ([] : List Int)))).1, i7 := (Pl.joinP (i6, i7, l8) (l0.getD ((IntKind.i64.wrap (i5 + n2)).tmod (↑l0.length : Int)).toNat ((0 : Int), (0 : Int), ([] : List Int)))).2.1, l8 := (Pl.joinP (i6, i7, l8) (l0.getD ((IntKind.i64.wrap (i5 + n2)).tmod (↑l0.length : Int)).toNat ((0 : Int), (0 : Int), ([] : List Int)))).2.2 }))))))) (
 .req (i6 = (Pl.planAt bs bs.length).1 ∧ i7 = (Pl.planAt bs bs.length).2.1 ∧ n3 = n3 ∧ n4 = n4 ∧ bs = bs ∧ l1 = l1 ∧ l8 = (Pl.planAt bs bs.length).2.2) (
  .leaf (Option.none)))) := by kernel_rfl
theorem t5 (bs : List Int) (k : Int) : @Eq _
  (fnT EL [(0, viaP [(6, Plan)] L5.sp), (1, L5i.sp), (2, L5b.sp)] 100 Try.f5 [ints, i64] [.bool] (bs, k, ()))
  (.fork (decide ((↑bs.length : Int) > (40 : Int))) (
 .req (True) (
  .leaf ((true, ())))) (
 .req ((0 : Int) ≤ (0 : Int) ∧ (0 : Int) ≤ (↑bs.length : Int) ∧ bs.length ≤ 40 ∧ [((0 : Int), (0 : Int), ([] : List Int))] = Pl.plansTo bs 0 ∧ ((0 : Int), (0 : Int), ([] : List Int)) = Pl.planAt bs 0) (
  .req ((0 : Int) = (0 : Int) ∧ (↑bs.length : Int) = (↑bs.length : Int) ∧ k = k ∧ (0 : Int) = (0 : Int) ∧ (0 : Int) = (0 : Int) ∧ bs = bs ∧ [((0 : Int), (0 : Int), ([] : List Int))] = [((0 : Int), (0 : Int), ([] : List Int))] ∧ ([] : List Int) = ([] : List Int)) (
   .req (IntKind.u64.wrap (↑(Pl.plansTo bs bs.length).length : Int) ≠ (0 : Int)) (
    .req ((0 : Int) ≤ (0 : Int) ∧ (0 : Int) ≤ (↑(Pl.plansTo bs bs.length).length : Int) ∧ bs.length ≤ 40 ∧ Pl.plansTo bs bs.length = Pl.plansTo bs bs.length ∧ (0 : Int) ≤ IntKind.i64.wrap ((IntKind.u64.wrap k).tmod (IntKind.u64.wrap (↑(Pl.plansTo bs bs.length).length : Int))) ∧ IntKind.i64.wrap ((IntKind.u64.wrap k).tmod (IntKind.u64.wrap (↑(Pl.plansTo bs bs.length).length : Int))) < (↑bs.length : Int) + (1 : Int) ∧ ((0 : Int), (0 : Int), ([] : List Int)) = Pl.planAt bs 0) (
     .req ((0 : Int) = (0 : Int) ∧ (↑(Pl.plansTo bs bs.length).length : Int) = (↑(Pl.plansTo bs bs.length).length : Int) ∧ IntKind.i64.wrap ((IntKind.u64.wrap k).tmod (IntKind.u64.wrap (↑(Pl.plansTo bs bs.length).length : Int))) = IntKind.i64.wrap ((IntKind.u64.wrap k).tmod (IntKind.u64.wrap (↑(Pl.plansTo bs bs.length).length : Int))) ∧ (0 : Int) = (0 : Int) ∧ (0 : Int) = (0 : Int) ∧ (Pl.planAt bs bs.length).1 = (Pl.planAt bs bs.length).1 ∧ (Pl.planAt bs bs.length).2.1 = (Pl.planAt bs bs.length).2.1 ∧ bs = bs ∧ Pl.plansTo bs bs.length = Pl.plansTo bs bs.length ∧ (Pl.planAt bs bs.length).2.2 = (Pl.planAt bs bs.length).2.2 ∧ ([] : List Int) = ([] : List Int)) (
      .req ((↑(Pl.planAt bs bs.length).2.2.length : Int) < (4611686018427387904 : Int)) (
       .fork (Pl.sameF (Pl.planAt bs bs.length) (Pl.planAt bs bs.length)) (
        .fork ((Pl.planAt bs bs.length).1 == (↑bs.length : Int)) (
         .req (True) (
          .leaf ((true, ())))) (
         .leaf ((false, ())))) (
        .leaf ((false, ()))))))))))) := by kernel_rfl

theorem tgt_len (i : Int) : (tgt i).length = 16 := by simp [tgt]
theorem tgt_get {i : Int} {k : Nat} (h : k < 16) : (tgt i).getD k 0 = (i + (k : Int)) % 8 := by
  simp [tgt, List.getD_eq_getElem?_getD, h]
theorem tgt_full {i : Int} : fullB (tgt i) = true := by
  simp only [fullB, tgt_len, allN, Bool.and_eq_true, decide_eq_true_eq, List.all_eq_true]
  refine ⟨trivial, fun x hx => ?_⟩
  simp only [tgt, List.mem_map] at hx
  obtain ⟨k, _, rfl⟩ := hx
  simp only [nodeB, Bool.and_eq_true, decide_eq_true_eq]
  omega
theorem modU_range (n : Int) : nodeB (modU n) = true := by
  obtain ⟨r, er, h0, h1⟩ := umod n 8 (by omega) (by omega)
  unfold modU
  rw [er]
  simp [nodeB, h0, h1]
theorem planAt_may (bs : List Int) (k : Nat) (h : k ≤ 41) : mayB (planAt bs k) = true := by
  cases k with
  | zero => rfl
  | succ k =>
    simp only [planAt, mayB, tgt_len]
    rw [if_neg (by omega), modU_range, tgt_full]
    have h1 : (1 : Int) ≤ (k : Int) + 1 := by omega
    have h2 : (k : Int) + 1 ≤ 1000000 := by omega
    simp [h1, h2]
theorem planAt_ver (bs : List Int) (k : Nat) : (planAt bs k).1 = k := by
  cases k <;> simp [planAt]
theorem planAt_next (bs : List Int) (k : Nat) (h : k ≤ 40) : nextP (planAt bs k) (modU (bs.getD k 0)) (tgt k) = (planAt bs (k + 1), 0) := by
  unfold nextP
  rw [planAt_may bs k (by omega), modU_range, tgt_full, planAt_ver]
  rw [if_pos (by rfl), if_neg (by omega)]
  simp [planAt]
theorem plansTo_succ (bs : List Int) (k : Nat) : plansTo bs (k + 1) = plansTo bs k ++ [planAt bs (k + 1)] := by
  unfold plansTo; rw [List.range_succ]; simp
theorem plansTo_len (bs : List Int) (k : Nat) : (plansTo bs k).length = k + 1 := by simp [plansTo]
theorem plansTo_get (bs : List Int) {k j : Nat} (h : j < k + 1) : (plansTo bs k).getD j (0, 0, []) = planAt bs j := by
  simp [plansTo, List.getD_eq_getElem?_getD, h]
theorem planAt_join (bs : List Int) (a b : Nat) : joinP (planAt bs a) (planAt bs b) = planAt bs (max a b) := by
  unfold joinP
  rcases Nat.lt_trichotomy a b with h | h | h
  · rw [if_pos, Nat.max_eq_right (by omega)]
    unfold cmpP
    rw [planAt_ver, planAt_ver]
    simp [orL, cmpI, show ¬ (b : Int) < a by omega, show ¬ (b : Int) = a by omega]
    omega
  · subst h; simp
  · rw [if_neg, Nat.max_eq_left (by omega)]
    unfold cmpP
    rw [planAt_ver, planAt_ver]
    simp [orL, cmpI, show (b : Int) < a by omega]
theorem mx_lt {k n : Nat} (hn : 0 < n) : ∀ i, mx k n i < n
  | 0 => hn
  | i + 1 => by
    have := mx_lt hn (k := k) i
    have := Nat.mod_lt (i + k) hn
    simp only [mx]; omega
theorem mx_ge {k n : Nat} : ∀ {i j : Nat}, j < i → (j + k) % n ≤ mx k n i
  | i + 1, j, h => by
    simp only [mx]
    rcases Nat.lt_or_ge j i with h1 | h1
    · have := mx_ge (k := k) (n := n) h1; omega
    · have : j = i := by omega
      subst this; omega
theorem mx_all {k n : Nat} (h : k < n) : mx k n n = n - 1 := by
  have h1 := mx_lt (k := k) (n := n) (by omega) n
  have h2 := mx_ge (k := k) (n := n) (i := n) (j := n - 1 - k) (by omega)
  rw [show n - 1 - k + k = n - 1 by omega, Nat.mod_eq_of_lt (by omega)] at h2
  omega
theorem planAt_small (bs : List Int) (k : Nat) : (planAt bs k).2.2.length ≤ 16 := by
  cases k with
  | zero => simp [planAt]
  | succ k => simp [planAt, tgt_len]

theorem l5i : ∀ st out, (L5i.sp st).reach out → CodeOK Try.prog Try.f5.ntmps (.loop (loopAt (bodyOf Try.f5) 1)) st out := by
  refine L5i.sound EL_ok (lps := []) (n := 100) (inner rfl) (fun _ => rfl) ?_
  rintro ⟨bs, k, i, p, q, all, tg, l0, n1, i2⟩ ⟨h1, h2, h3, h4, h5, h6⟩
  simp only at h1 h2 h3 h4 h5 h6
  rw [r5i]
  simp only [Tree.all, decide_eq_true_eq, decide_eq_false_iff_not, true_and, and_true, LoopC.Next, implies_true, h3]
  refine ⟨fun c => ⟨by omega, ⟨h1, c⟩, ⟨h1, c⟩, ?_⟩, fun c => ?_⟩
  · rw [i64_succ h1 c (by omega), IntWalk.i64_in (i + i2) (by omega), Int.tmod_eq_emod_of_nonneg (by omega)]
    refine ⟨⟨by dsimp only; omega, by dsimp only; omega, by simpa using h3, h4, h5, ?_⟩, by simp only [L5i]; omega, rfl⟩
    dsimp only
    have ht : i2.toNat < (tgt i).length := by rw [tgt_len]; omega
    rw [toNat_succ h1, set_take_succ _ (by omega), h6, List.take_succ_eq_append_getElem ht]
    congr 2
    have := tgt_get (i := i) (k := i2.toNat) (by omega)
    rw [getD_get 0 ht] at this
    rw [this]
    omega
  · have : i2 = 16 := by omega
    subst this
    rwa [show (16 : Int).toNat = 16 from rfl, List.take_of_length_le (by omega), List.take_of_length_le (by rw [tgt_len]; omega)] at h6
theorem l5 : LpsOK Try.prog Try.f5 [(0, viaP [(6, Plan)] L5.sp), (1, L5i.sp), (2, L5b.sp)] := by
  refine .cons (viaP_ok (L5.sound EL_ok (lps := [(1, L5i.sp)]) (n := 100) ?_ (fun _ => rfl) ?_)) (.cons l5i (.cons (L5b.sound EL_ok (lps := []) (n := 100) (inner rfl) (fun _ => rfl) ?_) .nil))
  · exact (LpsOK.cons l5i .nil).within (by kernel_rfl)
  · rintro ⟨bs, k, i1, i2, i3, l4, l5⟩ ⟨h1, h2, h3, h4, h5⟩
    simp only at h1 h2 h3 h4 h5
    rw [r5]
    simp only [Tree.all, decide_eq_true_eq, decide_eq_false_iff_not, true_and, and_true, LoopC.Next, implies_true, bne_iff_ne, ne_eq, bne_eq_false_iff_eq]
    refine ⟨fun c => ?_, fun c => ?_⟩
    · have hs := planAt_small bs i1.toNat
      rw [← h5] at hs
      simp only at hs
      have e := planAt_next bs i1.toNat (by omega)
      rw [← h5, show ((i1.toNat : Nat) : Int) = i1 by omega] at e
      unfold modU at e
      rw [e]
      refine ⟨⟨h1, c⟩, ⟨h1, c⟩, by omega, by omega, by omega, ⟨by omega, by omega⟩, fun h => absurd rfl h, fun _ => ⟨?_, ?_⟩⟩
      · rw [h4, plansTo_len]; omega
      · rw [i64_succ h1 c (by omega)]
        refine ⟨⟨by dsimp only; omega, by dsimp only; omega, h3, ?_, ?_⟩, by simp only [L5]; omega, rfl⟩
        · dsimp only; rw [toNat_succ h1, h4, plansTo_succ]
        · dsimp only; rw [toNat_succ h1]
    · have : i1.toNat = bs.length := by omega
      rw [this] at h4 h5
      exact ⟨congrArg (·.1) h5, congrArg (·.2.1) h5, h4, congrArg (·.2.2) h5⟩
  · rintro ⟨bs, l0, l1, n2, n3, n4, i5, i6, i7, l8⟩ ⟨h1, h2, h3, h4, h5, h6, h7⟩
    simp only at h1 h2 h3 h4 h5 h6 h7
    rw [r5b]
    have hlen : l0.length = bs.length + 1 := by rw [h4, plansTo_len]
    simp only [Tree.all, decide_eq_true_eq, decide_eq_false_iff_not, true_and, and_true, LoopC.Next, implies_true]
    refine ⟨fun c => ?_, fun c => ?_⟩
    · rw [IntWalk.i64_in (i5 + n2) (by omega), Int.tmod_eq_emod_of_nonneg (by omega)]
      have m0 := Int.emod_nonneg (i5 + n2) (b := (l0.length : Int)) (by omega)
      have m1 := Int.emod_lt_of_pos (i5 + n2) (b := (l0.length : Int)) (by omega)
      have em : ((i5 + n2) % (l0.length : Int)).toNat = (i5.toNat + n2.toNat) % (bs.length + 1) := by
        rw [hlen] at *
        have : i5 + n2 = ((i5.toNat + n2.toNat : Nat) : Int) := by omega
        rw [this]
        exact_mod_cast rfl
      have ml := Nat.mod_lt (i5.toNat + n2.toNat) (show 0 < bs.length + 1 by omega)
      have hg : l0.getD ((i5 + n2) % (l0.length : Int)).toNat (0, 0, []) = planAt bs ((i5.toNat + n2.toNat) % (bs.length + 1)) := by
        rw [em, h4, plansTo_get bs ml]
      have hs := planAt_small bs ((i5.toNat + n2.toNat) % (bs.length + 1))
      have hs2 := planAt_small bs (mx n2.toNat (bs.length + 1) i5.toNat)
      rw [← h7] at hs2
      simp only at hs2
      rw [hg, h7, planAt_join]
      refine ⟨by omega, ⟨m0, m1⟩, ⟨m0, m1⟩, ⟨by omega, by omega⟩, ?_⟩
      rw [i64_succ h1 c (by omega)]
      exact ⟨⟨by dsimp only; omega, by dsimp only; omega, h3, h4, h5, h6, by dsimp only; rw [toNat_succ h1]; rfl⟩, by simp only [L5b]; omega, rfl⟩
    · have : i5.toNat = bs.length + 1 := by omega
      rw [this, mx_all (by omega), Nat.add_sub_cancel] at h7
      exact ⟨congrArg (·.1) h7, congrArg (·.2.1) h7, congrArg (·.2.2) h7⟩
theorem body5 : Try.f5.body = some (bodyOf Try.f5) := by kernel_rfl
theorem row_ok : PureOK Try.prog 5 [ints, i64] [.bool] (fun _ => True) (fun _ => (true, ())) :=
  fn_pure (E := EL) (n := 100) EL_ok Try.func5 body5 l5 fun x _ => by
    obtain ⟨bs, k, _⟩ : List Int × Int × Unit := x
    refine Tree.all_eq (t5 bs k) ?_
    simp only [Tree.all, decide_eq_true_eq, decide_eq_false_iff_not, true_and, and_true, implies_true, beq_iff_eq, beq_eq_false_iff_ne, ne_eq]
    refine ⟨fun _ => rfl, fun c => ?_⟩
    have hs := planAt_small bs bs.length
    rw [IntWalk.u64_in ((plansTo bs bs.length).length : Int) (by rw [plansTo_len]; omega), plansTo_len]
    obtain ⟨r, er, r0, r1⟩ := umod k ((bs.length + 1 : Nat) : Int) (by omega) (by omega)
    rw [er]
    refine ⟨⟨by omega, by omega, by omega, rfl, rfl⟩, by omega, ⟨by omega, by omega, by omega, by omega, by omega, rfl⟩, by omega, fun _ => ⟨fun _ => rfl, fun h => absurd (planAt_ver bs bs.length) h⟩, fun h => ?_⟩
    simp [sameF] at h
end Pl
