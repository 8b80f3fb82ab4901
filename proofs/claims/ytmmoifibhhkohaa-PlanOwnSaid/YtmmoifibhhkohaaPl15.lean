import Derived.Test.YtmmoifibhhkohaaPl14
import Derived.Test.YtmmoifibhhkohaaSx29
namespace Pl
open Go Sx Go.Proofs Go.RowKit
structure A4a where
  v : Int
  b : Int
  l : List Int
  x : Int
  l0 : List Int
  l1 : List Int
  l2 : List Int
  l3 : List Int
  n4 : Int
  n5 : Int
  n6 : Int
  n7 : Int
  n8 : Int
  i9 : Int
def L4a : LoopC A4a where
  n0 := 10
  det st := match intG st 1 0, intG st 1 1, rowG st 0 i64, intS st 2, rowG st 9 i64, rowG st 6 i64, rowG st 4 i64, rowG st 3 i64, intS st 9, intG st 7 0, intG st 7 1, intG st 5 0, intG st 5 1, intS st 48 with | some v, some b, some l, some x, some l0, some l1, some l2, some l3, some n4, some n5, some n6, some n7, some n8, some i9 => some ⟨v, b, l, x, l0, l1, l2, l3, n4, n5, n6, n7, n8, i9⟩ | _, _, _, _, _, _, _, _, _, _, _, _, _, _ => none
  inv a := ⟨[(48, iv a.i9), (47, iv (↑a.l1.length : Int)), (11, .one (.row 9)), (10, .one (.ptr 7 0)), (9, iv a.n4), (8, .one (.ptr 5 0)), (7, .one (.row 3)), (3, .one (.ptr 1 0)), (2, iv a.x)],
    [(9, .own i64 a.l0), (7, .blk [.int .i64 a.n5, .int .i64 a.n6, .row 6]), (6, .own i64 a.l1), (5, .blk [.int .i64 a.n7, .int .i64 a.n8, .row 4]), (4, .own i64 a.l2), (3, .own i64 a.l3), (1, .blk [.int .i64 a.v, .int .i64 a.b, .row 0]), (0, .ro i64 a.l)], 10⟩
  ok a := 0 ≤ a.i9 ∧ a.i9 ≤ a.l1.length ∧ (a.l1.length : Int) < big
  mu a := a.l1.length - a.i9.toNat
  fin a := .leaf ⟨2, ⟨[(11, .one (.row 9)), (9, iv a.n4), (8, .one (.ptr 5 0)), (7, .one (.row 3)), (3, .one (.ptr 1 0)), (2, iv a.x)],
    [(9, .own i64 a.l0), (5, .blk [.int .i64 a.n7, .int .i64 a.n8, .row 4]), (4, .own i64 a.l2), (3, .own i64 a.l3), (1, .blk [.int .i64 a.v, .int .i64 a.b, .row 0]), (0, .ro i64 a.l)], 10⟩⟩
structure A4b where
  v : Int
  b : Int
  l : List Int
  x : Int
  l0 : List Int
  l1 : List Int
  l2 : List Int
  n3 : Int
  n4 : Int
  n5 : Int
  i6 : Int
def L4b : LoopC A4b where
  n0 := 10
  det st := match intG st 1 0, intG st 1 1, rowG st 0 i64, intS st 2, rowG st 9 i64, rowG st 4 i64, rowG st 3 i64, intS st 9, intG st 5 0, intG st 5 1, intS st 59 with | some v, some b, some l, some x, some l0, some l1, some l2, some n3, some n4, some n5, some i6 => some ⟨v, b, l, x, l0, l1, l2, n3, n4, n5, i6⟩ | _, _, _, _, _, _, _, _, _, _, _ => none
  inv a := ⟨[(59, iv a.i6), (58, iv (16 : Int)), (11, .one (.row 9)), (9, iv a.n3), (8, .one (.ptr 5 0)), (7, .one (.row 3)), (3, .one (.ptr 1 0)), (2, iv a.x)],
    [(9, .own i64 a.l0), (5, .blk [.int .i64 a.n4, .int .i64 a.n5, .row 4]), (4, .own i64 a.l1), (3, .own i64 a.l2), (1, .blk [.int .i64 a.v, .int .i64 a.b, .row 0]), (0, .ro i64 a.l)], 10⟩
  ok a := 0 ≤ a.i6 ∧ a.i6 ≤ 16 ∧ a.l2.length = 16
  mu a := 16 - a.i6.toNat
  fin a := .leaf ⟨4, ⟨[(11, .one (.row 9)), (9, iv a.n3), (8, .one (.ptr 5 0)), (3, .one (.ptr 1 0))],
    [(9, .own i64 a.l0), (5, .blk [.int .i64 a.n4, .int .i64 a.n5, .row 4]), (4, .own i64 a.l1), (1, .blk [.int .i64 a.v, .int .i64 a.b, .row 0]), (0, .ro i64 a.l)], 10⟩⟩
structure A4c where
  v : Int
  b : Int
  l : List Int
  l0 : List Int
  l1 : List Int
  n2 : Int
  i3 : Int
def L4c : LoopC A4c where
  n0 := 10
  det st := match intG st 1 0, intG st 1 1, rowG st 0 i64, rowG st 9 i64, rowG st 4 i64, intS st 9, intS st 70 with | some v, some b, some l, some l0, some l1, some n2, some i3 => some ⟨v, b, l, l0, l1, n2, i3⟩ | _, _, _, _, _, _, _ => none
  inv a := ⟨[(70, iv a.i3), (69, iv (↑a.l1.length : Int)), (68, .one (.row 4)), (11, .one (.row 9)), (9, iv a.n2), (3, .one (.ptr 1 0))],
    [(9, .own i64 a.l0), (4, .own i64 a.l1), (1, .blk [.int .i64 a.v, .int .i64 a.b, .row 0]), (0, .ro i64 a.l)], 10⟩
  ok a := (a.n2 = 0 → ∀ t ∈ a.l1, t = 0) ∧ a.l1.length ≤ 16 ∧ 0 ≤ a.i3 ∧ a.i3 ≤ a.l1.length
  mu a := a.l1.length - a.i3.toNat
  fin a := .leaf ⟨6, ⟨[(11, .one (.row 9)), (9, iv a.n2), (3, .one (.ptr 1 0))],
    [(9, .own i64 a.l0), (1, .blk [.int .i64 a.v, .int .i64 a.b, .row 0]), (0, .ro i64 a.l)], 10⟩⟩
theorem r4a (v b : Int) (l : List Int) (x : Int) (l0 l1 l2 l3 : List Int) (n4 n5 n6 n7 n8 i9 : Int) : @Eq _
  (L4a.round HL [] 100 Try.f4 0 ⟨v, b, l, x, l0, l1, l2, l3, n4, n5, n6, n7, n8, i9⟩)
  (.fork (decide (i9 < (↑l1.length : Int))) (
 .req ((0 : Int) ≤ i9 ∧ i9 < (↑l1.length : Int)) (
  .req ((0 : Int) ≤ i9 ∧ i9 < (↑l1.length : Int)) (
   .req (IntKind.i64.wrap (i9 + (1 : Int)) = IntKind.i64.wrap (i9 + (1 : Int)) ∧ (↑l1.length : Int) = (↑(l1.set i9.toNat x).length : Int) ∧ n4 = n4 ∧ x = x ∧ l0 = l0 ∧ n5 = n5 ∧ n6 = n6 ∧ l1.set i9.toNat x = l1.set i9.toNat x ∧ n7 = n7 ∧ n8 = n8 ∧ l2 = l2 ∧ l3 = l3 ∧ v = v ∧ b = b ∧ l = l) (
    .leaf (Option.some { v := v, b := b, l := l, x := x, l0 := l0, l1 := l1.set i9.toNat x, l2 := l2, l3 := l3, n4 := n4, n5 := n5, n6 := n6, n7 := n7, n8 := n8, i9 := IntKind.i64.wrap (i9 + (1 : Int)) }))))) (
 .req (n4 = n4 ∧ x = x ∧ l0 = l0 ∧ n7 = n7 ∧ n8 = n8 ∧ l2 = l2 ∧ l3 = l3 ∧ v = v ∧ b = b ∧ l = l) (
  .leaf (Option.none)))) := by kernel_rfl
theorem r4b (v b : Int) (l : List Int) (x : Int) (l0 l1 l2 : List Int) (n3 n4 n5 i6 : Int) : @Eq _
  (L4b.round HL [] 100 Try.f4 1 ⟨v, b, l, x, l0, l1, l2, n3, n4, n5, i6⟩)
  (.fork (decide (i6 < (16 : Int))) (
 .req ((0 : Int) ≤ i6 ∧ i6 < (↑l2.length : Int)) (
  .req ((0 : Int) ≤ i6 ∧ i6 < (↑l2.length : Int)) (
   .req (IntKind.i64.wrap (i6 + (1 : Int)) = IntKind.i64.wrap (i6 + (1 : Int)) ∧ (16 : Int) = (16 : Int) ∧ n3 = n3 ∧ x = x ∧ l0 = l0 ∧ n4 = n4 ∧ n5 = n5 ∧ l1 = l1 ∧ l2.set i6.toNat x = l2.set i6.toNat x ∧ v = v ∧ b = b ∧ l = l) (
    .leaf (Option.some { v := v, b := b, l := l, x := x, l0 := l0, l1 := l1, l2 := l2.set i6.toNat x, n3 := n3, n4 := n4, n5 := n5, i6 := IntKind.i64.wrap (i6 + (1 : Int)) }))))) (
 .req (n3 = n3 ∧ l0 = l0 ∧ n4 = n4 ∧ n5 = n5 ∧ l1 = l1 ∧ v = v ∧ b = b ∧ l = l) (
  .leaf (Option.none)))) := by kernel_rfl
theorem r4c (v b : Int) (l l0 l1 : List Int) (n2 i3 : Int) : @Eq _
  (L4c.round HL [] 100 Try.f4 2 ⟨v, b, l, l0, l1, n2, i3⟩)
  (.fork (decide (i3 < (↑l1.length : Int))) (
 .req ((0 : Int) ≤ i3 ∧ i3 < (↑l1.length : Int)) (
  .req ((0 : Int) ≤ i3 ∧ i3 < (↑l1.length : Int)) (
   .fork (n2 == (0 : Int)) (
    .fork (l1.getD i3.toNat (0 : Int) != (0 : Int)) (
     .req (False) (
      .leaf (Option.none))) (
     .fork (decide (i3 ≥ (16 : Int))) (
      .req (False) (
       .leaf (Option.none))) (
      .req (IntKind.i64.wrap (i3 + (1 : Int)) = IntKind.i64.wrap (i3 + (1 : Int)) ∧ (↑l1.length : Int) = (↑l1.length : Int) ∧ n2 = n2 ∧ l0 = l0 ∧ l1 = l1 ∧ v = v ∧ b = b ∧ l = l) (
       .leaf (Option.some { v := v, b := b, l := l, l0 := l0, l1 := l1, n2 := n2, i3 := IntKind.i64.wrap (i3 + (1 : Int)) }))))) (
    .fork (decide (i3 ≥ (16 : Int))) (
     .req (False) (
      .leaf (Option.none))) (
     .req (IntKind.i64.wrap (i3 + (1 : Int)) = IntKind.i64.wrap (i3 + (1 : Int)) ∧ (↑l1.length : Int) = (↑l1.length : Int) ∧ n2 = n2 ∧ l0 = l0 ∧ l1 = l1 ∧ v = v ∧ b = b ∧ l = l) (
      .leaf (Option.some { v := v, b := b, l := l, l0 := l0, l1 := l1, n2 := n2, i3 := IntKind.i64.wrap (i3 + (1 : Int)) }))))))) (
 .req (n2 = n2 ∧ l0 = l0 ∧ v = v ∧ b = b ∧ l = l) (
  .leaf (Option.none)))) := by kernel_rfl
theorem t4 (v b : Int) (l : List Int) (n x : Int) : @Eq _
  (fnT HL [(0, L4a.sp), (1, L4b.sp), (2, L4c.sp)] 100 Try.f4 [Plan, i64, i64] [.bool] ((v, b, l), n, x, ()))
  (.req ((1 : Int) < (4611686018427387904 : Int)) (
 .fork (!Pl.fewL [(v, b, l)]) (
  .req (True) (
   .leaf ((true, ())))) (
  .req ((↑l.length : Int) < (4611686018427387904 : Int)) (
   .fork (!Pl.mayB (v, b, l)) (
    .req (True) (
     .leaf ((true, ())))) (
    .req ((8 : Int) ≠ (0 : Int)) (
     .req ((0 : Int) ≤ (16 : Int) ∧ (16 : Int) ≤ (16 : Int) ∧ (128 : Int) ≤ (140737488355328 : Int) ∧ (16 : Int) ≤ (140737488355328 : Int)) (
      .req ((↑l.length : Int) < (17592186044416 : Int) ∧ (16 : Int) < (17592186044416 : Int)) (
       .req ((↑l.length : Int) < (17592186044416 : Int) ∧ (0 : Int) < (17592186044416 : Int)) (
        .req ((0 + (Pl.joinP (v, b, l) ((0 : Int), (0 : Int), [])).2.2.length) * 9 ≤ 70368744177664) (
         .req ((0 : Int) ≤ (0 : Int) ∧ (0 : Int) ≤ (↑(Pl.joinP (v, b, l) ((0 : Int), (0 : Int), [])).2.2.length : Int) ∧ (↑(Pl.joinP (v, b, l) ((0 : Int), (0 : Int), [])).2.2.length : Int) < (4611686018427387904 : Int)) (
          .req ((0 : Int) = (0 : Int) ∧ (↑(Pl.joinP (v, b, l) ((0 : Int), (0 : Int), [])).2.2.length : Int) = (↑(Pl.joinP (v, b, l) ((0 : Int), (0 : Int), [])).2.2.length : Int) ∧ (Pl.nextP (v, b, l) (IntKind.i64.wrap ((IntKind.u64.wrap n).tmod (8 : Int))) [(0 : Int), (0 : Int), (0 : Int), (0 : Int), (0 : Int), (0 : Int), (0 : Int), (0 : Int), (0 : Int), (0 : Int), (0 : Int), (0 : Int), (0 : Int), (0 : Int), (0 : Int), (0 : Int)]).2 = (Pl.nextP (v, b, l) (IntKind.i64.wrap ((IntKind.u64.wrap n).tmod (8 : Int))) [(0 : Int), (0 : Int), (0 : Int), (0 : Int), (0 : Int), (0 : Int), (0 : Int), (0 : Int), (0 : Int), (0 : Int), (0 : Int), (0 : Int), (0 : Int), (0 : Int), (0 : Int), (0 : Int)]).2 ∧ x = x ∧ [] ++ (Pl.joinP (v, b, l) ((0 : Int), (0 : Int), [])).2.2 = [] ++ (Pl.joinP (v, b, l) ((0 : Int), (0 : Int), [])).2.2 ∧ (Pl.joinP (v, b, l) ((0 : Int), (0 : Int), [])).1 = (Pl.joinP (v, b, l) ((0 : Int), (0 : Int), [])).1 ∧ (Pl.joinP (v, b, l) ((0 : Int), (0 : Int), [])).2.1 = (Pl.joinP (v, b, l) ((0 : Int), (0 : Int), [])).2.1 ∧ (Pl.joinP (v, b, l) ((0 : Int), (0 : Int), [])).2.2 = (Pl.joinP (v, b, l) ((0 : Int), (0 : Int), [])).2.2 ∧ (Pl.nextP (v, b, l) (IntKind.i64.wrap ((IntKind.u64.wrap n).tmod (8 : Int))) [(0 : Int), (0 : Int), (0 : Int), (0 : Int), (0 : Int), (0 : Int), (0 : Int), (0 : Int), (0 : Int), (0 : Int), (0 : Int), (0 : Int), (0 : Int), (0 : Int), (0 : Int), (0 : Int)]).1.1 = (Pl.nextP (v, b, l) (IntKind.i64.wrap ((IntKind.u64.wrap n).tmod (8 : Int))) [(0 : Int), (0 : Int), (0 : Int), (0 : Int), (0 : Int), (0 : Int), (0 : Int), (0 : Int), (0 : Int), (0 : Int), (0 : Int), (0 : Int), (0 : Int), (0 : Int), (0 : Int), (0 : Int)]).1.1 ∧ (Pl.nextP (v, b, l) (IntKind.i64.wrap ((IntKind.u64.wrap n).tmod (8 : Int))) [(0 : Int), (0 : Int), (0 : Int), (0 : Int), (0 : Int), (0 : Int), (0 : Int), (0 : Int), (0 : Int), (0 : Int), (0 : Int), (0 : Int), (0 : Int), (0 : Int), (0 : Int), (0 : Int)]).1.2.1 = (Pl.nextP (v, b, l) (IntKind.i64.wrap ((IntKind.u64.wrap n).tmod (8 : Int))) [(0 : Int), (0 : Int), (0 : Int), (0 : Int), (0 : Int), (0 : Int), (0 : Int), (0 : Int), (0 : Int), (0 : Int), (0 : Int), (0 : Int), (0 : Int), (0 : Int), (0 : Int), (0 : Int)]).1.2.1 ∧ (Pl.nextP (v, b, l) (IntKind.i64.wrap ((IntKind.u64.wrap n).tmod (8 : Int))) [(0 : Int), (0 : Int), (0 : Int), (0 : Int), (0 : Int), (0 : Int), (0 : Int), (0 : Int), (0 : Int), (0 : Int), (0 : Int), (0 : Int), (0 : Int), (0 : Int), (0 : Int), (0 : Int)]).1.2.2 = (Pl.nextP (v, b, l) (IntKind.i64.wrap ((IntKind.u64.wrap n).tmod (8 : Int))) [(0 : Int), (0 : Int), (0 : Int), (0 : Int), (0 : Int), (0 : Int), (0 : Int), (0 : Int), (0 : Int), (0 : Int), (0 : Int), (0 : Int), (0 : Int), (0 : Int), (0 : Int), (0 : Int)]).1.2.2 ∧ [(0 : Int), (0 : Int), (0 : Int), (0 : Int), (0 : Int), (0 : Int), (0 : Int), (0 : Int), (0 : Int), (0 : Int), (0 : Int), (0 : Int), (0 : Int), (0 : Int), (0 : Int), (0 : Int)] = [(0 : Int), (0 : Int), (0 : Int), (0 : Int), (0 : Int), (0 : Int), (0 : Int), (0 : Int), (0 : Int), (0 : Int), (0 : Int), (0 : Int), (0 : Int), (0 : Int), (0 : Int), (0 : Int)] ∧ v = v ∧ b = b ∧ l = l) (
           .req ((0 : Int) ≤ (0 : Int) ∧ (0 : Int) ≤ (16 : Int) ∧ 16 = 16) (
            .req ((0 : Int) = (0 : Int) ∧ (16 : Int) = (16 : Int) ∧ (Pl.nextP (v, b, l) (IntKind.i64.wrap ((IntKind.u64.wrap n).tmod (8 : Int))) [(0 : Int), (0 : Int), (0 : Int), (0 : Int), (0 : Int), (0 : Int), (0 : Int), (0 : Int), (0 : Int), (0 : Int), (0 : Int), (0 : Int), (0 : Int), (0 : Int), (0 : Int), (0 : Int)]).2 = (Pl.nextP (v, b, l) (IntKind.i64.wrap ((IntKind.u64.wrap n).tmod (8 : Int))) [(0 : Int), (0 : Int), (0 : Int), (0 : Int), (0 : Int), (0 : Int), (0 : Int), (0 : Int), (0 : Int), (0 : Int), (0 : Int), (0 : Int), (0 : Int), (0 : Int), (0 : Int), (0 : Int)]).2 ∧ x = x ∧ [] ++ (Pl.joinP (v, b, l) ((0 : Int), (0 : Int), [])).2.2 = [] ++ (Pl.joinP (v, b, l) ((0 : Int), (0 : Int), [])).2.2 ∧ (Pl.nextP (v, b, l) (IntKind.i64.wrap ((IntKind.u64.wrap n).tmod (8 : Int))) [(0 : Int), (0 : Int), (0 : Int), (0 : Int), (0 : Int), (0 : Int), (0 : Int), (0 : Int), (0 : Int), (0 : Int), (0 : Int), (0 : Int), (0 : Int), (0 : Int), (0 : Int), (0 : Int)]).1.1 = (Pl.nextP (v, b, l) (IntKind.i64.wrap ((IntKind.u64.wrap n).tmod (8 : Int))) [(0 : Int), (0 : Int), (0 : Int), (0 : Int), (0 : Int), (0 : Int), (0 : Int), (0 : Int), (0 : Int), (0 : Int), (0 : Int), (0 : Int), (0 : Int), (0 : Int), (0 : Int), (0 : Int)]).1.1 ∧ (Pl.nextP (v, b, l) (IntKind.i64.wrap ((IntKind.u64.wrap n).tmod (8 : Int))) [(0 : Int), (0 : Int), (0 : Int), (0 : Int), (0 : Int), (0 : Int), (0 : Int), (0 : Int), (0 : Int), (0 : Int), (0 : Int), (0 : Int), (0 : Int), (0 : Int), (0 : Int), (0 : Int)]).1.2.1 = (Pl.nextP (v, b, l) (IntKind.i64.wrap ((IntKind.u64.wrap n).tmod (8 : Int))) [(0 : Int), (0 : Int), (0 : Int), (0 : Int), (0 : Int), (0 : Int), (0 : Int), (0 : Int), (0 : Int), (0 : Int), (0 : Int), (0 : Int), (0 : Int), (0 : Int), (0 : Int), (0 : Int)]).1.2.1 ∧ (Pl.nextP (v, b, l) (IntKind.i64.wrap ((IntKind.u64.wrap n).tmod (8 : Int))) [(0 : Int), (0 : Int), (0 : Int), (0 : Int), (0 : Int), (0 : Int), (0 : Int), (0 : Int), (0 : Int), (0 : Int), (0 : Int), (0 : Int), (0 : Int), (0 : Int), (0 : Int), (0 : Int)]).1.2.2 = (Pl.nextP (v, b, l) (IntKind.i64.wrap ((IntKind.u64.wrap n).tmod (8 : Int))) [(0 : Int), (0 : Int), (0 : Int), (0 : Int), (0 : Int), (0 : Int), (0 : Int), (0 : Int), (0 : Int), (0 : Int), (0 : Int), (0 : Int), (0 : Int), (0 : Int), (0 : Int), (0 : Int)]).1.2.2 ∧ [(0 : Int), (0 : Int), (0 : Int), (0 : Int), (0 : Int), (0 : Int), (0 : Int), (0 : Int), (0 : Int), (0 : Int), (0 : Int), (0 : Int), (0 : Int), (0 : Int), (0 : Int), (0 : Int)] = [(0 : Int), (0 : Int), (0 : Int), (0 : Int), (0 : Int), (0 : Int), (0 : Int), (0 : Int), (0 : Int), (0 : Int), (0 : Int), (0 : Int), (0 : Int), (0 : Int), (0 : Int), (0 : Int)] ∧ v = v ∧ b = b ∧ l = l) (
             .req (((Pl.nextP (v, b, l) (IntKind.i64.wrap ((IntKind.u64.wrap n).tmod (8 : Int))) [(0 : Int), (0 : Int), (0 : Int), (0 : Int), (0 : Int), (0 : Int), (0 : Int), (0 : Int), (0 : Int), (0 : Int), (0 : Int), (0 : Int), (0 : Int), (0 : Int), (0 : Int), (0 : Int)]).2 = (0 : Int) → ∀ (t : Int), t ∈ (Pl.nextP (v, b, l) (IntKind.i64.wrap ((IntKind.u64.wrap n).tmod (8 : Int))) [(0 : Int), (0 : Int), (0 : Int), (0 : Int), (0 : Int), (0 : Int), (0 : Int), (0 : Int), (0 : Int), (0 : Int), (0 : Int), (0 : Int), (0 : Int), (0 : Int), (0 : Int), (0 : Int)]).1.2.2 → t = (0 : Int)) ∧ (Pl.nextP (v, b, l) (IntKind.i64.wrap ((IntKind.u64.wrap n).tmod (8 : Int))) [(0 : Int), (0 : Int), (0 : Int), (0 : Int), (0 : Int), (0 : Int), (0 : Int), (0 : Int), (0 : Int), (0 : Int), (0 : Int), (0 : Int), (0 : Int), (0 : Int), (0 : Int), (0 : Int)]).1.2.2.length ≤ 16 ∧ (0 : Int) ≤ (0 : Int) ∧ (0 : Int) ≤ (↑(Pl.nextP (v, b, l) (IntKind.i64.wrap ((IntKind.u64.wrap n).tmod (8 : Int))) [(0 : Int), (0 : Int), (0 : Int), (0 : Int), (0 : Int), (0 : Int), (0 : Int), (0 : Int), (0 : Int), (0 : Int), (0 : Int), (0 : Int), (0 : Int), (0 : Int), (0 : Int), (0 : Int)]).1.2.2.length : Int)) (
              .req ((0 : Int) = (0 : Int) ∧ (↑(Pl.nextP (v, b, l) (IntKind.i64.wrap ((IntKind.u64.wrap n).tmod (8 : Int))) [(0 : Int), (0 : Int), (0 : Int), (0 : Int), (0 : Int), (0 : Int), (0 : Int), (0 : Int), (0 : Int), (0 : Int), (0 : Int), (0 : Int), (0 : Int), (0 : Int), (0 : Int), (0 : Int)]).1.2.2.length : Int) = (↑(Pl.nextP (v, b, l) (IntKind.i64.wrap ((IntKind.u64.wrap n).tmod (8 : Int))) [(0 : Int), (0 : Int), (0 : Int), (0 : Int), (0 : Int), (0 : Int), (0 : Int), (0 : Int), (0 : Int), (0 : Int), (0 : Int), (0 : Int), (0 : Int), (0 : Int), (0 : Int), (0 : Int)]).1.2.2.length : Int) ∧ (Pl.nextP (v, b, l) (IntKind.i64.wrap ((IntKind.u64.wrap n).tmod (8 : Int))) [(0 : Int), (0 : Int), (0 : Int), (0 : Int), (0 : Int), (0 : Int), (0 : Int), (0 : Int), (0 : Int), (0 : Int), (0 : Int), (0 : Int), (0 : Int), (0 : Int), (0 : Int), (0 : Int)]).2 = (Pl.nextP (v, b, l) (IntKind.i64.wrap ((IntKind.u64.wrap n).tmod (8 : Int))) [(0 : Int), (0 : Int), (0 : Int), (0 : Int), (0 : Int), (0 : Int), (0 : Int), (0 : Int), (0 : Int), (0 : Int), (0 : Int), (0 : Int), (0 : Int), (0 : Int), (0 : Int), (0 : Int)]).2 ∧ [] ++ (Pl.joinP (v, b, l) ((0 : Int), (0 : Int), [])).2.2 = [] ++ (Pl.joinP (v, b, l) ((0 : Int), (0 : Int), [])).2.2 ∧ (Pl.nextP (v, b, l) (IntKind.i64.wrap ((IntKind.u64.wrap n).tmod (8 : Int))) [(0 : Int), (0 : Int), (0 : Int), (0 : Int), (0 : Int), (0 : Int), (0 : Int), (0 : Int), (0 : Int), (0 : Int), (0 : Int), (0 : Int), (0 : Int), (0 : Int), (0 : Int), (0 : Int)]).1.2.2 = (Pl.nextP (v, b, l) (IntKind.i64.wrap ((IntKind.u64.wrap n).tmod (8 : Int))) [(0 : Int), (0 : Int), (0 : Int), (0 : Int), (0 : Int), (0 : Int), (0 : Int), (0 : Int), (0 : Int), (0 : Int), (0 : Int), (0 : Int), (0 : Int), (0 : Int), (0 : Int), (0 : Int)]).1.2.2 ∧ v = v ∧ b = b ∧ l = l) (
               .req ((↑l.length : Int) < (17592186044416 : Int) ∧ (0 : Int) < (17592186044416 : Int)) (
                .req ((↑(Pl.joinP (v, b, l) ((0 : Int), (0 : Int), [])).2.2.length : Int) < (4611686018427387904 : Int)) (
                 .fork (Pl.sameF (Pl.joinP (v, b, l) ((0 : Int), (0 : Int), [])) (v, b, [] ++ (Pl.joinP (v, b, l) ((0 : Int), (0 : Int), [])).2.2)) (
                  .fork ((Pl.nextP (v, b, l) (IntKind.i64.wrap ((IntKind.u64.wrap n).tmod (8 : Int))) [(0 : Int), (0 : Int), (0 : Int), (0 : Int), (0 : Int), (0 : Int), (0 : Int), (0 : Int), (0 : Int), (0 : Int), (0 : Int), (0 : Int), (0 : Int), (0 : Int), (0 : Int), (0 : Int)]).2 == (0 : Int)) (
                   .req (True) (
                    .leaf ((true, ())))) (
                   .fork ((Pl.nextP (v, b, l) (IntKind.i64.wrap ((IntKind.u64.wrap n).tmod (8 : Int))) [(0 : Int), (0 : Int), (0 : Int), (0 : Int), (0 : Int), (0 : Int), (0 : Int), (0 : Int), (0 : Int), (0 : Int), (0 : Int), (0 : Int), (0 : Int), (0 : Int), (0 : Int), (0 : Int)]).2 == (6 : Int)) (
                    .fork (v == (1000000 : Int)) (
                     .req (True) (
                      .leaf ((true, ())))) (
                     .leaf ((false, ())))) (
                    .leaf ((false, ()))))) (
                  .leaf ((false, ()))))))))))))))))))))) := by kernel_rfl
theorem l4 : LpsOK Try.prog Try.f4 [(0, L4a.sp), (1, L4b.sp), (2, L4c.sp)] := by
  refine .cons (L4a.sound HL_ok (lps := []) (n := 100) (inner rfl) (fun _ => rfl) ?_) (.cons (L4b.sound HL_ok (lps := []) (n := 100) (inner rfl) (fun _ => rfl) ?_) (.cons (L4c.sound HL_ok (lps := []) (n := 100) (inner rfl) (fun _ => rfl) ?_) .nil))
  · rintro ⟨v, b, l, x, l0, l1, l2, l3, n4, n5, n6, n7, n8, i9⟩ ⟨h1, h2, h3⟩
    simp only at h1 h2 h3
    rw [r4a]
    simp only [Tree.all, decide_eq_true_eq, decide_eq_false_iff_not, List.length_set, true_and, and_true, LoopC.Next, implies_true]
    refine fun c => ⟨⟨h1, c⟩, ⟨h1, c⟩, ?_⟩
    rw [wrap1 h1 (by omega)]
    exact ⟨⟨by dsimp only; omega, by simp only [List.length_set]; omega, by simpa using h3⟩, by simp only [L4a, List.length_set]; omega, rfl⟩
  · rintro ⟨v, b, l, x, l0, l1, l2, n3, n4, n5, i6⟩ ⟨h1, h2, h3⟩
    simp only at h1 h2 h3
    rw [r4b]
    simp only [Tree.all, decide_eq_true_eq, decide_eq_false_iff_not, true_and, and_true, LoopC.Next, implies_true, h3]
    refine fun c => ⟨⟨h1, c⟩, ⟨h1, c⟩, ?_⟩
    rw [wrap1 h1 (by unfold big; omega)]
    exact ⟨⟨by dsimp only; omega, by dsimp only; omega, by simpa using h3⟩, by simp only [L4b]; omega, rfl⟩
  · rintro ⟨v, b, l, l0, l1, n2, i3⟩ ⟨h0, h1, h2, h3⟩
    simp only at h0 h1 h2 h3
    rw [r4c]
    simp only [Tree.all, decide_eq_true_eq, decide_eq_false_iff_not, true_and, and_true, LoopC.Next, implies_true, beq_iff_eq, bne_iff_ne, ne_eq, beq_eq_false_iff_ne, bne_eq_false_iff_eq]
    refine fun c => ⟨⟨h2, c⟩, ⟨h2, c⟩, ?_⟩
    have hm : l1.getD i3.toNat 0 ∈ l1 := by
      have : i3.toNat < l1.length := by omega
      simp [List.getD_eq_getElem?_getD, this]
    rw [wrap1 h2 (by unfold big; omega)]
    have fin : (L4c.ok ⟨v, b, l, l0, l1, n2, i3 + 1⟩ ∧ L4c.mu ⟨v, b, l, l0, l1, n2, i3 + 1⟩ < L4c.mu ⟨v, b, l, l0, l1, n2, i3⟩ ∧ L4c.fin ⟨v, b, l, l0, l1, n2, i3⟩ = L4c.fin ⟨v, b, l, l0, l1, n2, i3 + 1⟩) :=
      ⟨⟨h0, h1, by dsimp only; omega, by dsimp only; omega⟩, by simp only [L4c]; omega, rfl⟩
    exact ⟨fun d => ⟨fun e => absurd (h0 d _ hm) e, fun e => ⟨by omega, fun _ => fin⟩⟩, fun d => ⟨by omega, fun _ => fin⟩⟩
theorem next_may {p : PlanD} {n : Int} {t : List Int} (h1 : mayB p = true) (h2 : nodeB n = true) (h3 : fullB t = true) : nextP p n t = if p.1 = 1000000 then ((0, 0, []), 6) else ((p.1 + 1, n, t), 0) := by
  simp [nextP, h1, h2, h3]
theorem join_zero {p : PlanD} (h : mayB p = true) : joinP p (0, 0, []) = p := by
  obtain ⟨v, b, l⟩ := p
  unfold joinP
  rw [if_neg]
  unfold mayB at h
  split at h
  · rename_i h0
    have : l = [] := List.eq_nil_of_length_eq_zero h0
    subst this
    simp at h
    obtain ⟨rfl, rfl⟩ := h
    decide
  · simp at h
    have h1 : 1 ≤ v := h.1.1.1
    simp only [cmpP, orL, cmpI]
    rw [if_pos (show (0 : Int) < v by omega)]
    simp
theorem own_t (v b : Int) (l : List Int) (n x : Int) : (fnT HL [(0, L4a.sp), (1, L4b.sp), (2, L4c.sp)] 100 Try.f4 [Plan, i64, i64] [.bool] ((v, b, l), n, x, ())).all fun r => r = (true, ()) := by
  rw [t4]
  simp only [Tree.all, decide_eq_true_eq, decide_eq_false_iff_not, true_and, and_true, implies_true, Bool.not_eq_true', Bool.not_eq_false', beq_iff_eq, beq_eq_false_iff_ne, ne_eq]
  refine ⟨by omega, fun _ => rfl, fun c0 => ?_⟩
  have hl : l.length ≤ 100 := by simpa [fewL] using c0
  refine ⟨by omega, fun _ => rfl, fun c1 => ?_⟩
  obtain ⟨r, er, hr0, hr1⟩ := umod n 8 (by omega) (by omega)
  rw [er]
  have hn : nodeB r = true := by simp [nodeB, hr0, hr1]
  have hf : fullB [(0 : Int), 0, 0, 0, 0, 0, 0, 0, 0, 0, 0, 0, 0, 0, 0, 0] = true := by decide
  rw [next_may c1 hn hf, join_zero c1]
  simp only [List.nil_append]
  have hs : sameF (v, b, l) (v, b, l) = true := by simp [sameF]
  rw [hs]
  have hz : ∀ q : PlanD × Int, q = (if v = 1000000 then (((0 : Int), (0 : Int), ([] : List Int)), (6 : Int)) else ((v + 1, r, [(0 : Int), 0, 0, 0, 0, 0, 0, 0, 0, 0, 0, 0, 0, 0, 0, 0]), 0)) → (q.2 = 0 → ∀ t : Int, t ∈ q.1.2.2 → t = 0) ∧ q.1.2.2.length ≤ 16 ∧ (q.2 = 0 ∨ q.2 = 6 ∧ v = 1000000) := by
    rintro q rfl
    split
    · rename_i h; exact ⟨by simp, by simp, .inr ⟨rfl, h⟩⟩
    · exact ⟨fun _ t ht => by simpa using ht, by simp, .inl rfl⟩
  generalize hq : (if v = 1000000 then (((0 : Int), (0 : Int), ([] : List Int)), (6 : Int)) else ((v + 1, r, [(0 : Int), 0, 0, 0, 0, 0, 0, 0, 0, 0, 0, 0, 0, 0, 0, 0]), 0)) = q
  obtain ⟨q1, q2, q3⟩ := hz q hq.symm
  refine ⟨by omega, by omega, by omega, by omega, by omega, ⟨by omega, by omega, by omega⟩, by omega, ⟨q1, q2, by omega, by omega⟩, by omega, by omega, fun _ => ⟨fun _ => rfl, fun d => ⟨fun _ => ⟨fun _ => rfl, fun h => ?_⟩, fun h => ?_⟩⟩, fun h => by cases h⟩
  · rcases q3 with q3 | ⟨_, q3⟩
    · exact absurd q3 d
    · exact absurd q3 h
  · rcases q3 with q3 | ⟨q3, _⟩
    · exact absurd q3 d
    · exact absurd q3 h
theorem own_ok : PureOK Try.prog 4 [Plan, i64, i64] [.bool] (fun _ => True) (fun _ => (true, ())) :=
  fn_pure (E := HL) (n := 100) HL_ok Try.func4 body4 l4 fun x _ => own_t x.1.1 x.1.2.1 x.1.2.2 x.2.1 x.2.2.1
end Pl
