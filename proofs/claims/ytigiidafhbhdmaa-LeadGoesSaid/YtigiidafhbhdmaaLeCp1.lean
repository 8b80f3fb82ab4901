import Derived.Test.YtigiidafhbhdmaaLeRg4
namespace Pl
open Go Sx Go.Proofs Go.RowKit
def ofL (s : List Int) (f t : Int) : Nat → Nat → List Int
  | 0, _ => []
  | c + 1, j => if decide (s.getD j 0 ≥ f) && decide (s.getD j 0 ≤ t) then (j : Int) :: ofL s f t c (j + 1) else ofL s f t c (j + 1)
def mvB (r : RingD) (n p : Int) : Bool := nodeB n && (ownerR r p == n && (!(targetR r p == -1) && !(targetR r p == n)))
def mvL (r : RingD) (n : Int) : Nat → Nat → List Int
  | 0, _ => []
  | c + 1, j => if mvB r n j then (j : Int) :: mvL r n c (j + 1) else mvL r n c (j + 1)
structure AOf where
  r : RingD
  from' : Int
  to' : Int
  i0 : Int
  l1 : List Int
def LOf : LoopC AOf where
  n0 := 2
  det st := match (datA st 11 (.rep 8 i64)).map fun (s : List Int) => ((s, (0, 0, []), List.replicate 16 (0, 0)) : RingD), intS st 1, intS st 2, intS st 12, rowS st 7 i64 with | some r, some from', some to', some i0, some l1 => some ⟨r, from', to', i0, l1⟩ | _, _, _, _, _ => none
  rows := [(2, .slot 7)]
  inv a := ⟨[(12, iv a.i0), (11, Tv.agg (stC a.r)), (7, .one (.row 2)), (1, iv a.from'), (2, iv a.to')],
    [(2, .own i64 a.l1)], 3⟩
  ok a := okR a.r ∧ 0 ≤ a.i0 ∧ a.i0 ≤ 8 ∧ (a.l1.length : Int) ≤ a.i0
  mu a := 8 - a.i0.toNat
  fin a := .leaf ⟨2, ⟨[(7, .one (.row 2))], [(2, .own i64 (a.l1 ++ ofL a.r.1 a.from' a.to' (8 - a.i0.toNat) a.i0.toNat))], 3⟩⟩
structure AMv where
  r : RingD
  n : Int
  i0 : Int
  l1 : List Int
def LMv : LoopC AMv where
  n0 := 2
  det st := match datG st 1 0 Ring, intS st 1, intS st 8, rowS st 5 i64 with | some r, some n, some i0, some l1 => some ⟨r, n, i0, l1⟩ | _, _, _, _ => none
  rows := [(2, .slot 5)]
  inv a := ⟨[(8, iv a.i0), (5, .one (.row 2)), (2, .one (.ptr 1 0)), (1, iv a.n)],
    [(1, .blk (rgC a.r 0)), (0, .ro i64 a.r.2.1.2.2), (2, .own i64 a.l1)], 3⟩
  ok a := okR a.r ∧ (a.r.2.1.2.2.length : Int) < small ∧ 0 ≤ a.i0 ∧ a.i0 ≤ 16 ∧ (a.l1.length : Int) ≤ a.i0
  mu a := 16 - a.i0.toNat
  fin a := .leaf ⟨2, ⟨[(5, .one (.row 2))], [(2, .own i64 (a.l1 ++ mvL a.r a.n (16 - a.i0.toNat) a.i0.toNat))], 3⟩⟩
theorem rOf (r : RingD) (from' to' i0 : Int) (l1 : List Int) : @Eq _
  (LOf.round E0 [] 100 Try.f18 0 ⟨r, from', to', i0, l1⟩)
  (.fork (decide (i0 < (8 : Int))) (
 .req ((0 : Int) ≤ i0 ∧ i0 < (8 : Int)) (
  .fork (decide ((tab 8 r.1 (0 : Int)).getD i0.toNat (0 : Int) ≥ from')) (
   .fork (decide ((tab 8 r.1 (0 : Int)).getD i0.toNat (0 : Int) ≤ to')) (
    .req ((l1.length + 1) * 9 ≤ 70368744177664) (
     .req (IntKind.i64.wrap (i0 + (1 : Int)) = IntKind.i64.wrap (i0 + (1 : Int)) ∧ r.1.getD 0 (0 : Int) = (tab 8 r.1 (0 : Int)).getD 0 (0 : Int) ∧ r.1.getD 1 (0 : Int) = (tab 8 r.1 (0 : Int)).getD 1 (0 : Int) ∧ r.1.getD 2 (0 : Int) = (tab 8 r.1 (0 : Int)).getD 2 (0 : Int) ∧ r.1.getD 3 (0 : Int) = (tab 8 r.1 (0 : Int)).getD 3 (0 : Int) ∧ r.1.getD 4 (0 : Int) = (tab 8 r.1 (0 : Int)).getD 4 (0 : Int) ∧ r.1.getD 5 (0 : Int) = (tab 8 r.1 (0 : Int)).getD 5 (0 : Int) ∧ r.1.getD 6 (0 : Int) = (tab 8 r.1 (0 : Int)).getD 6 (0 : Int) ∧ r.1.getD 7 (0 : Int) = (tab 8 r.1 (0 : Int)).getD 7 (0 : Int) ∧ from' = from' ∧ to' = to' ∧ l1 ++ [i0] = l1 ++ [i0]) (
      .leaf (Option.some { r := (tab 8 r.1 (0 : Int), ((0 : Int), (0 : Int), ([] : List Int)), List.replicate 16 ((0 : Int), (0 : Int))), from' := from', to' := to', i0 := IntKind.i64.wrap (i0 + (1 : Int)), l1 := l1 ++ [i0] })))) (
    .req (IntKind.i64.wrap (i0 + (1 : Int)) = IntKind.i64.wrap (i0 + (1 : Int)) ∧ r.1.getD 0 (0 : Int) = (tab 8 r.1 (0 : Int)).getD 0 (0 : Int) ∧ r.1.getD 1 (0 : Int) = (tab 8 r.1 (0 : Int)).getD 1 (0 : Int) ∧ r.1.getD 2 (0 : Int) = (tab 8 r.1 (0 : Int)).getD 2 (0 : Int) ∧ r.1.getD 3 (0 : Int) = (tab 8 r.1 (0 : Int)).getD 3 (0 : Int) ∧ r.1.getD 4 (0 : Int) = (tab 8 r.1 (0 : Int)).getD 4 (0 : Int) ∧ r.1.getD 5 (0 : Int) = (tab 8 r.1 (0 : Int)).getD 5 (0 : Int) ∧ r.1.getD 6 (0 : Int) = (tab 8 r.1 (0 : Int)).getD 6 (0 : Int) ∧ r.1.getD 7 (0 : Int) = (tab 8 r.1 (0 : Int)).getD 7 (0 : Int) ∧ from' = from' ∧ to' = to' ∧ l1 = l1) (
     .leaf (Option.some { r := (tab 8 r.1 (0 : Int), ((0 : Int), (0 : Int), ([] : List Int)), List.replicate 16 ((0 : Int), (0 : Int))), from' := from', to' := to', i0 := IntKind.i64.wrap (i0 + (1 : Int)), l1 := l1 })))) (
   .req (IntKind.i64.wrap (i0 + (1 : Int)) = IntKind.i64.wrap (i0 + (1 : Int)) ∧ r.1.getD 0 (0 : Int) = (tab 8 r.1 (0 : Int)).getD 0 (0 : Int) ∧ r.1.getD 1 (0 : Int) = (tab 8 r.1 (0 : Int)).getD 1 (0 : Int) ∧ r.1.getD 2 (0 : Int) = (tab 8 r.1 (0 : Int)).getD 2 (0 : Int) ∧ r.1.getD 3 (0 : Int) = (tab 8 r.1 (0 : Int)).getD 3 (0 : Int) ∧ r.1.getD 4 (0 : Int) = (tab 8 r.1 (0 : Int)).getD 4 (0 : Int) ∧ r.1.getD 5 (0 : Int) = (tab 8 r.1 (0 : Int)).getD 5 (0 : Int) ∧ r.1.getD 6 (0 : Int) = (tab 8 r.1 (0 : Int)).getD 6 (0 : Int) ∧ r.1.getD 7 (0 : Int) = (tab 8 r.1 (0 : Int)).getD 7 (0 : Int) ∧ from' = from' ∧ to' = to' ∧ l1 = l1) (
    .leaf (Option.some { r := (tab 8 r.1 (0 : Int), ((0 : Int), (0 : Int), ([] : List Int)), List.replicate 16 ((0 : Int), (0 : Int))), from' := from', to' := to', i0 := IntKind.i64.wrap (i0 + (1 : Int)), l1 := l1 }))))) (
 .req (l1 = l1 ++ Pl.ofL r.1 from' to' (8 - i0.toNat) i0.toNat) (
  .leaf (Option.none))) : Tree (Option Pl.AOf)) := by kernel_rfl
theorem rMv (r : RingD) (n i0 : Int) (l1 : List Int) : @Eq _
  (LMv.round Q10 [] 100 Try.f22 0 ⟨r, n, i0, l1⟩)
  (.fork (decide (i0 < (16 : Int))) (
 .req ((8 = 8 ∧ 16 = 16) ∧ (↑r.2.1.2.2.length : Int) < (17592186044416 : Int)) (
  .req (True) (
   .fork (Pl.nodeB n) (
    .req ((8 = 8 ∧ 16 = 16) ∧ (↑r.2.1.2.2.length : Int) < (17592186044416 : Int)) (
     .fork (Pl.ownerR (tab 8 r.1 (0 : Int), r.2.1, tab 16 r.2.2 ((0 : Int), (0 : Int))) i0 == n) (
      .fork (Pl.targetR (tab 8 r.1 (0 : Int), r.2.1, tab 16 r.2.2 ((0 : Int), (0 : Int))) i0 != (-1 : Int)) (
       .fork (Pl.targetR (tab 8 r.1 (0 : Int), r.2.1, tab 16 r.2.2 ((0 : Int), (0 : Int))) i0 != n) (
        .req ((l1.length + 1) * 9 ≤ 70368744177664) (
         .req (IntKind.i64.wrap (i0 + (1 : Int)) = IntKind.i64.wrap (i0 + (1 : Int)) ∧ n = n ∧ r.1.getD 0 (0 : Int) = (tab 8 r.1 (0 : Int)).getD 0 (0 : Int) ∧ r.1.getD 1 (0 : Int) = (tab 8 r.1 (0 : Int)).getD 1 (0 : Int) ∧ r.1.getD 2 (0 : Int) = (tab 8 r.1 (0 : Int)).getD 2 (0 : Int) ∧ r.1.getD 3 (0 : Int) = (tab 8 r.1 (0 : Int)).getD 3 (0 : Int) ∧ r.1.getD 4 (0 : Int) = (tab 8 r.1 (0 : Int)).getD 4 (0 : Int) ∧ r.1.getD 5 (0 : Int) = (tab 8 r.1 (0 : Int)).getD 5 (0 : Int) ∧ r.1.getD 6 (0 : Int) = (tab 8 r.1 (0 : Int)).getD 6 (0 : Int) ∧ r.1.getD 7 (0 : Int) = (tab 8 r.1 (0 : Int)).getD 7 (0 : Int) ∧ r.2.1.1 = r.2.1.1 ∧ r.2.1.2.1 = r.2.1.2.1 ∧ (r.2.2.getD 0 ((0 : Int), (0 : Int))).1 = (r.2.2.getD 0 ((0 : Int), (0 : Int))).1 ∧ (r.2.2.getD 0 ((0 : Int), (0 : Int))).2 = (r.2.2.getD 0 ((0 : Int), (0 : Int))).2 ∧ (r.2.2.getD 1 ((0 : Int), (0 : Int))).1 = (r.2.2.getD 1 ((0 : Int), (0 : Int))).1 ∧ (r.2.2.getD 1 ((0 : Int), (0 : Int))).2 = (r.2.2.getD 1 ((0 : Int), (0 : Int))).2 ∧ (r.2.2.getD 2 ((0 : Int), (0 : Int))).1 = (r.2.2.getD 2 ((0 : Int), (0 : Int))).1 ∧ (r.2.2.getD 2 ((0 : Int), (0 : Int))).2 = (r.2.2.getD 2 ((0 : Int), (0 : Int))).2 ∧ (r.2.2.getD 3 ((0 : Int), (0 : Int))).1 = (r.2.2.getD 3 ((0 : Int), (0 : Int))).1 ∧ (r.2.2.getD 3 ((0 : Int), (0 : Int))).2 = (r.2.2.getD 3 ((0 : Int), (0 : Int))).2 ∧ (r.2.2.getD 4 ((0 : Int), (0 : Int))).1 = (r.2.2.getD 4 ((0 : Int), (0 : Int))).1 ∧ (r.2.2.getD 4 ((0 : Int), (0 : Int))).2 = (r.2.2.getD 4 ((0 : Int), (0 : Int))).2 ∧ (r.2.2.getD 5 ((0 : Int), (0 : Int))).1 = (r.2.2.getD 5 ((0 : Int), (0 : Int))).1 ∧ (r.2.2.getD 5 ((0 : Int), (0 : Int))).2 = (r.2.2.getD 5 ((0 : Int), (0 : Int))).2 ∧ (r.2.2.getD 6 ((0 : Int), (0 : Int))).1 = (r.2.2.getD 6 ((0 : Int), (0 : Int))).1 ∧ (r.2.2.getD 6 ((0 : Int), (0 : Int))).2 = (r.2.2.getD 6 ((0 : Int), (0 : Int))).2 ∧ (r.2.2.getD 7 ((0 : Int), (0 : Int))).1 = (r.2.2.getD 7 ((0 : Int), (0 : Int))).1 ∧ (r.2.2.getD 7 ((0 : Int), (0 : Int))).2 = (r.2.2.getD 7 ((0 : Int), (0 : Int))).2 ∧ (r.2.2.getD 8 ((0 : Int), (0 : Int))).1 = (r.2.2.getD 8 ((0 : Int), (0 : Int))).1 ∧ (r.2.2.getD 8 ((0 : Int), (0 : Int))).2 = (r.2.2.getD 8 ((0 : Int), (0 : Int))).2 ∧ (r.2.2.getD 9 ((0 : Int), (0 : Int))).1 = (r.2.2.getD 9 ((0 : Int), (0 : Int))).1 ∧ (r.2.2.getD 9 ((0 : Int), (0 : Int))).2 = (r.2.2.getD 9 ((0 : Int), (0 : Int))).2 ∧ (r.2.2.getD 10 ((0 : Int), (0 : Int))).1 = (r.2.2.getD 10 ((0 : Int), (0 : Int))).1 ∧ (r.2.2.getD 10 ((0 : Int), (0 : Int))).2 = (r.2.2.getD 10 ((0 : Int), (0 : Int))).2 ∧ (r.2.2.getD 11 ((0 : Int), (0 : Int))).1 = (r.2.2.getD 11 ((0 : Int), (0 : Int))).1 ∧ (r.2.2.getD 11 ((0 : Int), (0 : Int))).2 = (r.2.2.getD 11 ((0 : Int), (0 : Int))).2 ∧ (r.2.2.getD 12 ((0 : Int), (0 : Int))).1 = (r.2.2.getD 12 ((0 : Int), (0 : Int))).1 ∧ (r.2.2.getD 12 ((0 : Int), (0 : Int))).2 = (r.2.2.getD 12 ((0 : Int), (0 : Int))).2 ∧ (r.2.2.getD 13 ((0 : Int), (0 : Int))).1 = (r.2.2.getD 13 ((0 : Int), (0 : Int))).1 ∧ (r.2.2.getD 13 ((0 : Int), (0 : Int))).2 = (r.2.2.getD 13 ((0 : Int), (0 : Int))).2 ∧ (r.2.2.getD 14 ((0 : Int), (0 : Int))).1 = (r.2.2.getD 14 ((0 : Int), (0 : Int))).1 ∧ (r.2.2.getD 14 ((0 : Int), (0 : Int))).2 = (r.2.2.getD 14 ((0 : Int), (0 : Int))).2 ∧ (r.2.2.getD 15 ((0 : Int), (0 : Int))).1 = (r.2.2.getD 15 ((0 : Int), (0 : Int))).1 ∧ (r.2.2.getD 15 ((0 : Int), (0 : Int))).2 = (r.2.2.getD 15 ((0 : Int), (0 : Int))).2 ∧ r.2.1.2.2 = r.2.1.2.2 ∧ l1 ++ [i0] = l1 ++ [i0]) (
          .leaf (Option.some { r := (tab 8 r.1 (0 : Int), r.2.1, tab 16 r.2.2 ((0 : Int), (0 : Int))), n := n, i0 := IntKind.i64.wrap (i0 + (1 : Int)), l1 := l1 ++ [i0] })))) (
        .req (IntKind.i64.wrap (i0 + (1 : Int)) = IntKind.i64.wrap (i0 + (1 : Int)) ∧ n = n ∧ r.1.getD 0 (0 : Int) = (tab 8 r.1 (0 : Int)).getD 0 (0 : Int) ∧ r.1.getD 1 (0 : Int) = (tab 8 r.1 (0 : Int)).getD 1 (0 : Int) ∧ r.1.getD 2 (0 : Int) = (tab 8 r.1 (0 : Int)).getD 2 (0 : Int) ∧ r.1.getD 3 (0 : Int) = (tab 8 r.1 (0 : Int)).getD 3 (0 : Int) ∧ r.1.getD 4 (0 : Int) = (tab 8 r.1 (0 : Int)).getD 4 (0 : Int) ∧ r.1.getD 5 (0 : Int) = (tab 8 r.1 (0 : Int)).getD 5 (0 : Int) ∧ r.1.getD 6 (0 : Int) = (tab 8 r.1 (0 : Int)).getD 6 (0 : Int) ∧ r.1.getD 7 (0 : Int) = (tab 8 r.1 (0 : Int)).getD 7 (0 : Int) ∧ r.2.1.1 = r.2.1.1 ∧ r.2.1.2.1 = r.2.1.2.1 ∧ (r.2.2.getD 0 ((0 : Int), (0 : Int))).1 = (r.2.2.getD 0 ((0 : Int), (0 : Int))).1 ∧ (r.2.2.getD 0 ((0 : Int), (0 : Int))).2 = (r.2.2.getD 0 ((0 : Int), (0 : Int))).2 ∧ (r.2.2.getD 1 ((0 : Int), (0 : Int))).1 = (r.2.2.getD 1 ((0 : Int), (0 : Int))).1 ∧ (r.2.2.getD 1 ((0 : Int), (0 : Int))).2 = (r.2.2.getD 1 ((0 : Int), (0 : Int))).2 ∧ (r.2.2.getD 2 ((0 : Int), (0 : Int))).1 = (r.2.2.getD 2 ((0 : Int), (0 : Int))).1 ∧ (r.2.2.getD 2 ((0 : Int), (0 : Int))).2 = (r.2.2.getD 2 ((0 : Int), (0 : Int))).2 ∧ (r.2.2.getD 3 ((0 : Int), (0 : Int))).1 = (r.2.2.getD 3 ((0 : Int), (0 : Int))).1 ∧ (r.2.2.getD 3 ((0 : Int), (0 : Int))).2 = (r.2.2.getD 3 ((0 : Int), (0 : Int))).2 ∧ (r.2.2.getD 4 ((0 : Int), (0 : Int))).1 = (r.2.2.getD 4 ((0 : Int), (0 : Int))).1 ∧ (r.2.2.getD 4 ((0 : Int), (0 : Int))).2 = (r.2.2.getD 4 ((0 : Int), (0 : Int))).2 ∧ (r.2.2.getD 5 ((0 : Int), (0 : Int))).1 = (r.2.2.getD 5 ((0 : Int), (0 : Int))).1 ∧ (r.2.2.getD 5 ((0 : Int), (0 : Int))).2 = (r.2.2.getD 5 ((0 : Int), (0 : Int))).2 ∧ (r.2.2.getD 6 ((0 : Int), (0 : Int))).1 = (r.2.2.getD 6 ((0 : Int), (0 : Int))).1 ∧ (r.2.2.getD 6 ((0 : Int), (0 : Int))).2 = (r.2.2.getD 6 ((0 : Int), (0 : Int))).2 ∧ (r.2.2.getD 7 ((0 : Int), (0 : Int))).1 = (r.2.2.getD 7 ((0 : Int), (0 : Int))).1 ∧ (r.2.2.getD 7 ((0 : Int), (0 : Int))).2 = (r.2.2.getD 7 ((0 : Int), (0 : Int))).2 ∧ (r.2.2.getD 8 ((0 : Int), (0 : Int))).1 = (r.2.2.getD 8 ((0 : Int), (0 : Int))).1 ∧ (r.2.2.getD 8 ((0 : Int), (0 : Int))).2 = (r.2.2.getD 8 ((0 : Int), (0 : Int))).2 ∧ (r.2.2.getD 9 ((0 : Int), (0 : Int))).1 = (r.2.2.getD 9 ((0 : Int), (0 : Int))).1 ∧ (r.2.2.getD 9 ((0 : Int), (0 : Int))).2 = (r.2.2.getD 9 ((0 : Int), (0 : Int))).2 ∧ (r.2.2.getD 10 ((0 : Int), (0 : Int))).1 = (r.2.2.getD 10 ((0 : Int), (0 : Int))).1 ∧ (r.2.2.getD 10 ((0 : Int), (0 : Int))).2 = (r.2.2.getD 10 ((0 : Int), (0 : Int))).2 ∧ (r.2.2.getD 11 ((0 : Int), (0 : Int))).1 = (r.2.2.getD 11 ((0 : Int), (0 : Int))).1 ∧ (r.2.2.getD 11 ((0 : Int), (0 : Int))).2 = (r.2.2.getD 11 ((0 : Int), (0 : Int))).2 ∧ (r.2.2.getD 12 ((0 : Int), (0 : Int))).1 = (r.2.2.getD 12 ((0 : Int), (0 : Int))).1 ∧ (r.2.2.getD 12 ((0 : Int), (0 : Int))).2 = (r.2.2.getD 12 ((0 : Int), (0 : Int))).2 ∧ (r.2.2.getD 13 ((0 : Int), (0 : Int))).1 = (r.2.2.getD 13 ((0 : Int), (0 : Int))).1 ∧ (r.2.2.getD 13 ((0 : Int), (0 : Int))).2 = (r.2.2.getD 13 ((0 : Int), (0 : Int))).2 ∧ (r.2.2.getD 14 ((0 : Int), (0 : Int))).1 = (r.2.2.getD 14 ((0 : Int), (0 : Int))).1 ∧ (r.2.2.getD 14 ((0 : Int), (0 : Int))).2 = (r.2.2.getD 14 ((0 : Int), (0 : Int))).2 ∧ (r.2.2.getD 15 ((0 : Int), (0 : Int))).1 = (r.2.2.getD 15 ((0 : Int), (0 : Int))).1 ∧ (r.2.2.getD 15 ((0 : Int), (0 : Int))).2 = (r.2.2.getD 15 ((0 : Int), (0 : Int))).2 ∧ r.2.1.2.2 = r.2.1.2.2 ∧ l1 = l1) (
         .leaf (Option.some { r := (tab 8 r.1 (0 : Int), r.2.1, tab 16 r.2.2 ((0 : Int), (0 : Int))), n := n, i0 := IntKind.i64.wrap (i0 + (1 : Int)), l1 := l1 })))) (
       .req (IntKind.i64.wrap (i0 + (1 : Int)) = IntKind.i64.wrap (i0 + (1 : Int)) ∧ n = n ∧ r.1.getD 0 (0 : Int) = (tab 8 r.1 (0 : Int)).getD 0 (0 : Int) ∧ r.1.getD 1 (0 : Int) = (tab 8 r.1 (0 : Int)).getD 1 (0 : Int) ∧ r.1.getD 2 (0 : Int) = (tab 8 r.1 (0 : Int)).getD 2 (0 : Int) ∧ r.1.getD 3 (0 : Int) = (tab 8 r.1 (0 : Int)).getD 3 (0 : Int) ∧ r.1.getD 4 (0 : Int) = (tab 8 r.1 (0 : Int)).getD 4 (0 : Int) ∧ r.1.getD 5 (0 : Int) = (tab 8 r.1 (0 : Int)).getD 5 (0 : Int) ∧ r.1.getD 6 (0 : Int) = (tab 8 r.1 (0 : Int)).getD 6 (0 : Int) ∧ r.1.getD 7 (0 : Int) = (tab 8 r.1 (0 : Int)).getD 7 (0 : Int) ∧ r.2.1.1 = r.2.1.1 ∧ r.2.1.2.1 = r.2.1.2.1 ∧ (r.2.2.getD 0 ((0 : Int), (0 : Int))).1 = (r.2.2.getD 0 ((0 : Int), (0 : Int))).1 ∧ (r.2.2.getD 0 ((0 : Int), (0 : Int))).2 = (r.2.2.getD 0 ((0 : Int), (0 : Int))).2 ∧ (r.2.2.getD 1 ((0 : Int), (0 : Int))).1 = (r.2.2.getD 1 ((0 : Int), (0 : Int))).1 ∧ (r.2.2.getD 1 ((0 : Int), (0 : Int))).2 = (r.2.2.getD 1 ((0 : Int), (0 : Int))).2 ∧ (r.2.2.getD 2 ((0 : Int), (0 : Int))).1 = (r.2.2.getD 2 ((0 : Int), (0 : Int))).1 ∧ (r.2.2.getD 2 ((0 : Int), (0 : Int))).2 = (r.2.2.getD 2 ((0 : Int), (0 : Int))).2 ∧ (r.2.2.getD 3 ((0 : Int), (0 : Int))).1 = (r.2.2.getD 3 ((0 : Int), (0 : Int))).1 ∧ (r.2.2.getD 3 ((0 : Int), (0 : Int))).2 = (r.2.2.getD 3 ((0 : Int), (0 : Int))).2 ∧ (r.2.2.getD 4 ((0 : Int), (0 : Int))).1 = (r.2.2.getD 4 ((0 : Int), (0 : Int))).1 ∧ (r.2.2.getD 4 ((0 : Int), (0 : Int))).2 = (r.2.2.getD 4 ((0 : Int), (0 : Int))).2 ∧ (r.2.2.getD 5 ((0 : Int), (0 : Int))).1 = (r.2.2.getD 5 ((0 : Int), (0 : Int))).1 ∧ (r.2.2.getD 5 ((0 : Int), (0 : Int))).2 = (r.2.2.getD 5 ((0 : Int), (0 : Int))).2 ∧ (r.2.2.getD 6 ((0 : Int), (0 : Int))).1 = (r.2.2.getD 6 ((0 : Int), (0 : Int))).1 ∧ (r.2.2.getD 6 ((0 : Int), (0 : Int))).2 = (r.2.2.getD 6 ((0 : Int), (0 : Int))).2 ∧ (r.2.2.getD 7 ((0 : Int), (0 : Int))).1 = (r.2.2.getD 7 ((0 : Int), (0 : Int))).1 ∧ (r.2.2.getD 7 ((0 : Int), (0 : Int))).2 = (r.2.2.getD 7 ((0 : Int), (0 : Int))).2 ∧ (r.2.2.getD 8 ((0 : Int), (0 : Int))).1 = (r.2.2.getD 8 ((0 : Int), (0 : Int))).1 ∧ (r.2.2.getD 8 ((0 : Int), (0 : Int))).2 = (r.2.2.getD 8 ((0 : Int), (0 : Int))).2 ∧ (r.2.2.getD 9 ((0 : Int), (0 : Int))).1 = (r.2.2.getD 9 ((0 : Int), (0 : Int))).1 ∧ (r.2.2.getD 9 ((0 : Int), (0 : Int))).2 = (r.2.2.getD 9 ((0 : Int), (0 : Int))).2 ∧ (r.2.2.getD 10 ((0 : Int), (0 : Int))).1 = (r.2.2.getD 10 ((0 : Int), (0 : Int))).1 ∧ (r.2.2.getD 10 ((0 : Int), (0 : Int))).2 = (r.2.2.getD 10 ((0 : Int), (0 : Int))).2 ∧ (r.2.2.getD 11 ((0 : Int), (0 : Int))).1 = (r.2.2.getD 11 ((0 : Int), (0 : Int))).1 ∧ (r.2.2.getD 11 ((0 : Int), (0 : Int))).2 = (r.2.2.getD 11 ((0 : Int), (0 : Int))).2 ∧ (r.2.2.getD 12 ((0 : Int), (0 : Int))).1 = (r.2.2.getD 12 ((0 : Int), (0 : Int))).1 ∧ (r.2.2.getD 12 ((0 : Int), (0 : Int))).2 = (r.2.2.getD 12 ((0 : Int), (0 : Int))).2 ∧ (r.2.2.getD 13 ((0 : Int), (0 : Int))).1 = (r.2.2.getD 13 ((0 : Int), (0 : Int))).1 ∧ (r.2.2.getD 13 ((0 : Int), (0 : Int))).2 = (r.2.2.getD 13 ((0 : Int), (0 : Int))).2 ∧ (r.2.2.getD 14 ((0 : Int), (0 : Int))).1 = (r.2.2.getD 14 ((0 : Int), (0 : Int))).1 ∧ (r.2.2.getD 14 ((0 : Int), (0 : Int))).2 = (r.2.2.getD 14 ((0 : Int), (0 : Int))).2 ∧ (r.2.2.getD 15 ((0 : Int), (0 : Int))).1 = (r.2.2.getD 15 ((0 : Int), (0 : Int))).1 ∧ (r.2.2.getD 15 ((0 : Int), (0 : Int))).2 = (r.2.2.getD 15 ((0 : Int), (0 : Int))).2 ∧ r.2.1.2.2 = r.2.1.2.2 ∧ l1 = l1) (
        .leaf (Option.some { r := (tab 8 r.1 (0 : Int), r.2.1, tab 16 r.2.2 ((0 : Int), (0 : Int))), n := n, i0 := IntKind.i64.wrap (i0 + (1 : Int)), l1 := l1 })))) (
      .req (IntKind.i64.wrap (i0 + (1 : Int)) = IntKind.i64.wrap (i0 + (1 : Int)) ∧ n = n ∧ r.1.getD 0 (0 : Int) = (tab 8 r.1 (0 : Int)).getD 0 (0 : Int) ∧ r.1.getD 1 (0 : Int) = (tab 8 r.1 (0 : Int)).getD 1 (0 : Int) ∧ r.1.getD 2 (0 : Int) = (tab 8 r.1 (0 : Int)).getD 2 (0 : Int) ∧ r.1.getD 3 (0 : Int) = (tab 8 r.1 (0 : Int)).getD 3 (0 : Int) ∧ r.1.getD 4 (0 : Int) = (tab 8 r.1 (0 : Int)).getD 4 (0 : Int) ∧ r.1.getD 5 (0 : Int) = (tab 8 r.1 (0 : Int)).getD 5 (0 : Int) ∧ r.1.getD 6 (0 : Int) = (tab 8 r.1 (0 : Int)).getD 6 (0 : Int) ∧ r.1.getD 7 (0 : Int) = (tab 8 r.1 (0 : Int)).getD 7 (0 : Int) ∧ r.2.1.1 = r.2.1.1 ∧ r.2.1.2.1 = r.2.1.2.1 ∧ (r.2.2.getD 0 ((0 : Int), (0 : Int))).1 = (r.2.2.getD 0 ((0 : Int), (0 : Int))).1 ∧ (r.2.2.getD 0 ((0 : Int), (0 : Int))).2 = (r.2.2.getD 0 ((0 : Int), (0 : Int))).2 ∧ (r.2.2.getD 1 ((0 : Int), (0 : Int))).1 = (r.2.2.getD 1 ((0 : Int), (0 : Int))).1 ∧ (r.2.2.getD 1 ((0 : Int), (0 : Int))).2 = (r.2.2.getD 1 ((0 : Int), (0 : Int))).2 ∧ (r.2.2.getD 2 ((0 : Int), (0 : Int))).1 = (r.2.2.getD 2 ((0 : Int), (0 : Int))).1 ∧ (r.2.2.getD 2 ((0 : Int), (0 : Int))).2 = (r.2.2.getD 2 ((0 : Int), (0 : Int))).2 ∧ (r.2.2.getD 3 ((0 : Int), (0 : Int))).1 = (r.2.2.getD 3 ((0 : Int), (0 : Int))).1 ∧ (r.2.2.getD 3 ((0 : Int), (0 : Int))).2 = (r.2.2.getD 3 ((0 : Int), (0 : Int))).2 ∧ (r.2.2.getD 4 ((0 : Int), (0 : Int))).1 = (r.2.2.getD 4 ((0 : Int), (0 : Int))).1 ∧ (r.2.2.getD 4 ((0 : Int), (0 : Int))).2 = (r.2.2.getD 4 ((0 : Int), (0 : Int))).2 ∧ (r.2.2.getD 5 ((0 : Int), (0 : Int))).1 = (r.2.2.getD 5 ((0 : Int), (0 : Int))).1 ∧ (r.2.2.getD 5 ((0 : Int), (0 : Int))).2 = (r.2.2.getD 5 ((0 : Int), (0 : Int))).2 ∧ (r.2.2.getD 6 ((0 : Int), (0 : Int))).1 = (r.2.2.getD 6 ((0 : Int), (0 : Int))).1 ∧ (r.2.2.getD 6 ((0 : Int), (0 : Int))).2 = (r.2.2.getD 6 ((0 : Int), (0 : Int))).2 ∧ (r.2.2.getD 7 ((0 : Int), (0 : Int))).1 = (r.2.2.getD 7 ((0 : Int), (0 : Int))).1 ∧ (r.2.2.getD 7 ((0 : Int), (0 : Int))).2 = (r.2.2.getD 7 ((0 : Int), (0 : Int))).2 ∧ (r.2.2.getD 8 ((0 : Int), (0 : Int))).1 = (r.2.2.getD 8 ((0 : Int), (0 : Int))).1 ∧ (r.2.2.getD 8 ((0 : Int), (0 : Int))).2 = (r.2.2.getD 8 ((0 : Int), (0 : Int))).2 ∧ (r.2.2.getD 9 ((0 : Int), (0 : Int))).1 = (r.2.2.getD 9 ((0 : Int), (0 : Int))).1 ∧ (r.2.2.getD 9 ((0 : Int), (0 : Int))).2 = (r.2.2.getD 9 ((0 : Int), (0 : Int))).2 ∧ (r.2.2.getD 10 ((0 : Int), (0 : Int))).1 = (r.2.2.getD 10 ((0 : Int), (0 : Int))).1 ∧ (r.2.2.getD 10 ((0 : Int), (0 : Int))).2 = (r.2.2.getD 10 ((0 : Int), (0 : Int))).2 ∧ (r.2.2.getD 11 ((0 : Int), (0 : Int))).1 = (r.2.2.getD 11 ((0 : Int), (0 : Int))).1 ∧ (r.2.2.getD 11 ((0 : Int), (0 : Int))).2 = (r.2.2.getD 11 ((0 : Int), (0 : Int))).2 ∧ (r.2.2.getD 12 ((0 : Int), (0 : Int))).1 = (r.2.2.getD 12 ((0 : Int), (0 : Int))).1 ∧ (r.2.2.getD 12 ((0 : Int), (0 : Int))).2 = (r.2.2.getD 12 ((0 : Int), (0 : Int))).2 ∧ (r.2.2.getD 13 ((0 : Int), (0 : Int))).1 = (r.2.2.getD 13 ((0 : Int), (0 : Int))).1 ∧ (r.2.2.getD 13 ((0 : Int), (0 : Int))).2 = (r.2.2.getD 13 ((0 : Int), (0 : Int))).2 ∧ (r.2.2.getD 14 ((0 : Int), (0 : Int))).1 = (r.2.2.getD 14 ((0 : Int), (0 : Int))).1 ∧ (r.2.2.getD 14 ((0 : Int), (0 : Int))).2 = (r.2.2.getD 14 ((0 : Int), (0 : Int))).2 ∧ (r.2.2.getD 15 ((0 : Int), (0 : Int))).1 = (r.2.2.getD 15 ((0 : Int), (0 : Int))).1 ∧ (r.2.2.getD 15 ((0 : Int), (0 : Int))).2 = (r.2.2.getD 15 ((0 : Int), (0 : Int))).2 ∧ r.2.1.2.2 = r.2.1.2.2 ∧ l1 = l1) (
       .leaf (Option.some { r := (tab 8 r.1 (0 : Int), r.2.1, tab 16 r.2.2 ((0 : Int), (0 : Int))), n := n, i0 := IntKind.i64.wrap (i0 + (1 : Int)), l1 := l1 }))))) (
    .req (IntKind.i64.wrap (i0 + (1 : Int)) = IntKind.i64.wrap (i0 + (1 : Int)) ∧ n = n ∧ r.1.getD 0 (0 : Int) = (tab 8 r.1 (0 : Int)).getD 0 (0 : Int) ∧ r.1.getD 1 (0 : Int) = (tab 8 r.1 (0 : Int)).getD 1 (0 : Int) ∧ r.1.getD 2 (0 : Int) = (tab 8 r.1 (0 : Int)).getD 2 (0 : Int) ∧ r.1.getD 3 (0 : Int) = (tab 8 r.1 (0 : Int)).getD 3 (0 : Int) ∧ r.1.getD 4 (0 : Int) = (tab 8 r.1 (0 : Int)).getD 4 (0 : Int) ∧ r.1.getD 5 (0 : Int) = (tab 8 r.1 (0 : Int)).getD 5 (0 : Int) ∧ r.1.getD 6 (0 : Int) = (tab 8 r.1 (0 : Int)).getD 6 (0 : Int) ∧ r.1.getD 7 (0 : Int) = (tab 8 r.1 (0 : Int)).getD 7 (0 : Int) ∧ r.2.1.1 = r.2.1.1 ∧ r.2.1.2.1 = r.2.1.2.1 ∧ (r.2.2.getD 0 ((0 : Int), (0 : Int))).1 = (r.2.2.getD 0 ((0 : Int), (0 : Int))).1 ∧ (r.2.2.getD 0 ((0 : Int), (0 : Int))).2 = (r.2.2.getD 0 ((0 : Int), (0 : Int))).2 ∧ (r.2.2.getD 1 ((0 : Int), (0 : Int))).1 = (r.2.2.getD 1 ((0 : Int), (0 : Int))).1 ∧ (r.2.2.getD 1 ((0 : Int), (0 : Int))).2 = (r.2.2.getD 1 ((0 : Int), (0 : Int))).2 ∧ (r.2.2.getD 2 ((0 : Int), (0 : Int))).1 = (r.2.2.getD 2 ((0 : Int), (0 : Int))).1 ∧ (r.2.2.getD 2 ((0 : Int), (0 : Int))).2 = (r.2.2.getD 2 ((0 : Int), (0 : Int))).2 ∧ (r.2.2.getD 3 ((0 : Int), (0 : Int))).1 = (r.2.2.getD 3 ((0 : Int), (0 : Int))).1 ∧ (r.2.2.getD 3 ((0 : Int), (0 : Int))).2 = (r.2.2.getD 3 ((0 : Int), (0 : Int))).2 ∧ (r.2.2.getD 4 ((0 : Int), (0 : Int))).1 = (r.2.2.getD 4 ((0 : Int), (0 : Int))).1 ∧ (r.2.2.getD 4 ((0 : Int), (0 : Int))).2 = (r.2.2.getD 4 ((0 : Int), (0 : Int))).2 ∧ (r.2.2.getD 5 ((0 : Int), (0 : Int))).1 = (r.2.2.getD 5 ((0 : Int), (0 : Int))).1 ∧ (r.2.2.getD 5 ((0 : Int), (0 : Int))).2 = (r.2.2.getD 5 ((0 : Int), (0 : Int))).2 ∧ (r.2.2.getD 6 ((0 : Int), (0 : Int))).1 = (r.2.2.getD 6 ((0 : Int), (0 : Int))).1 ∧ (r.2.2.getD 6 ((0 : Int), (0 : Int))).2 = (r.2.2.getD 6 ((0 : Int), (0 : Int))).2 ∧ (r.2.2.getD 7 ((0 : Int), (0 : Int))).1 = (r.2.2.getD 7 ((0 : Int), (0 : Int))).1 ∧ (r.2.2.getD 7 ((0 : Int), (0 : Int))).2 = (r.2.2.getD 7 ((0 : Int), (0 : Int))).2 ∧ (r.2.2.getD 8 ((0 : Int), (0 : Int))).1 = (r.2.2.getD 8 ((0 : Int), (0 : Int))).1 ∧ (r.2.2.getD 8 ((0 : Int), (0 : Int))).2 = (r.2.2.getD 8 ((0 : Int), (0 : Int))).2 ∧ (r.2.2.getD 9 ((0 : Int), (0 : Int))).1 = (r.2.2.getD 9 ((0 : Int), (0 : Int))).1 ∧ (r.2.2.getD 9 ((0 : Int), (0 : Int))).2 = (r.2.2.getD 9 ((0 : Int), (0 : Int))).2 ∧ (r.2.2.getD 10 ((0 : Int), (0 : Int))).1 = (r.2.2.getD 10 ((0 : Int), (0 : Int))).1 ∧ (r.2.2.getD 10 ((0 : Int), (0 : Int))).2 = (r.2.2.getD 10 ((0 : Int), (0 : Int))).2 ∧ (r.2.2.getD 11 ((0 : Int), (0 : Int))).1 = (r.2.2.getD 11 ((0 : Int), (0 : Int))).1 ∧ (r.2.2.getD 11 ((0 : Int), (0 : Int))).2 = (r.2.2.getD 11 ((0 : Int), (0 : Int))).2 ∧ (r.2.2.getD 12 ((0 : Int), (0 : Int))).1 = (r.2.2.getD 12 ((0 : Int), (0 : Int))).1 ∧ (r.2.2.getD 12 ((0 : Int), (0 : Int))).2 = (r.2.2.getD 12 ((0 : Int), (0 : Int))).2 ∧ (r.2.2.getD 13 ((0 : Int), (0 : Int))).1 = (r.2.2.getD 13 ((0 : Int), (0 : Int))).1 ∧ (r.2.2.getD 13 ((0 : Int), (0 : Int))).2 = (r.2.2.getD 13 ((0 : Int), (0 : Int))).2 ∧ (r.2.2.getD 14 ((0 : Int), (0 : Int))).1 = (r.2.2.getD 14 ((0 : Int), (0 : Int))).1 ∧ (r.2.2.getD 14 ((0 : Int), (0 : Int))).2 = (r.2.2.getD 14 ((0 : Int), (0 : Int))).2 ∧ (r.2.2.getD 15 ((0 : Int), (0 : Int))).1 = (r.2.2.getD 15 ((0 : Int), (0 : Int))).1 ∧ (r.2.2.getD 15 ((0 : Int), (0 : Int))).2 = (r.2.2.getD 15 ((0 : Int), (0 : Int))).2 ∧ r.2.1.2.2 = r.2.1.2.2 ∧ l1 = l1) (
     .leaf (Option.some { r := (tab 8 r.1 (0 : Int), r.2.1, tab 16 r.2.2 ((0 : Int), (0 : Int))), n := n, i0 := IntKind.i64.wrap (i0 + (1 : Int)), l1 := l1 })))))) (
 .req (l1 = l1 ++ Pl.mvL r n (16 - i0.toNat) i0.toNat) (
  .leaf (Option.none))) : Tree (Option Pl.AMv)) := by kernel_rfl
theorem tOf (r : RingD) (from' to' : Int) : @Eq _
  (fnT E0 [(0, LOf.sp)] 100 Try.f18 [Ring, i64, i64] [ints] (r, from', to', ()))
  (.req ((8 = 8 ∧ 16 = 16) ∧ (0 : Int) ≤ (0 : Int) ∧ (0 : Int) ≤ (8 : Int) ∧ (0 : Int) ≤ (0 : Int)) (
 .req ((0 : Int) = (0 : Int) ∧ r.1.getD 0 (0 : Int) = (tab 8 r.1 (0 : Int)).getD 0 (0 : Int) ∧ r.1.getD 1 (0 : Int) = (tab 8 r.1 (0 : Int)).getD 1 (0 : Int) ∧ r.1.getD 2 (0 : Int) = (tab 8 r.1 (0 : Int)).getD 2 (0 : Int) ∧ r.1.getD 3 (0 : Int) = (tab 8 r.1 (0 : Int)).getD 3 (0 : Int) ∧ r.1.getD 4 (0 : Int) = (tab 8 r.1 (0 : Int)).getD 4 (0 : Int) ∧ r.1.getD 5 (0 : Int) = (tab 8 r.1 (0 : Int)).getD 5 (0 : Int) ∧ r.1.getD 6 (0 : Int) = (tab 8 r.1 (0 : Int)).getD 6 (0 : Int) ∧ r.1.getD 7 (0 : Int) = (tab 8 r.1 (0 : Int)).getD 7 (0 : Int) ∧ from' = from' ∧ to' = to' ∧ ([] : List Int) = ([] : List Int)) (
  .leaf ((([] : List Int) ++ Pl.ofL (tab 8 r.1 (0 : Int)) from' to' 8 0, ())))) : Tree (List Int × PUnit)) := by kernel_rfl
theorem tMv (r : RingD) (n : Int) : @Eq _
  (fnT Q10 [(0, LMv.sp)] 100 Try.f22 [Ring, i64] [ints] (r, n, ()))
  (.req ((8 = 8 ∧ 16 = 16) ∧ (↑r.2.1.2.2.length : Int) < (17592186044416 : Int) ∧ (0 : Int) ≤ (0 : Int) ∧ (0 : Int) ≤ (16 : Int) ∧ (0 : Int) ≤ (0 : Int)) (
 .req ((0 : Int) = (0 : Int) ∧ n = n ∧ r.1.getD 0 (0 : Int) = (tab 8 r.1 (0 : Int)).getD 0 (0 : Int) ∧ r.1.getD 1 (0 : Int) = (tab 8 r.1 (0 : Int)).getD 1 (0 : Int) ∧ r.1.getD 2 (0 : Int) = (tab 8 r.1 (0 : Int)).getD 2 (0 : Int) ∧ r.1.getD 3 (0 : Int) = (tab 8 r.1 (0 : Int)).getD 3 (0 : Int) ∧ r.1.getD 4 (0 : Int) = (tab 8 r.1 (0 : Int)).getD 4 (0 : Int) ∧ r.1.getD 5 (0 : Int) = (tab 8 r.1 (0 : Int)).getD 5 (0 : Int) ∧ r.1.getD 6 (0 : Int) = (tab 8 r.1 (0 : Int)).getD 6 (0 : Int) ∧ r.1.getD 7 (0 : Int) = (tab 8 r.1 (0 : Int)).getD 7 (0 : Int) ∧ r.2.1.1 = r.2.1.1 ∧ r.2.1.2.1 = r.2.1.2.1 ∧ (r.2.2.getD 0 ((0 : Int), (0 : Int))).1 = (r.2.2.getD 0 ((0 : Int), (0 : Int))).1 ∧ (r.2.2.getD 0 ((0 : Int), (0 : Int))).2 = (r.2.2.getD 0 ((0 : Int), (0 : Int))).2 ∧ (r.2.2.getD 1 ((0 : Int), (0 : Int))).1 = (r.2.2.getD 1 ((0 : Int), (0 : Int))).1 ∧ (r.2.2.getD 1 ((0 : Int), (0 : Int))).2 = (r.2.2.getD 1 ((0 : Int), (0 : Int))).2 ∧ (r.2.2.getD 2 ((0 : Int), (0 : Int))).1 = (r.2.2.getD 2 ((0 : Int), (0 : Int))).1 ∧ (r.2.2.getD 2 ((0 : Int), (0 : Int))).2 = (r.2.2.getD 2 ((0 : Int), (0 : Int))).2 ∧ (r.2.2.getD 3 ((0 : Int), (0 : Int))).1 = (r.2.2.getD 3 ((0 : Int), (0 : Int))).1 ∧ (r.2.2.getD 3 ((0 : Int), (0 : Int))).2 = (r.2.2.getD 3 ((0 : Int), (0 : Int))).2 ∧ (r.2.2.getD 4 ((0 : Int), (0 : Int))).1 = (r.2.2.getD 4 ((0 : Int), (0 : Int))).1 ∧ (r.2.2.getD 4 ((0 : Int), (0 : Int))).2 = (r.2.2.getD 4 ((0 : Int), (0 : Int))).2 ∧ (r.2.2.getD 5 ((0 : Int), (0 : Int))).1 = (r.2.2.getD 5 ((0 : Int), (0 : Int))).1 ∧ (r.2.2.getD 5 ((0 : Int), (0 : Int))).2 = (r.2.2.getD 5 ((0 : Int), (0 : Int))).2 ∧ (r.2.2.getD 6 ((0 : Int), (0 : Int))).1 = (r.2.2.getD 6 ((0 : Int), (0 : Int))).1 ∧ (r.2.2.getD 6 ((0 : Int), (0 : Int))).2 = (r.2.2.getD 6 ((0 : Int), (0 : Int))).2 ∧ (r.2.2.getD 7 ((0 : Int), (0 : Int))).1 = (r.2.2.getD 7 ((0 : Int), (0 : Int))).1 ∧ (r.2.2.getD 7 ((0 : Int), (0 : Int))).2 = (r.2.2.getD 7 ((0 : Int), (0 : Int))).2 ∧ (r.2.2.getD 8 ((0 : Int), (0 : Int))).1 = (r.2.2.getD 8 ((0 : Int), (0 : Int))).1 ∧ (r.2.2.getD 8 ((0 : Int), (0 : Int))).2 = (r.2.2.getD 8 ((0 : Int), (0 : Int))).2 ∧ (r.2.2.getD 9 ((0 : Int), (0 : Int))).1 = (r.2.2.getD 9 ((0 : Int), (0 : Int))).1 ∧ (r.2.2.getD 9 ((0 : Int), (0 : Int))).2 = (r.2.2.getD 9 ((0 : Int), (0 : Int))).2 ∧ (r.2.2.getD 10 ((0 : Int), (0 : Int))).1 = (r.2.2.getD 10 ((0 : Int), (0 : Int))).1 ∧ (r.2.2.getD 10 ((0 : Int), (0 : Int))).2 = (r.2.2.getD 10 ((0 : Int), (0 : Int))).2 ∧ (r.2.2.getD 11 ((0 : Int), (0 : Int))).1 = (r.2.2.getD 11 ((0 : Int), (0 : Int))).1 ∧ (r.2.2.getD 11 ((0 : Int), (0 : Int))).2 = (r.2.2.getD 11 ((0 : Int), (0 : Int))).2 ∧ (r.2.2.getD 12 ((0 : Int), (0 : Int))).1 = (r.2.2.getD 12 ((0 : Int), (0 : Int))).1 ∧ (r.2.2.getD 12 ((0 : Int), (0 : Int))).2 = (r.2.2.getD 12 ((0 : Int), (0 : Int))).2 ∧ (r.2.2.getD 13 ((0 : Int), (0 : Int))).1 = (r.2.2.getD 13 ((0 : Int), (0 : Int))).1 ∧ (r.2.2.getD 13 ((0 : Int), (0 : Int))).2 = (r.2.2.getD 13 ((0 : Int), (0 : Int))).2 ∧ (r.2.2.getD 14 ((0 : Int), (0 : Int))).1 = (r.2.2.getD 14 ((0 : Int), (0 : Int))).1 ∧ (r.2.2.getD 14 ((0 : Int), (0 : Int))).2 = (r.2.2.getD 14 ((0 : Int), (0 : Int))).2 ∧ (r.2.2.getD 15 ((0 : Int), (0 : Int))).1 = (r.2.2.getD 15 ((0 : Int), (0 : Int))).1 ∧ (r.2.2.getD 15 ((0 : Int), (0 : Int))).2 = (r.2.2.getD 15 ((0 : Int), (0 : Int))).2 ∧ r.2.1.2.2 = r.2.1.2.2 ∧ ([] : List Int) = ([] : List Int)) (
  .leaf ((([] : List Int) ++ Pl.mvL (tab 8 r.1 (0 : Int), r.2.1, tab 16 r.2.2 ((0 : Int), (0 : Int))) n 16 0, ())))) : Tree (List Int × PUnit)) := by kernel_rfl
end Pl
namespace Pl
open Go Sx Go.Proofs Go.RowKit
theorem tab8_get {xs : List Int} {z : Int} (h : xs.length = 8) : tab 8 xs z = xs := tab_eq h
theorem wrapI {i m : Int} (h0 : 0 ≤ i) (h1 : i < m) (h2 : m ≤ 1000000) : IntKind.i64.wrap (i + 1) = i + 1 := IntWalk.i64_in _ (by omega)
theorem lOf : LpsOK Try.prog Try.f18 [(0, LOf.sp)] := by
  refine .cons (LOf.sound E0_ok (lps := []) (n := 100) (inner rfl) (fun _ => rfl) ?_) .nil
  rintro ⟨r, f, t, i, l⟩ ⟨h1, h2, h3, h4⟩
  simp only at h1 h2 h3 h4
  rw [rOf, tab_eq h1.1]
  simp only [Tree.all, true_and, and_true, LoopC.Next, decide_eq_true_eq, decide_eq_false_iff_not]
  refine ⟨fun c => ⟨⟨h2, c⟩, ?_⟩, fun c => ?_⟩
  · rw [wrapI h2 c (by omega)]
    have e1 : 8 - i.toNat = (8 - (i + 1).toNat) + 1 := by omega
    have e2 : (i + 1).toNat = i.toNat + 1 := by omega
    have e3 : ((i.toNat : Nat) : Int) = i := by omega
    have ok : ∀ l' : List Int, (l'.length : Int) ≤ i + 1 → LOf.ok ⟨(r.1, (0, 0, []), List.replicate 16 (0, 0)), f, t, i + 1, l'⟩ := fun l' h => ⟨⟨h1.1, rfl⟩, by dsimp only; omega, by dsimp only; omega, h⟩
    have no : ∀ h : ¬ (decide (r.1.getD i.toNat 0 ≥ f) && decide (r.1.getD i.toNat 0 ≤ t)) = true, LOf.fin ⟨r, f, t, i, l⟩ = LOf.fin ⟨(r.1, (0, 0, []), List.replicate 16 (0, 0)), f, t, i + 1, l⟩ := by
      intro h
      simp only [LOf]
      rw [e1, ofL, if_neg h, e2]
    refine ⟨fun d => ⟨fun e => ⟨by omega, ?_⟩, fun e => ⟨ok l (by omega), by simp only [LOf]; omega, no (by rw [decide_eq_false e, Bool.and_false]; decide)⟩⟩, fun d => ⟨ok l (by omega), by simp only [LOf]; omega, no (by rw [decide_eq_false d, Bool.false_and]; decide)⟩⟩
    refine ⟨ok _ (by simp; omega), by simp only [LOf]; omega, ?_⟩
    simp only [LOf]
    rw [e1, ofL, if_pos (by rw [decide_eq_true d, decide_eq_true e]; rfl), e2, e3]
    simp
  · have : i = 8 := by omega
    subst this
    rw [show 8 - (8 : Int).toNat = 0 by decide]; simp [ofL]
def ofR (r : RingD) (f t : Int) : List Int := ofL r.1 f t 8 0
theorem of_t (r : RingD) (f t : Int) (h : okR r) : (fnT E0 [(0, LOf.sp)] 100 Try.f18 [Ring, i64, i64] [ints] (r, f, t, ())).all fun y => y = (ofR r f t, ()) := by
  rw [tOf, tab_eq h.1]
  simp only [Tree.all, true_and, and_true]
  exact ⟨⟨by omega, by omega, by omega⟩, rfl⟩
theorem rof_ok : PureOK Try.prog 18 [Ring, i64, i64] [ints] (fun x => okR x.1) (fun x => (ofR x.1 x.2.1 x.2.2.1, ())) :=
  fn_pure (E := E0) (n := 100) E0_ok Try.func18 bodyOf_ lOf fun x h => of_t x.1 x.2.1 x.2.2.1 h
theorem lMv : LpsOK Try.prog Try.f22 [(0, LMv.sp)] := by
  refine .cons (LMv.sound Q10_ok (lps := []) (n := 100) (inner rfl) (fun _ => rfl) ?_) .nil
  rintro ⟨r, n, i, l⟩ ⟨h1, h5, h2, h3, h4⟩
  simp only at h1 h2 h3 h4 h5
  rw [rMv, tab_r h1, tab_eq h1.1]
  simp only [Tree.all, true_and, and_true, LoopC.Next, decide_eq_true_eq, decide_eq_false_iff_not]
  refine ⟨fun c => ⟨h5, ?_⟩, fun c => ?_⟩
  · rw [wrapI h2 c (by omega)]
    have e1 : 16 - i.toNat = (16 - (i + 1).toNat) + 1 := by omega
    have e2 : (i + 1).toNat = i.toNat + 1 := by omega
    have e3 : ((i.toNat : Nat) : Int) = i := by omega
    have ok : ∀ l' : List Int, (l'.length : Int) ≤ i + 1 → LMv.ok ⟨r, n, i + 1, l'⟩ := fun l' h => ⟨h1, h5, by dsimp only; omega, by dsimp only; omega, h⟩
    have no : ∀ h : ¬ mvB r n i = true, LMv.fin ⟨r, n, i, l⟩ = LMv.fin ⟨r, n, i + 1, l⟩ := by
      intro h
      simp only [LMv]
      rw [e1, mvL, e3, if_neg h, e2]
    refine ⟨fun d => ⟨h5, fun e => ⟨fun f => ⟨fun g => ⟨by omega, ?_⟩, fun g => ⟨ok l (by omega), by simp only [LMv]; omega, no (by simp [mvB]; intro _ _ _; simpa using g)⟩⟩, fun f => ⟨ok l (by omega), by simp only [LMv]; omega, no (by simp [mvB]; intro _ _ h; simp at f; exact absurd f h)⟩⟩, fun e => ⟨ok l (by omega), by simp only [LMv]; omega, no (by simp [mvB, e])⟩⟩, fun d => ⟨ok l (by omega), by simp only [LMv]; omega, no (by simp [mvB, d])⟩⟩
    refine ⟨ok _ (by simp; omega), by simp only [LMv]; omega, ?_⟩
    simp only [LMv]
    rw [e1, mvL, e3, if_pos (by simp only [mvB, d, e]; simp at f g; simp [f, g]), e2]
    simp
  · have : i = 16 := by omega
    subst this
    rw [show 16 - (16 : Int).toNat = 0 by decide]; simp [mvL]
def moveR (r : RingD) (n : Int) : List Int := mvL r n 16 0
theorem mv_t (r : RingD) (n : Int) (h : okR r) (h2 : (r.2.1.2.2.length : Int) < small) : (fnT Q10 [(0, LMv.sp)] 100 Try.f22 [Ring, i64] [ints] (r, n, ())).all fun y => y = (moveR r n, ()) := by
  rw [tMv, tab_r h, tab_eq h.1]
  simp only [Tree.all, true_and, and_true]
  exact ⟨⟨h2, by omega, by omega, by omega⟩, rfl⟩
theorem rmv_ok : PureOK Try.prog 22 [Ring, i64] [ints] S1p (fun x => (moveR x.1 x.2.1, ())) :=
  fn_pure (E := Q10) (n := 100) Q10_ok Try.func22 bodyMv lMv fun x h => mv_t x.1 x.2.1 h.1 h.2
end Pl
namespace Pl
open Go Sx Go.Proofs Go.RowKit
abbrev KOf : Nat × Sx.Spec := (18, pureSp [Ring, i64, i64] [ints] (fun x => okR x.1) (fun x => (ofR x.1 x.2.1 x.2.2.1, ())))
noncomputable abbrev Y1 : Ex := mkExM Try.prog [KOf, KCt]
theorem Y1_ok : Y1.Sound := mkExM_sound ⟨pureSp_ok rof_ok, pureSp_ok contains_ok, trivial⟩
theorem bodyLe : Try.f10.body = some (bodyOf Try.f10) := by kernel_rfl
def leadL (h : List Int) : List Int → Int
  | [] => -1
  | n :: r => if h.contains n then n else leadL h r
def leadA (h : List Int) : List Int → Bool
  | [] => false
  | n :: r => h.contains n || leadA h r
structure ALe where
  h : List Int
  l0 : List Int
  i1 : Int
def LLe : LoopC ALe where
  n0 := 4
  det st := match rowS st 1 i64, rowS st 8 i64, intS st 10 with | some h, some l0, some i1 => some ⟨h, l0, i1⟩ | _, _, _ => none
  inv a := ⟨[(10, iv a.i1), (9, iv (↑a.l0.length : Int)), (8, .one (.row 3)), (1, .one (.row 1))],
    [(3, .ro i64 a.l0), (1, .ro i64 a.h)], 4⟩
  ok a := 0 ≤ a.i1 ∧ a.i1 ≤ a.l0.length ∧ a.l0.length ≤ 8 ∧ (a.h.length : Int) < big
  mu a := a.l0.length - a.i1.toNat
  fin a := .fork (leadA a.h (a.l0.drop a.i1.toNat)) (.leaf ⟨1, ⟨[(4, iv (leadL a.h (a.l0.drop a.i1.toNat)))], [], 4⟩⟩) (.leaf ⟨2, ⟨[], [], 4⟩⟩)
theorem rLe (h l0 : List Int) (i1 : Int) : @Eq _
  (LLe.round Y1 [] 100 Try.f10 0 ⟨h, l0, i1⟩)
  (.fork (decide (i1 < (↑l0.length : Int))) (
 .req ((0 : Int) ≤ i1 ∧ i1 < (↑l0.length : Int)) (
  .req ((0 : Int) ≤ i1 ∧ i1 < (↑l0.length : Int)) (
   .req ((↑h.length : Int) < (4611686018427387904 : Int)) (
    .fork (h.contains (l0.getD i1.toNat (0 : Int))) (
     .fork (Pl.leadA h (List.drop i1.toNat l0)) (
      .req (l0.getD i1.toNat (0 : Int) = Pl.leadL h (List.drop i1.toNat l0)) (
       .leaf (Option.none))) (
      .req (False) (
       .leaf (Option.none)))) (
     .req (IntKind.i64.wrap (i1 + (1 : Int)) = IntKind.i64.wrap (i1 + (1 : Int)) ∧ (↑l0.length : Int) = (↑l0.length : Int) ∧ l0 = l0 ∧ h = h) (
      .leaf (Option.some { h := h, l0 := l0, i1 := IntKind.i64.wrap (i1 + (1 : Int)) }))))))) (
 .fork (Pl.leadA h (List.drop i1.toNat l0)) (
  .req (False) (
   .leaf (Option.none))) (
  .req (True) (
   .leaf (Option.none)))) : Tree (Option Pl.ALe)) := by kernel_rfl
theorem tLe (r : RingD) (h : List Int) : @Eq _
  (fnT Y1 [(0, LLe.sp)] 100 Try.f10 [Ring, ints] [i64] (r, h, ()))
  (.req (8 = 8 ∧ 16 = 16) (
 .req ((0 : Int) ≤ (0 : Int) ∧ (0 : Int) ≤ (↑(Pl.ofR (tab 8 r.1 (0 : Int), r.2.1, tab 16 r.2.2 ((0 : Int), (0 : Int))) (2 : Int) (3 : Int)).length : Int) ∧ (Pl.ofR (tab 8 r.1 (0 : Int), r.2.1, tab 16 r.2.2 ((0 : Int), (0 : Int))) (2 : Int) (3 : Int)).length ≤ 8 ∧ (↑h.length : Int) < (4611686018427387904 : Int)) (
  .req ((0 : Int) = (0 : Int) ∧ (↑(Pl.ofR (tab 8 r.1 (0 : Int), r.2.1, tab 16 r.2.2 ((0 : Int), (0 : Int))) (2 : Int) (3 : Int)).length : Int) = (↑(Pl.ofR (tab 8 r.1 (0 : Int), r.2.1, tab 16 r.2.2 ((0 : Int), (0 : Int))) (2 : Int) (3 : Int)).length : Int) ∧ Pl.ofR (tab 8 r.1 (0 : Int), r.2.1, tab 16 r.2.2 ((0 : Int), (0 : Int))) (2 : Int) (3 : Int) = Pl.ofR (tab 8 r.1 (0 : Int), r.2.1, tab 16 r.2.2 ((0 : Int), (0 : Int))) (2 : Int) (3 : Int) ∧ h = h) (
   .fork (Pl.leadA h (List.drop 0 (Pl.ofR (tab 8 r.1 (0 : Int), r.2.1, tab 16 r.2.2 ((0 : Int), (0 : Int))) (2 : Int) (3 : Int)))) (
    .leaf ((Pl.leadL h (List.drop 0 (Pl.ofR (tab 8 r.1 (0 : Int), r.2.1, tab 16 r.2.2 ((0 : Int), (0 : Int))) (2 : Int) (3 : Int))), ()))) (
    .leaf (((-1 : Int), ())))))) : Tree (Int × PUnit)) := by kernel_rfl
end Pl
namespace Pl
open Go Sx Go.Proofs Go.RowKit
theorem lLe : LpsOK Try.prog Try.f10 [(0, LLe.sp)] := by
  refine .cons (LLe.sound Y1_ok (lps := []) (n := 100) (inner rfl) (fun _ => rfl) ?_) .nil
  rintro ⟨h, l, i⟩ ⟨h1, h2, h3, h4⟩
  simp only at h1 h2 h3 h4
  rw [rLe]
  simp only [all_leaf, all_fork, all_req, conjP, and_true, true_and, implies_true]
  simp only [decide_eq_true_eq, decide_eq_false_iff_not]
  refine ⟨fun c => ⟨⟨h1, c⟩, ⟨h1, c⟩, h4, fun d => ⟨fun _ => ⟨?_, trivial⟩, fun e => ?_⟩, fun d => ?_⟩, fun c => ⟨fun e => ?_, fun _ => trivial⟩⟩
  · rw [drop_cons (l := l) 0 h1 c, leadL, if_pos d]
  · rw [drop_cons (l := l) 0 h1 c, leadA, d, Bool.true_or] at e; exact absurd e (by decide)
  · rw [i64_inc (by omega) (by omega)]
    refine ⟨⟨by dsimp only; omega, by dsimp only; omega, h3, h4⟩, by simp only [LLe]; omega, ?_⟩
    simp only [LLe]
    have e1 : leadA h (l.drop i.toNat) = leadA h (l.drop (i + 1).toNat) := by rw [drop_cons (l := l) 0 h1 c, leadA, d, Bool.false_or]
    have e2 : leadL h (l.drop i.toNat) = leadL h (l.drop (i + 1).toNat) := by rw [drop_cons (l := l) 0 h1 c, leadL, if_neg (by rw [d]; decide)]
    rw [e1, e2]
  · rw [drop_end c, leadA] at e; exact absurd e (by decide)
theorem ofL_le (st : List Int) (f t : Int) : ∀ c j, (ofL st f t c j).length ≤ c
  | 0, _ => by simp [ofL]
  | c + 1, j => by
    have := ofL_le st f t c (j + 1)
    simp only [ofL]
    split
    · simp only [List.length_cons]; omega
    · omega
theorem leadL_none (h : List Int) : ∀ l : List Int, leadA h l = false → leadL h l = -1
  | [], _ => rfl
  | n :: r, e => by
    simp only [leadA, Bool.or_eq_false_iff] at e
    simp only [leadL]
    rw [if_neg (by rw [e.1]; decide)]
    exact leadL_none h r e.2
def leadR (r : RingD) (h : List Int) : Int := leadL h (ofR r 2 3)
theorem leader_t (r : RingD) (h : List Int) (hr : okR r) (hh : (h.length : Int) < big) : (fnT Y1 [(0, LLe.sp)] 100 Try.f10 [Ring, ints] [i64] (r, h, ())).all fun y => y = (leadR r h, ()) := by
  refine Tree.all_eq (tLe r h) ?_
  show Tree.all (α := Int × Unit) _ (fun y => y = (leadR r h, ()))
  rw [tab_eq hr.1, tab_eq hr.2]
  have e : (r.1, r.2.1, r.2.2) = r := rfl
  have hl : (ofR r 2 3).length ≤ 8 := ofL_le _ _ _ _ _
  simp only [e, List.drop_zero, all_leaf, all_fork, all_req, true_and, and_true]
  first
    | exact ⟨hr, ⟨by omega, by omega, hl, hh⟩, fun _ => rfl, fun c => by unfold leadR; rw [leadL_none h _ c]⟩
    | exact ⟨⟨by omega, by omega, hl, hh⟩, fun _ => rfl, fun c => by unfold leadR; rw [leadL_none h _ c]⟩
theorem leader_ok : PureOK Try.prog 10 [Ring, ints] [i64] (fun x => okR x.1 ∧ (List.length (α := Int) x.2.1 : Int) < big) (fun x => (leadR x.1 x.2.1, ())) :=
  fn_pure (E := Y1) (n := 100) Y1_ok Try.func10 bodyLe lLe fun x h => leader_t x.1 x.2.1 h.1 h.2
end Pl
namespace Pl
open Go Sx Go.Proofs Go.RowKit
theorem bodyAll : Try.f26.body = some (bodyOf Try.f26) := by kernel_rfl
theorem bodyNow : Try.f45.body = some (bodyOf Try.f45) := by kernel_rfl
noncomputable abbrev Y2 : Ex := mkExM Try.prog [KrO, KrT]
noncomputable abbrev Y3 : Ex := mkExM Try.prog [(26, fnI Y2 [] 100 Try.f26)]
theorem tNo (r : RingD) : @Eq _
  (fnO Y3 [] 100 Try.f45 [Ring] [ints] (r, ()))
  (.fork ((↑r.2.1.2.2.length : Int) == (0 : Int)) (
 .req ((8 = 8 ∧ 16 = 16) ∧ (↑r.2.1.2.2.length : Int) < (17592186044416 : Int)) (
  .req (9 ≤ 70368744177664) (
   .req ((8 = 8 ∧ 16 = 16) ∧ (↑r.2.1.2.2.length : Int) < (17592186044416 : Int)) (
    .req (18 ≤ 70368744177664) (
     .req ((8 = 8 ∧ 16 = 16) ∧ (↑r.2.1.2.2.length : Int) < (17592186044416 : Int)) (
      .req (27 ≤ 70368744177664) (
       .req ((8 = 8 ∧ 16 = 16) ∧ (↑r.2.1.2.2.length : Int) < (17592186044416 : Int)) (
        .req (36 ≤ 70368744177664) (
         .req ((8 = 8 ∧ 16 = 16) ∧ (↑r.2.1.2.2.length : Int) < (17592186044416 : Int)) (
          .req (45 ≤ 70368744177664) (
           .req ((8 = 8 ∧ 16 = 16) ∧ (↑r.2.1.2.2.length : Int) < (17592186044416 : Int)) (
            .req (54 ≤ 70368744177664) (
             .req ((8 = 8 ∧ 16 = 16) ∧ (↑r.2.1.2.2.length : Int) < (17592186044416 : Int)) (
              .req (63 ≤ 70368744177664) (
               .req ((8 = 8 ∧ 16 = 16) ∧ (↑r.2.1.2.2.length : Int) < (17592186044416 : Int)) (
                .req (72 ≤ 70368744177664) (
                 .req ((8 = 8 ∧ 16 = 16) ∧ (↑r.2.1.2.2.length : Int) < (17592186044416 : Int)) (
                  .req (81 ≤ 70368744177664) (
                   .req ((8 = 8 ∧ 16 = 16) ∧ (↑r.2.1.2.2.length : Int) < (17592186044416 : Int)) (
                    .req (90 ≤ 70368744177664) (
                     .req ((8 = 8 ∧ 16 = 16) ∧ (↑r.2.1.2.2.length : Int) < (17592186044416 : Int)) (
                      .req (99 ≤ 70368744177664) (
                       .req ((8 = 8 ∧ 16 = 16) ∧ (↑r.2.1.2.2.length : Int) < (17592186044416 : Int)) (
                        .req (108 ≤ 70368744177664) (
                         .req ((8 = 8 ∧ 16 = 16) ∧ (↑r.2.1.2.2.length : Int) < (17592186044416 : Int)) (
                          .req (117 ≤ 70368744177664) (
                           .req ((8 = 8 ∧ 16 = 16) ∧ (↑r.2.1.2.2.length : Int) < (17592186044416 : Int)) (
                            .req (126 ≤ 70368744177664) (
                             .req ((8 = 8 ∧ 16 = 16) ∧ (↑r.2.1.2.2.length : Int) < (17592186044416 : Int)) (
                              .req (135 ≤ 70368744177664) (
                               .req ((8 = 8 ∧ 16 = 16) ∧ (↑r.2.1.2.2.length : Int) < (17592186044416 : Int)) (
                                .req (144 ≤ 70368744177664) (
                                 .leaf ((tabL 16 fun j => Pl.ownerR (tab 8 r.1 (0 : Int), r.2.1, tab 16 r.2.2 ((0 : Int), (0 : Int))) j, ()))))))))))))))))))))))))))))))))))) (
 .req ((8 = 8 ∧ 16 = 16) ∧ (↑r.2.1.2.2.length : Int) < (17592186044416 : Int)) (
  .req (9 ≤ 70368744177664) (
   .req ((8 = 8 ∧ 16 = 16) ∧ (↑r.2.1.2.2.length : Int) < (17592186044416 : Int)) (
    .req (18 ≤ 70368744177664) (
     .req ((8 = 8 ∧ 16 = 16) ∧ (↑r.2.1.2.2.length : Int) < (17592186044416 : Int)) (
      .req (27 ≤ 70368744177664) (
       .req ((8 = 8 ∧ 16 = 16) ∧ (↑r.2.1.2.2.length : Int) < (17592186044416 : Int)) (
        .req (36 ≤ 70368744177664) (
         .req ((8 = 8 ∧ 16 = 16) ∧ (↑r.2.1.2.2.length : Int) < (17592186044416 : Int)) (
          .req (45 ≤ 70368744177664) (
           .req ((8 = 8 ∧ 16 = 16) ∧ (↑r.2.1.2.2.length : Int) < (17592186044416 : Int)) (
            .req (54 ≤ 70368744177664) (
             .req ((8 = 8 ∧ 16 = 16) ∧ (↑r.2.1.2.2.length : Int) < (17592186044416 : Int)) (
              .req (63 ≤ 70368744177664) (
               .req ((8 = 8 ∧ 16 = 16) ∧ (↑r.2.1.2.2.length : Int) < (17592186044416 : Int)) (
                .req (72 ≤ 70368744177664) (
                 .req ((8 = 8 ∧ 16 = 16) ∧ (↑r.2.1.2.2.length : Int) < (17592186044416 : Int)) (
                  .req (81 ≤ 70368744177664) (
                   .req ((8 = 8 ∧ 16 = 16) ∧ (↑r.2.1.2.2.length : Int) < (17592186044416 : Int)) (
                    .req (90 ≤ 70368744177664) (
                     .req ((8 = 8 ∧ 16 = 16) ∧ (↑r.2.1.2.2.length : Int) < (17592186044416 : Int)) (
                      .req (99 ≤ 70368744177664) (
                       .req ((8 = 8 ∧ 16 = 16) ∧ (↑r.2.1.2.2.length : Int) < (17592186044416 : Int)) (
                        .req (108 ≤ 70368744177664) (
                         .req ((8 = 8 ∧ 16 = 16) ∧ (↑r.2.1.2.2.length : Int) < (17592186044416 : Int)) (
                          .req (117 ≤ 70368744177664) (
                           .req ((8 = 8 ∧ 16 = 16) ∧ (↑r.2.1.2.2.length : Int) < (17592186044416 : Int)) (
                            .req (126 ≤ 70368744177664) (
                             .req ((8 = 8 ∧ 16 = 16) ∧ (↑r.2.1.2.2.length : Int) < (17592186044416 : Int)) (
                              .req (135 ≤ 70368744177664) (
                               .req ((8 = 8 ∧ 16 = 16) ∧ (↑r.2.1.2.2.length : Int) < (17592186044416 : Int)) (
                                .req (144 ≤ 70368744177664) (
                                 .leaf ((tabL 16 fun j => Pl.targetR (tab 8 r.1 (0 : Int), r.2.1, tab 16 r.2.2 ((0 : Int), (0 : Int))) j, ()))))))))))))))))))))))))))))))))))) : Tree (List Int × PUnit)) := by kernel_rfl
end Pl
namespace Pl
open Go Sx Go.Proofs Go.RowKit
def ownL (r : RingD) : List Int := tabL 16 (fun j => ownerR r (j : Int))
def tgtL (r : RingD) : List Int := tabL 16 (fun j => targetR r (j : Int))
def nowR (r : RingD) : List Int := if r.2.1.2.2.length = 0 then ownL r else tgtL r
theorem Y2_ok : Y2.Sound := mkExM_sound ⟨pureSp_ok rowner_ok, pureSp_ok rtarget_ok, trivial⟩
theorem Y3_ok : Y3.Sound := mkExM_sound ⟨fnI_ok (E := Y2) Y2_ok Try.func26 bodyAll .nil, trivial⟩
theorem now_t (r : RingD) (hr : okR r) (hs : (r.2.1.2.2.length : Int) < small) : (fnO Y3 [] 100 Try.f45 [Ring] [ints] (r, ())).all fun y => y = (nowR r, ()) := by
  refine Tree.all_eq (tNo r) ?_
  show Tree.all (α := List Int × Unit) _ (fun y => y = (nowR r, ()))
  rw [tab_eq hr.1, tab_eq hr.2]
  have e : (r.1, r.2.1, r.2.2) = r := rfl
  have hs' : (r.2.1.2.2.length : Int) < 17592186044416 := hs
  simp only [e, all_leaf, all_fork, all_req, true_and, and_true, hs', beq_iff_eq, beq_eq_false_iff_ne, ne_eq]
  refine ⟨fun c => ?_, fun c => ?_⟩
  · unfold nowR; rw [if_pos (by omega)]; simp [ownL]
  · unfold nowR; rw [if_neg (by omega)]; simp [tgtL]
theorem now_own : PureOwnOK Try.prog 45 [Ring] [ints] S1r (fun x => (nowR x.1, ())) :=
  fn_own (E := Y3) (n := 100) Y3_ok Try.func45 bodyNow .nil fun x h => now_t x.1 h.1 h.2
end Pl
namespace Pl
open Go Sx Go.Proofs Go.RowKit
theorem bodyEq : Try.f44.body = some (bodyOf Try.f44) := by kernel_rfl
structure AEq where
  a : List Int
  b : List Int
  i0 : Int
def LEq : LoopC AEq where
  n0 := 2
  det st := match rowS st 0 i64, rowS st 1 i64, intS st 13 with | some a, some b, some i0 => some ⟨a, b, i0⟩ | _, _, _ => none
  inv a := ⟨[(13, iv a.i0), (12, iv (↑a.a.length : Int)), (0, .one (.row 0)), (1, .one (.row 1))],
    [(0, .ro i64 a.a), (1, .ro i64 a.b)], 2⟩
  ok a := 0 ≤ a.i0 ∧ a.i0 ≤ a.a.length ∧ a.b.length = a.a.length ∧ (a.a.length : Int) < big
  mu a := a.a.length - a.i0.toNat
  fin a := .fork (decide (a.a.drop a.i0.toNat = a.b.drop a.i0.toNat)) (.leaf ⟨2, ⟨[], [], 2⟩⟩) (.leaf ⟨1, ⟨[(4, .one (.cbool false))], [], 2⟩⟩)
theorem rEq (a b : List Int) (i0 : Int) : @Eq _
  (LEq.round E0 [] 100 Try.f44 0 ⟨a, b, i0⟩)
  (.fork (decide (i0 < (↑a.length : Int))) (
 .req ((0 : Int) ≤ i0 ∧ i0 < (↑a.length : Int)) (
  .req ((0 : Int) ≤ i0 ∧ i0 < (↑a.length : Int)) (
   .req ((0 : Int) ≤ i0 ∧ i0 < (↑b.length : Int)) (
    .req ((0 : Int) ≤ i0 ∧ i0 < (↑b.length : Int)) (
     .fork (a.getD i0.toNat (0 : Int) != b.getD i0.toNat (0 : Int)) (
      .fork (decide (List.drop i0.toNat a = List.drop i0.toNat b)) (
       .req (False) (
        .leaf (Option.none))) (
       .req (True) (
        .leaf (Option.none)))) (
      .req (IntKind.i64.wrap (i0 + (1 : Int)) = IntKind.i64.wrap (i0 + (1 : Int)) ∧ (↑a.length : Int) = (↑a.length : Int) ∧ a = a ∧ b = b) (
       .leaf (Option.some { a := a, b := b, i0 := IntKind.i64.wrap (i0 + (1 : Int)) })))))))) (
 .fork (decide (List.drop i0.toNat a = List.drop i0.toNat b)) (
  .req (True) (
   .leaf (Option.none))) (
  .req (False) (
   .leaf (Option.none)))) : Tree (Option Pl.AEq)) := by kernel_rfl
theorem tEq (a b : List Int) : @Eq _
  (fnT E0 [(0, LEq.sp)] 100 Try.f44 [ints, ints] [.bool] (a, b, ()))
  (.fork ((↑a.length : Int) != (↑b.length : Int)) (
 .leaf ((false, ()))) (
 .req ((0 : Int) ≤ (0 : Int) ∧ (0 : Int) ≤ (↑a.length : Int) ∧ b.length = a.length ∧ (↑a.length : Int) < (4611686018427387904 : Int)) (
  .req ((0 : Int) = (0 : Int) ∧ (↑a.length : Int) = (↑a.length : Int) ∧ a = a ∧ b = b) (
   .fork (decide (a = b)) (
    .leaf ((true, ()))) (
    .leaf ((false, ())))))) : Tree (Bool × PUnit)) := by kernel_rfl
end Pl
namespace Pl
open Go Sx Go.Proofs Go.RowKit
theorem lEq : LpsOK Try.prog Try.f44 [(0, LEq.sp)] := by
  refine .cons (LEq.sound E0_ok (lps := []) (n := 100) (inner rfl) (fun _ => rfl) ?_) .nil
  rintro ⟨a, b, i⟩ ⟨h1, h2, h3, h4⟩
  simp only at h1 h2 h3 h4
  rw [rEq]
  simp only [all_leaf, all_fork, all_req, true_and, and_true, decide_eq_true_eq, decide_eq_false_iff_not, bne_iff_ne, ne_eq, bne_eq_false_iff_eq]
  have hd : ∀ c : i < (a.length : Int), (a.drop i.toNat = b.drop i.toNat ↔ a.getD i.toNat 0 = b.getD i.toNat 0 ∧ a.drop (i + 1).toNat = b.drop (i + 1).toNat) := fun c => by
    rw [drop_cons (l := a) 0 h1 c, drop_cons (l := b) 0 h1 (by omega), List.cons.injEq]
  refine ⟨fun c => ⟨⟨h1, c⟩, ⟨h1, c⟩, ⟨h1, by omega⟩, ⟨h1, by omega⟩, fun d => ?_, fun d => ?_⟩, fun c => ?_⟩
  · refine ⟨fun e => ?_, fun e => trivial⟩
    exact absurd ((hd c).1 e).1 d
  · rw [i64_inc (by omega) (by unfold big at h4; omega)]
    refine ⟨⟨by dsimp only; omega, by dsimp only; omega, h3, h4⟩, by simp only [LEq]; omega, ?_⟩
    simp only [LEq]
    have : decide (a.drop i.toNat = b.drop i.toNat) = decide (a.drop (i + 1).toNat = b.drop (i + 1).toNat) := by
      have h := hd c
      simp only [d, true_and] at h
      simp only [h]
    rw [this]
  · refine ⟨fun e => trivial, fun e => ?_⟩
    exact absurd (by rw [drop_end c, drop_end (by omega)]) e
theorem equal_t (a b : List Int) (h : (a.length : Int) < big) : (fnT E0 [(0, LEq.sp)] 100 Try.f44 [ints, ints] [.bool] (a, b, ())).all fun y => y = (decide (a = b), ()) := by
  rw [tEq]
  show Tree.all (α := Bool × Unit) _ (fun y => y = (decide (a = b), ()))
  simp only [all_leaf, all_fork, all_req, true_and, and_true, decide_eq_true_eq, decide_eq_false_iff_not, bne_iff_ne, ne_eq, bne_eq_false_iff_eq]
  refine ⟨fun c => ?_, fun c => ⟨⟨by omega, by omega, by omega, h⟩, fun e => ?_, fun e => ?_⟩⟩
  · have : a ≠ b := fun e => c (by rw [e])
    simp [this]
  · have : a = b := e
    simp [this]
  · have : a ≠ b := e
    simp [this]
theorem equal_ok : PureOK Try.prog 44 [ints, ints] [.bool] (fun x => (List.length (α := Int) x.1 : Int) < big) (fun x => (decide (x.1 = x.2.1), ())) :=
  fn_pure (E := E0) (n := 100) E0_ok Try.func44 bodyEq lEq fun x h => equal_t x.1 x.2.1 h
end Pl
namespace Pl
open Go Sx Go.Proofs Go.RowKit
theorem tabL_congr {α : Type} {n : Nat} {f g : Nat → α} (h : ∀ j, j < n → f j = g j) : tabL n f = tabL n g := by
  rw [tabL_eq, tabL_eq]
  exact List.map_congr_left fun j hj => h j (by simpa using hj)
theorem mxI_comm (x y : Int) : mxI x y = mxI y x := by unfold mxI; split <;> split <;> omega
theorem mxI_assoc (x y z : Int) : mxI (mxI x y) z = mxI x (mxI y z) := by unfold mxI; split <;> split <;> (try split) <;> (try split) <;> omega
theorem mxI_self (x : Int) : mxI x x = x := by unfold mxI; split <;> rfl
theorem joinE_def (a b : EntryD) : joinE a b = if b.1 > a.1 ∨ (b.1 = a.1 ∧ b.2 > a.2) then b else a := by
  obtain ⟨x, y⟩ := a
  obtain ⟨z, w⟩ := b
  simp only [joinE, cmpE, orL, cmpI]
  by_cases h1 : z < x
  · simp [h1]; intro h; exfalso; omega
  · by_cases h2 : x < z
    · simp [h1, h2]
    · have : z = x := by omega
      subst this
      by_cases h3 : w < y
      · simp [h3]; intro h; exfalso; omega
      · by_cases h4 : y < w
        · simp [h3, h4]
        · have : w = y := by omega
          subst this; simp
theorem joinE_comm (a b : EntryD) : joinE a b = joinE b a := by
  obtain ⟨x, y⟩ := a
  obtain ⟨z, w⟩ := b
  simp only [joinE_def]
  split <;> split <;> first | rfl | (simp only [Prod.mk.injEq]; omega)
theorem joinE_assoc (a b c : EntryD) : joinE (joinE a b) c = joinE a (joinE b c) := by
  obtain ⟨x, y⟩ := a
  obtain ⟨z, w⟩ := b
  obtain ⟨u, v⟩ := c
  rw [joinE_def (x, y) (z, w), joinE_def (z, w) (u, v)]
  simp only
  by_cases h1 : z > x ∨ (z = x ∧ w > y) <;> by_cases h2 : u > z ∨ (u = z ∧ v > w)
  · rw [if_pos h1, if_pos h2, joinE_def, joinE_def]; simp only; rw [if_pos h2, if_pos (by omega)]
  · rw [if_pos h1, if_neg h2, joinE_def, joinE_def]; simp only; rw [if_neg h2, if_pos h1]
  · rw [if_neg h1, if_pos h2]
  · rw [if_neg h1, if_neg h2, joinE_def, joinE_def]; simp only; rw [if_neg h1, if_neg (by omega)]
theorem joinE_self (a : EntryD) : joinE a a = a := by unfold joinE; split <;> rfl
theorem joinE_may {a b : EntryD} (h : mayE a = true) (k : mayE b = true) : mayE (joinE a b) = true := by
  unfold joinE; split <;> assumption
theorem joinP_may {a b : PlanD} (h : mayB a = true) (k : mayB b = true) : mayB (joinP a b) = true := by
  unfold joinP; split <;> assumption
theorem getS (a b : RingD) {j : Nat} (h : j < 8) : (joinR a b).1.getD j 0 = mxI (a.1.getD j 0) (b.1.getD j 0) := tabL_getD _ _ _ h
theorem getE (a b : RingD) {j : Nat} (h : j < 16) : (joinR a b).2.2.getD j (0, 0) = joinE (a.2.2.getD j (0, 0)) (b.2.2.getD j (0, 0)) := tabL_getD _ _ _ h
theorem joinR_comm (a b : RingD) : joinR a b = joinR b a := by
  unfold joinR
  rw [join_comm a.2.1 b.2.1]
  congr 1
  · exact tabL_congr fun j _ => mxI_comm _ _
  · congr 1; exact tabL_congr fun j _ => joinE_comm _ _
theorem joinR_assoc (a b c : RingD) : joinR (joinR a b) c = joinR a (joinR b c) := by
  show (tabL 8 (fun j => mxI ((joinR a b).1.getD j 0) (c.1.getD j 0)), joinP (joinP a.2.1 b.2.1) c.2.1, tabL 16 (fun j => joinE ((joinR a b).2.2.getD j (0, 0)) (c.2.2.getD j (0, 0)))) =
    (tabL 8 (fun j => mxI (a.1.getD j 0) ((joinR b c).1.getD j 0)), joinP a.2.1 (joinP b.2.1 c.2.1), tabL 16 (fun j => joinE (a.2.2.getD j (0, 0)) ((joinR b c).2.2.getD j (0, 0))))
  rw [join_assoc]
  congr 1
  · exact tabL_congr fun j hj => by rw [getS _ _ hj, getS _ _ hj, mxI_assoc]
  · congr 1; exact tabL_congr fun j hj => by rw [getE _ _ hj, getE _ _ hj, joinE_assoc]
theorem joinR_self {a : RingD} (h : okR a) : joinR a a = a := by
  obtain ⟨s, p, e⟩ := a
  show (tabL 8 (fun j => mxI (s.getD j 0) (s.getD j 0)), joinP p p, tabL 16 (fun j => joinE (e.getD j (0, 0)) (e.getD j (0, 0)))) = (s, p, e)
  simp only [mxI_self, joinE_self, join_self]
  rw [tabL_map (xs := s) (g := fun x => x) h.1, tabL_map (xs := e) (g := fun x => x) h.2]
  simp
theorem belowR_iff {a b : RingD} : belowR a b = true ↔ joinR a b = b := by simp [belowR, sameR]
theorem below_join (a b : RingD) (h : okR a) : belowR a (joinR a b) = true := by
  rw [belowR_iff, ← joinR_assoc, joinR_self h]
theorem below_join' (a b : RingD) (h : okR b) : belowR b (joinR a b) = true := by
  rw [joinR_comm]; exact below_join b a h
theorem below_trans {a b c : RingD} (h : belowR a b = true) (k : belowR b c = true) : belowR a c = true := by
  rw [belowR_iff] at *
  rw [← k, ← joinR_assoc, h]
theorem stB_mx {x y : Int} (h : stB x = true) (k : stB y = true) : stB (mxI x y) = true := by unfold mxI; split <;> assumption
theorem mayR_join {a b : RingD} (ha : okR a) (hb : okR b) (h : mayR a = true) (k : mayR b = true) : mayR (joinR a b) = true := by
  rw [mayR_iff ha] at h
  rw [mayR_iff hb] at k
  rw [mayR_iff (joinR_ok a b)]
  simp only [Bool.and_eq_true, List.all_eq_true] at *
  refine ⟨fun x hx => ?_, joinP_may h.2.1 k.2.1, fun x hx => ?_⟩
  · simp only [joinR] at hx
    rw [tabL_zip mxI ha.1 hb.1] at hx
    obtain ⟨i, hi, rfl⟩ := List.mem_iff_getElem.1 hx
    rw [List.getElem_zipWith]
    exact stB_mx (h.1 _ (List.getElem_mem _)) (k.1 _ (List.getElem_mem _))
  · simp only [joinR] at hx
    rw [tabL_zip joinE ha.2 hb.2] at hx
    obtain ⟨i, hi, rfl⟩ := List.mem_iff_getElem.1 hx
    rw [List.getElem_zipWith]
    exact joinE_may (h.2.2 _ (List.getElem_mem _)) (k.2.2 _ (List.getElem_mem _))
theorem sameR_self (a : RingD) : sameR a a = true := by simp [sameR]
theorem sameR_iff {a b : RingD} : sameR a b = true ↔ a = b := by simp [sameR]
theorem rise_cases (r : RingD) (n s : Int) : riseR r n s = (zeroR, 1) ∨ (riseR r n s = (zeroR, 8) ∧ nodeB n = true ∧ r.1.getD n.toNat 0 ≥ s) ∨
    (riseR r n s = ((r.1.set n.toNat s, r.2.1, r.2.2), 0) ∧ mayR r = true ∧ nodeB n = true ∧ stB s = true ∧ 1 ≤ s ∧ r.1.getD n.toNat 0 < s) := by
  unfold riseR
  split
  · rename_i h
    simp only [Bool.and_eq_true, Bool.not_eq_true', decide_eq_false_iff_not] at h
    split
    · rename_i h2; exact .inr (.inl ⟨rfl, h.2.1, of_decide_eq_true h2⟩)
    · rename_i h2
      have h3 : ¬ r.1.getD n.toNat 0 ≥ s := fun h => h2 (decide_eq_true h)
      refine .inr (.inr ⟨rfl, h.1, h.2.1, ?_, by omega, by omega⟩)
      have h4 : ¬ s < 0 := by omega
      simp [stB, h4]; omega
  · exact .inl rfl
theorem zeroR_ok : okR zeroR := ⟨rfl, rfl⟩
theorem zeroR_eq : (List.replicate 8 (0 : Int), ((0 : Int), (0 : Int), ([] : List Int)), List.replicate 16 ((0 : Int), (0 : Int))) = zeroR := rfl
theorem set_ok {r : RingD} (h : okR r) (k : Nat) (s : Int) : okR (r.1.set k s, r.2.1, r.2.2) := ⟨by simpa using h.1, h.2⟩
theorem getD_setR {xs : List Int} {k j : Nat} {s : Int} (h : k < xs.length) : (xs.set k s).getD j 0 = if k = j then s else xs.getD j 0 := by
  simp only [List.getD_eq_getElem?_getD, List.getElem?_set]
  split
  · rename_i e; subst e; simp [h]
  · rfl
theorem tabL_self {α : Type} {n : Nat} {xs : List α} {z : α} (h : xs.length = n) : tabL n (fun j => xs.getD j z) = xs := by
  have := tabL_map (xs := xs) (z := z) (g := fun x => x) h
  simpa using this
theorem rise_below {r : RingD} (h : okR r) {k : Nat} {s : Int} (hk : k < 8) (hs : r.1.getD k 0 < s) : joinR r (r.1.set k s, r.2.1, r.2.2) = (r.1.set k s, r.2.1, r.2.2) ∧ joinR (r.1.set k s, r.2.1, r.2.2) r ≠ r := by
  constructor
  · unfold joinR
    dsimp only
    rw [join_self]
    congr 1
    · rw [← tabL_self (n := 8) (xs := r.1.set k s) (z := 0) (by simpa using h.1)]
      refine tabL_congr fun j hj => ?_
      rw [tabL_self (n := 8) (by simpa using h.1), getD_setR (by rw [h.1]; exact hk)]
      split
      · rename_i e; subst e; unfold mxI; rw [if_pos (by omega)]
      · exact mxI_self _
    · congr 1
      simp only [joinE_self]
      exact tabL_self h.2
  · intro e
    have e1 := congrArg (fun q : RingD => q.1.getD k 0) e
    rw [getS _ _ hk] at e1
    dsimp only at e1
    rw [getD_setR (by rw [h.1]; exact hk), if_pos rfl] at e1
    unfold mxI at e1
    rw [if_neg (by omega)] at e1
    omega
theorem mayR_set {r : RingD} (h : okR r) (hm : mayR r = true) {k : Nat} {s : Int} (hs : stB s = true) : mayR (r.1.set k s, r.2.1, r.2.2) = true := by
  rw [mayR_iff h] at hm
  rw [mayR_iff (set_ok h k s)]
  simp only [Bool.and_eq_true, List.all_eq_true] at *
  refine ⟨fun x hx => ?_, hm.2⟩
  rcases List.mem_or_eq_of_mem_set hx with h1 | h1
  · exact hm.1 x h1
  · rw [h1]; exact hs
end Pl
namespace Pl
open Go Sx Go.Proofs Go.RowKit
theorem reads_okR {R : Nat → Prop} {w : World} {x : RingD} {cs : List Value} (h : ReadsC R w Ring x cs) : okR x := by
  obtain ⟨c1, c2, _, ⟨h1, _⟩, c3, c4, _, _, h2, _⟩ := h
  exact ⟨h1, h2⟩
abbrev rings : Ty := .slice Ring
def heavyR (r : RingD) : Bool := decide ((r.2.1.2.2.length : Int) > 100)
theorem bodyH : Try.f8.body = some (bodyOf Try.f8) := by kernel_rfl
abbrev KrB : Nat × Sx.Spec := (14, pureSp [Ring, Ring] [.bool] S2r (fun x => (belowR x.1 x.2.1, ())))
abbrev KrF : Nat × Sx.Spec := (15, pureSp [i64] [Ring, .bool] (fun _ => True) (fun x => ((firstR x.1).1, (firstR x.1).2, ())))
abbrev KrR : Nat × Sx.Spec := (16, pureSp [Ring, i64, i64] [Ring, i64] S1rn (fun x => ((riseR x.1 x.2.1 x.2.2.1).1, (riseR x.1 x.2.1 x.2.2.1).2, ())))
abbrev KrFL : Nat × Sx.Spec := (15, pureSpL [i64] [Ring, .bool] (fun _ => True) (fun x => ((firstR x.1).1, (firstR x.1).2, ())))
abbrev KrRL : Nat × Sx.Spec := (16, pureSpL [Ring, i64, i64] [Ring, i64] S1rn (fun x => ((riseR x.1 x.2.1 x.2.2.1).1, (riseR x.1 x.2.1 x.2.2.1).2, ())))
noncomputable abbrev KHv : Nat × Sx.Spec := (8, fnI E0 [] 100 Try.f8)
abbrev KMv : Nat × Sx.Spec := (22, pureSp [Ring, i64] [ints] S1p (fun x => (moveR x.1 x.2.1, ())))
end Pl
namespace Pl
open Go Sx Go.Proofs Go.RowKit
theorem body13 : Try.f46.body = some (bodyOf Try.f46) := by kernel_rfl
noncomputable abbrev E11 : Ex := mkEx Try.prog [(31, pureSp [Plan] [.bool] (fun x => (List.length (α := Int) x.1.2.2 : Int) < big) (fun x => (mayB x.1, ()))), (51, pureSp [i64] [.bool] (fun _ => True) (fun x => (nodeB x.1, ()))),
  (52, pureSp [ints] [.bool] (fun x => (List.length (α := Int) x.1 : Int) < big) (fun x => (fullB x.1, ()))), (48, pureSp [Plan] [Plan] S1 (fun x => x))]
theorem E11_ok : E11.Sound := mkEx_sound ⟨pureSp_ok may_ok, pureSp_ok node_ok, pureSp_ok full_ok, pureSp_ok copied_ok, trivial⟩
theorem t13 (v b : Int) (l : List Int) (by' : Int) (t : List Int) :
  fnT E11 [] 100 Try.f46 [Plan, i64, ints] [Plan, i64] ((v, b, l), by', t, ()) =
.req ((↑l.length : Int) < (4611686018427387904 : Int)) (
 .fork (!Pl.mayB (v, b, l)) (
  .leaf ((((0 : Int), (0 : Int), []), (1 : Int), ()))) (
  .req (True) (
   .fork (!Pl.nodeB by') (
    .leaf ((((0 : Int), (0 : Int), []), (1 : Int), ()))) (
    .req ((↑t.length : Int) < (4611686018427387904 : Int)) (
     .fork (!Pl.fullB t) (
      .leaf ((((0 : Int), (0 : Int), []), (1 : Int), ()))) (
      .fork (v == (1000000 : Int)) (
       .leaf ((((0 : Int), (0 : Int), []), (6 : Int), ()))) (
       .req ((↑t.length : Int) < (17592186044416 : Int)) (
        .leaf (((IntKind.i64.wrap (v + (1 : Int)), by', t), (0 : Int), ())))))))))) := by kernel_rfl
def nextP (p : PlanD) (n : Int) (t : List Int) : PlanD × Int :=
  if mayB p && nodeB n && fullB t then if p.1 = 1000000 then ((0, 0, []), 6) else ((p.1 + 1, n, t), 0) else ((0, 0, []), 1)
abbrev S3 : TDs [Plan, i64, ints] → Prop := fun x => (List.length (α := Int) x.1.2.2 : Int) < small ∧ (List.length (α := Int) x.2.2.1 : Int) < small
abbrev NxF : TDs [Plan, i64, ints] → TDs [Plan, i64] := fun x => let r := nextP x.1 x.2.1 x.2.2.1; (r.1, r.2, ())
theorem mayB_bound {v b : Int} {l : List Int} (h : mayB (v, b, l) = true) : 0 ≤ v ∧ v ≤ 1000000 := by
  unfold mayB at h
  split at h <;> simp at h <;> omega
theorem next_ok : PureOK Try.prog 46 [Plan, i64, ints] [Plan, i64] S3 NxF :=
  fn_pure (E := E11) (n := 100) E11_ok Try.func46 body13 .nil fun x h => by
    obtain ⟨⟨v, b, l⟩, n, t, _⟩ : PlanD × Int × List Int × Unit := x
    obtain ⟨h1, h2⟩ : (l.length : Int) < small ∧ (t.length : Int) < small := h
    refine Tree.all_eq (t13 v b l n t) ?_
    show Tree.all _ fun y => y = ((nextP (v, b, l) n t).1, (nextP (v, b, l) n t).2, ())
    unfold small at h1 h2
    simp only [Tree.all, Bool.not_eq_true', Bool.not_eq_false', beq_iff_eq, beq_eq_false_iff_ne, ne_eq]
    refine ⟨by omega, fun c => ?_, fun c => ⟨trivial, fun d => ?_, fun d => ⟨by omega, fun e => ?_, fun e => ⟨fun f => ?_, fun f => ⟨h2, ?_⟩⟩⟩⟩⟩
    · simp [nextP, c] <;> rfl
    · simp [nextP, d] <;> rfl
    · simp [nextP, e] <;> rfl
    · subst f; simp [nextP, c, d, e] <;> rfl
    · have := mayB_bound c
      rw [IntWalk.i64_in (v + 1) (by omega)]
      simp [nextP, c, d, e, f] <;> rfl
end Pl
namespace Pl
open Go Sx Go.Proofs Go.RowKit
theorem fltB_congr (f g : Nat → Bool) : ∀ (c j : Nat), (∀ k, j ≤ k → k < j + c → f k = g k) → fltB f c j = fltB g c j
  | 0, _, _ => rfl
  | c + 1, j, h => by
    simp only [fltB]
    rw [h j (by omega) (by omega), fltB_congr f g c (j + 1) (fun k a b => h k (by omega) (by omega))]
theorem memL_congr {a b : List Int} (h : ∀ k : Nat, k < 8 → ((k : Int) ∈ a ↔ (k : Int) ∈ b)) : memL a = memL b := by
  unfold memL
  refine fltB_congr _ _ _ _ fun k _ h2 => ?_
  have := h k (by omega)
  simp only [List.contains_eq_mem, decide_eq_decide, this]
theorem asgL_congr {now a b : List Int} (h : memL a = memL b) : asgL now a = asgL now b := by
  unfold asgL quotaL; rw [h]
theorem quotaL_congr {now a b : List Int} (h : memL a = memL b) : quotaL now a = quotaL now b := by
  unfold quotaL; rw [h]
theorem asgM_len (now m q : List Int) : (asgM now m q).length = 16 := by
  unfold asgM
  rw [asg1_len]
  have : ∀ (c p : Nat) (to la : List Int), (asg0 now m c p to la).1.length = to.length := by
    intro c; induction c with
    | zero => intro p to la; rfl
    | succ c ih => intro p to la; simp only [asg0]; split <;> rw [ih] <;> simp
  rw [this]; simp
theorem asgL_len (now ms : List Int) : (asgL now ms).length ≤ 16 := by
  unfold asgL; split
  · simp
  · rw [asgM_len]; omega
theorem quotaL_len (now ms : List Int) : (quotaL now ms).length ≤ 8 := by
  by_cases h : (memL ms).length = 0
  · unfold quotaL; rw [if_pos h]; simp
  · have := (quotaL_all now ms h).2.1
    have := memL_len ms
    omega
theorem fltB_nodup (f : Nat → Bool) : ∀ c j, (fltB f c j).Nodup
  | 0, _ => by simp [fltB]
  | c + 1, j => by
    simp only [fltB]
    split
    · refine List.nodup_cons.2 ⟨fun h => ?_, fltB_nodup f c (j + 1)⟩
      obtain ⟨k, h1, _, _, h4⟩ := (fltB_mem _ _ _ _).1 h
      omega
    · exact fltB_nodup f c (j + 1)
theorem memL_nodup (ms : List Int) : (memL ms).Nodup := fltB_nodup _ _ _
theorem nodup_getD {l : List Int} (h : l.Nodup) {i j : Nat} (hi : i < l.length) (hj : j < l.length) (e : l.getD i 0 = l.getD j 0) : i = j := by
  rw [getD_get 0 hi, getD_get 0 hj] at e
  exact (List.getElem_inj h).1 e
theorem getD_set (l : List Int) (k i : Nat) (v : Int) (h : k < l.length) : (l.set k v).getD i 0 = if i = k then v else l.getD i 0 := by
  by_cases e : i = k
  · subst e; simp [h]
  · rw [if_neg e]; simp [List.getElem?_set, Ne.symm e]
theorem asg0_inv (now m q : List Int) (hm : ∀ x ∈ m, 0 ≤ x) (hd : m.Nodup) : ∀ (c p : Nat) (to la : List Int), p + c = 16 → to.length = 16 → la.length = m.length → (∀ x ∈ la, 0 ≤ x ∧ x ≤ 40) → ((to.take p).count (-1) : Int) + c = la.sum →
    (∀ k, k < p → to.getD k 0 = -1 ∨ to.getD k 0 ∈ m) → (∀ i, i < m.length → ((to.take p).count (m.getD i 0) : Int) + la.getD i 0 = q.getD i 0) →
    (asg0 now m c p to la).1.length = 16 ∧ (asg0 now m c p to la).2.length = m.length ∧ (∀ x ∈ (asg0 now m c p to la).2, 0 ≤ x ∧ x ≤ 40) ∧ ((asg0 now m c p to la).1.count (-1) : Int) = (asg0 now m c p to la).2.sum ∧
    (∀ k, k < 16 → (asg0 now m c p to la).1.getD k 0 = -1 ∨ (asg0 now m c p to la).1.getD k 0 ∈ m) ∧ (∀ i, i < m.length → ((asg0 now m c p to la).1.count (m.getD i 0) : Int) + (asg0 now m c p to la).2.getD i 0 = q.getD i 0)
  | 0, p, to, la, hp, ht, hl, hx, hs, ha, hq => by
    rw [List.take_of_length_le (by omega)] at hs
    refine ⟨ht, hl, hx, by simpa [asg0] using hs, fun k hk => ha k (by omega), fun i hi => ?_⟩
    have := hq i hi
    rw [List.take_of_length_le (by omega)] at this
    exact this
  | c + 1, p, to, la, hp, ht, hl, hx, hs, ha, hq => by
    obtain ⟨i1, i2, i3⟩ := indexF_range m (atL now (p : Int))
    simp only [asg0]
    split
    · rename_i t
      simp only [Bool.and_eq_true, decide_eq_true_eq] at t
      have hlt : (indexF m (atL now (p : Int))).toNat < la.length := by omega
      have hg : la.getD (indexF m (atL now (p : Int))).toNat 0 ∈ la := by rw [getD_get 0 hlt]; exact List.getElem_mem hlt
      have hb := hx _ hg
      have hv : m.getD (indexF m (atL now (p : Int))).toNat 0 ∈ m := getD_mem 0 t.1 i2
      have hv0 := hm _ hv
      refine asg0_inv now m q hm hd c (p + 1) _ _ (by omega) (by simp [ht]) (by simp [hl]) (fun x h => ?_) ?_ (fun k hk => ?_) (fun i hi => ?_)
      · rcases set_mem h with h | h
        · exact hx x h
        · omega
      · rw [set_take_succ _ (by omega), sum_set _ _ _ hlt, List.count_append, List.count_singleton, if_neg (fun z => by have := eq_of_beq z; omega)]
        omega
      · rw [getD_set _ _ _ _ (by omega)]
        split
        · exact .inr hv
        · exact ha k (by omega)
      · have h0 := hq i hi
        rw [set_take_succ _ (by omega), List.count_append, List.count_singleton, getD_set _ _ _ _ hlt]
        by_cases e : i = (indexF m (atL now (p : Int))).toNat
        · subst e
          rw [if_pos (beq_self_eq_true _), if_pos rfl]; omega
        · rw [if_neg (fun z => e (nodup_getD hd hi (by omega) (eq_of_beq z).symm)), if_neg e]; omega
    · refine asg0_inv now m q hm hd c (p + 1) _ _ (by omega) (by simp [ht]) hl hx ?_ (fun k hk => ?_) (fun i hi => ?_)
      · rw [set_take_succ _ (by omega), List.count_append, List.count_singleton, if_pos (by simp)]
        omega
      · rw [getD_set _ _ _ _ (by omega)]
        split
        · exact .inl rfl
        · exact ha k (by omega)
      · have h0 := hq i hi
        have hv : m.getD i 0 ∈ m := getD_mem (i := (i : Int)) 0 (by omega) (by omega)
        have hv0 := hm _ hv
        rw [set_take_succ _ (by omega), List.count_append, List.count_singleton, if_neg (fun z => by have := eq_of_beq z; omega)]
        omega
theorem count_set' (l : List Int) (k : Nat) (v a : Int) (h : k < l.length) : ((l.set k v).count a : Int) = l.count a - (if l.getD k 0 = a then 1 else 0) + (if v = a then 1 else 0) := by
  induction l generalizing k with
  | nil => simp at h
  | cons b l ih =>
    cases k with
    | zero =>
      simp only [List.set_cons_zero, List.count_cons, List.getD_cons_zero, beq_iff_eq]
      split <;> split <;> simp <;> omega
    | succ k =>
      have := ih k (by simpa using h)
      simp only [List.set_cons_succ, List.count_cons, List.getD_cons_succ, beq_iff_eq]
      split <;> omega
theorem asg1_inv (m t0 q : List Int) (hm : ∀ x ∈ m, 0 ≤ x) (hd : m.Nodup) (hz : t0.length = 16) : ∀ (c p : Nat) (to la : List Int), p + c = 16 → to.length = 16 → la.length = m.length → (∀ x ∈ la, 0 ≤ x ∧ x ≤ 40) → ((t0.drop p).count (-1) : Int) = la.sum →
    (∀ k, k < p → to.getD k 0 ∈ m) → (∀ k, p ≤ k → k < 16 → to.getD k 0 = t0.getD k 0 ∧ (t0.getD k 0 = -1 ∨ t0.getD k 0 ∈ m)) → (∀ i, i < m.length → (to.count (m.getD i 0) : Int) + la.getD i 0 = q.getD i 0) →
    (asg1 m t0 c p to la).2.sum = 0 ∧ (asg1 m t0 c p to la).2.length = m.length ∧ (∀ x ∈ (asg1 m t0 c p to la).2, 0 ≤ x ∧ x ≤ 40) ∧
    (∀ k, k < 16 → (asg1 m t0 c p to la).1.getD k 0 ∈ m) ∧ (∀ i, i < m.length → ((asg1 m t0 c p to la).1.count (m.getD i 0) : Int) + (asg1 m t0 c p to la).2.getD i 0 = q.getD i 0) ∧ (∀ k, t0.getD k 0 ≠ -1 → (asg1 m t0 c p to la).1.getD k 0 = to.getD k 0) ∧ (∀ k, k < p → (asg1 m t0 c p to la).1.getD k 0 = to.getD k 0)
  | 0, p, to, la, hp, ht, hl, hx, hs, ha, hb, hq => by
    rw [List.drop_eq_nil_of_le (by omega)] at hs
    exact ⟨by simpa [asg1] using hs.symm, hl, hx, fun k hk => ha k (by omega), hq, fun _ _ => rfl, fun _ _ => rfl⟩
  | c + 1, p, to, la, hp, ht, hl, hx, hs, ha, hb, hq => by
    have hdr := drop_cons (l := t0) (i := (p : Int)) 0 (by omega) (by omega)
    have e3 : ((p : Int) + 1).toNat = p + 1 := by omega
    rw [e3, Int.toNat_natCast] at hdr
    rw [hdr, List.count_cons] at hs
    have hbp := hb p (by omega) (by omega)
    simp only [asg1]
    split
    · rename_i t
      have t' : t0.getD p 0 = -1 := by simpa using t
      rw [if_pos (by rw [t']; rfl)] at hs
      obtain ⟨p1, p2, p3⟩ := pick_range m la to (p : Int) hl (by omega)
      have hlt : (pick m la to (p : Int)).toNat < la.length := by omega
      have hg : la.getD (pick m la to (p : Int)).toNat 0 ∈ la := by rw [getD_get 0 hlt]; exact List.getElem_mem hlt
      have hbd := hx _ hg
      have hv : m.getD (pick m la to (p : Int)).toNat 0 ∈ m := getD_mem 0 p1 p2
      obtain ⟨r1, r2, r3, r4, r5, r6, r7⟩ := asg1_inv m t0 q hm hd hz c (p + 1) (to.set p (m.getD (pick m la to (p : Int)).toNat 0)) (la.set (pick m la to (p : Int)).toNat (la.getD (pick m la to (p : Int)).toNat 0 - 1)) (by omega) (by simp [ht]) (by simp [hl]) (fun x h => by
          rcases set_mem h with h | h
          · exact hx x h
          · omega) (by rw [sum_set _ _ _ hlt]; omega) (fun k hk => by
          rw [getD_set _ _ _ _ (by omega)]
          split
          · exact hv
          · exact ha k (by omega)) (fun k h1 h2 => by
          rw [getD_set _ _ _ _ (by omega), if_neg (by omega)]
          exact hb k (by omega) h2) (fun i hi => by
          have h0 := hq i hi
          have hvi : m.getD i 0 ∈ m := getD_mem (i := (i : Int)) 0 (by omega) (by omega)
          have hvi0 := hm _ hvi
          rw [count_set' _ _ _ _ (by omega), getD_set _ _ _ _ hlt, if_neg (by rw [hbp.1]; omega)]
          by_cases e : i = (pick m la to (p : Int)).toNat
          · subst e
            rw [if_pos rfl, if_pos rfl]; omega
          · rw [if_neg (fun z => e (nodup_getD hd hi (by omega) z.symm)), if_neg e]; omega)
      refine ⟨r1, r2, r3, r4, r5, fun k hk => ?_, fun k hk => ?_⟩
      · rw [r6 k hk, getD_set _ _ _ _ (by omega), if_neg (fun e => hk (by rw [e, t']))]
      · rw [r7 k (by omega), getD_set _ _ _ _ (by omega), if_neg (by omega)]
    · rename_i t
      have t' : t0.getD p 0 ≠ -1 := by simpa using t
      rw [if_neg (by simpa using t')] at hs
      obtain ⟨r1, r2, r3, r4, r5, r6, r7⟩ := asg1_inv m t0 q hm hd hz c (p + 1) to la (by omega) ht hl hx (by omega) (fun k hk => by
          by_cases e : k = p
          · subst e; rw [hbp.1]; exact hbp.2.resolve_left t'
          · exact ha k (by omega)) (fun k h1 h2 => hb k (by omega) h2) hq
      exact ⟨r1, r2, r3, r4, r5, r6, fun k hk => r7 k (by omega)⟩
theorem zero_of_sum : ∀ (l : List Int), (∀ x ∈ l, 0 ≤ x) → l.sum = 0 → ∀ i, l.getD i 0 = 0
  | [], _, _, i => by simp
  | a :: l, h, hs, i => by
    have h1 := h a (by simp)
    have h2 : 0 ≤ l.sum := by
      have h3 : ∀ x ∈ l, 0 ≤ x := fun x hx => h x (by simp [hx])
      clear hs h h1
      induction l with
      | nil => simp
      | cons b l ih => have := h3 b (by simp); have := ih (fun x hx => h3 x (by simp [hx])); simp only [List.sum_cons]; omega
    simp only [List.sum_cons] at hs
    cases i with
    | zero => simp; omega
    | succ i => simpa using zero_of_sum l (fun x hx => h x (by simp [hx])) (by omega) i
theorem asgM_all (now m q : List Int) (hm : ∀ x ∈ m, 0 ≤ x) (hd : m.Nodup) (h1 : q.sum = 16) (h2 : q.length = m.length) (h3 : ∀ x ∈ q, 0 ≤ x ∧ x ≤ 40) :
    (∀ k, k < 16 → (asgM now m q).getD k 0 ∈ m) ∧ (∀ i, i < m.length → ((asgM now m q).count (m.getD i 0) : Int) = q.getD i 0) ∧ (∀ k, (asg0 now m 16 0 (List.replicate 16 0) q).1.getD k 0 ≠ -1 → (asgM now m q).getD k 0 = (asg0 now m 16 0 (List.replicate 16 0) q).1.getD k 0) := by
  obtain ⟨a1, a2, a3, a4, a5, a6⟩ := asg0_inv now m q hm hd 16 0 (List.replicate 16 0) q (by omega) (by simp) h2 h3 (by simp; omega) (fun k hk => by omega) (fun i hi => by simp)
  unfold asgM
  generalize asg0 now m 16 0 (List.replicate 16 0) q = r at *
  obtain ⟨r1, r2, r3, r4, r5, r6, r7⟩ := asg1_inv m r.1 q hm hd a1 16 0 r.1 r.2 (by omega) a1 a2 a3 (by simpa using a4) (fun k hk => by omega) (fun k _ hk => ⟨rfl, a5 k hk⟩) a6
  refine ⟨r4, fun i hi => ?_, r6⟩
  have := r5 i hi
  rw [zero_of_sum _ (fun x hx => (r3 x hx).1) r1 i] at this
  omega
theorem memL_idem (ms : List Int) : memL (memL ms) = memL ms := memL_congr fun k hk => by
  constructor
  · intro h
    obtain ⟨j, _, _, h4, h5⟩ := (fltB_mem _ _ _ _).1 h
    have e : j = k := by omega
    subst e
    simpa using h4
  · exact fun h => (fltB_mem _ _ _ _).2 ⟨k, by omega, by omega, by simpa using h, rfl⟩
theorem memL_iff (ms : List Int) (x : Int) : x ∈ memL ms ↔ x ∈ ms ∧ 0 ≤ x ∧ x < 8 := by
  constructor
  · intro h
    obtain ⟨j, _, h3, h4, h5⟩ := (fltB_mem _ _ _ _).1 h
    subst h5
    exact ⟨by simpa using h4, by omega, by omega⟩
  · rintro ⟨h1, h2, h3⟩
    exact (fltB_mem _ _ _ _).2 ⟨x.toNat, by omega, by omega, by rw [Int.toNat_of_nonneg h2]; simpa using h1, by omega⟩
theorem asgL_all (now ms : List Int) (h : (memL ms).length ≠ 0) :
    (asgL now ms).length = 16 ∧ (∀ k, k < 16 → (asgL now ms).getD k 0 ∈ memL ms) ∧ (∀ i, i < (memL ms).length → ((asgL now ms).count ((memL ms).getD i 0) : Int) = (quotaL now ms).getD i 0) := by
  obtain ⟨q1, q2, q3⟩ := quotaL_all now ms h
  have := asgM_all now (memL ms) (quotaL now ms) (fun x hx => (memL_nn ms x hx).1) (memL_nodup ms) q1 q2 q3
  unfold asgL
  rw [if_neg h]
  exact ⟨asgM_len _ _ _, this.1, this.2.1⟩
theorem cntB_congr (f g : Nat → Bool) : ∀ (c j : Nat), (∀ k, j ≤ k → k < j + c → f k = g k) → cntB f c j = cntB g c j
  | 0, _, _ => rfl
  | c + 1, j, h => by
    simp only [cntB]
    rw [h j (by omega) (by omega), cntB_congr f g c (j + 1) (fun k a b => h k (by omega) (by omega))]
theorem cntB_const (b : Bool) : ∀ (c j : Nat), cntB (fun _ => b) c j = if b then (c : Int) else 0
  | 0, _ => by cases b <;> rfl
  | c + 1, j => by
    simp only [cntB, cntB_const b c (j + 1)]
    cases b <;> simp <;> omega
theorem cntB_all {f : Nat → Bool} {b : Bool} {c j : Nat} (h : ∀ k, j ≤ k → k < j + c → f k = b) : cntB f c j = if b then (c : Int) else 0 := by
  rw [cntB_congr f (fun _ => b) c j h, cntB_const]
theorem qLoop_congr {now now' : List Int} (e : Int) (b : Bool) : ∀ (l : List Int) (i : Int) (out : List Int) (m : Int), (∀ x ∈ l, hasL now x = hasL now' x) → qLoop now e b l i out m = qLoop now' e b l i out m
  | [], _, _, _, _ => rfl
  | x :: r, i, out, m, h => by
    simp only [qLoop]
    rw [h x (by simp)]
    split
    · exact qLoop_congr e b r _ _ _ fun y hy => h y (by simp [hy])
    · exact qLoop_congr e b r _ _ _ fun y hy => h y (by simp [hy])
theorem quotaL_has {now now' ms : List Int} (h : ∀ x ∈ memL ms, hasL now x = hasL now' x) : quotaL now ms = quotaL now' ms := by
  unfold quotaL quotaM
  simp only [qLoop_congr _ _ _ _ _ _ h]
theorem asg0_congr {now now' m : List Int} (h : ∀ p : Nat, p < 16 → indexF m (atL now (p : Int)) = indexF m (atL now' (p : Int))) : ∀ (c p : Nat) (to la : List Int), p + c = 16 → asg0 now m c p to la = asg0 now' m c p to la
  | 0, _, _, _, _ => rfl
  | c + 1, p, to, la, hp => by
    simp only [asg0]
    rw [h p (by omega)]
    split
    · exact asg0_congr h c (p + 1) _ _ (by omega)
    · exact asg0_congr h c (p + 1) _ _ (by omega)
theorem hasL_zero {now : List Int} {x : Int} (h : ∀ p : Nat, p < 16 → atL now (p : Int) ≠ x) : hasL now x = 0 := by
  unfold hasL
  rw [cntB_all (b := false) (fun k _ hk => by simpa using h k (by omega))]; rfl
theorem index_none {m : List Int} {v : Int} (h : v ∉ m) : indexF m v = -1 := by
  unfold indexF
  rw [if_neg (by simpa using h)]
theorem far {now ms : List Int} (h : ∀ p : Nat, p < 16 → atL now (p : Int) ∉ memL ms) : quotaL now ms = quotaL [] ms ∧ asgL now ms = asgL [] ms := by
  have h0 : ∀ p : Nat, atL [] (p : Int) ∉ memL ms := fun p hp => by
    have := (memL_nn ms _ hp).1
    have e : atL [] (p : Int) = -1 := by unfold atL; rw [if_neg (by simp)]
    omega
  have hq : quotaL now ms = quotaL [] ms := quotaL_has fun x hx => by
    rw [hasL_zero (fun p hp e => h p hp (e ▸ hx)), hasL_zero (fun p hp e => h0 p (e ▸ hx))]
  refine ⟨hq, ?_⟩
  unfold asgL
  rw [hq]
  split
  · rfl
  · unfold asgM
    rw [asg0_congr (now := now) (now' := []) (fun p hp => by rw [index_none (h p hp), index_none (h0 p)]) 16 0 _ _ (by omega)]
theorem atL_in {l : List Int} (h : l.length = 16) {p : Nat} (hp : p < 16) : atL l (p : Int) = l.getD p 0 := by
  unfold atL
  rw [if_pos (by omega), Int.toNat_natCast]
end Pl
