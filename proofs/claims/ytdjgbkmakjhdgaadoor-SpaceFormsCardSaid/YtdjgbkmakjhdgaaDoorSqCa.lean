import Derived.Test.YtdjgbkmakjhdgaaDoorSqPl4
import Derived.Test.YtdjgbkmakjhdgaaDoorSx31
namespace Pl
open Go Sx Go.Proofs Go.RowKit
def idxF (v : Int) : List Int → Int → Int
  | [], _ => -1
  | x :: r, i => if x = v then i else idxF v r (i + 1)
def atL (l : List Int) (i : Int) : Int := if i < (l.length : Int) then l.getD i.toNat 0 else -1
theorem bodyIx : Tryd.f25.body = some (bodyOf Tryd.f25) := by kernel_rfl
theorem bodyCt : Tryd.f18.body = some (bodyOf Tryd.f18) := by kernel_rfl
structure AIx where
  l : List Int
  v : Int
  i0 : Int
def LIx : LoopC AIx where
  n0 := 1
  det st := match rowS st 0 i64, intS st 1, intS st 8 with | some l, some v, some i0 => some ⟨l, v, i0⟩ | _, _, _ => none
  inv a := ⟨[(8, iv a.i0), (7, iv (↑a.l.length : Int)), (0, .one (.row 0)), (1, iv a.v)],
    [(0, .ro i64 a.l)], 1⟩
  ok a := 0 ≤ a.i0 ∧ a.i0 ≤ a.l.length ∧ (a.l.length : Int) < big
  mu a := a.l.length - a.i0.toNat
  fin a := .fork ((a.l.drop a.i0.toNat).contains a.v) (.leaf ⟨1, ⟨[(4, iv (idxF a.v (a.l.drop a.i0.toNat) a.i0))], [], 1⟩⟩) (.leaf ⟨2, ⟨[], [], 1⟩⟩)
structure AHs where
  l : List Int
  v : Int
  i0 : Int
  i1 : Int
def LHs : LoopC AHs where
  n0 := 1
  det st := match rowS st 0 i64, intS st 1, intS st 7, intS st 5 with | some l, some v, some i0, some i1 => some ⟨l, v, i0, i1⟩ | _, _, _, _ => none
  inv a := ⟨[(7, iv a.i0), (5, iv a.i1), (0, .one (.row 0)), (1, iv a.v)],
    [(0, .ro i64 a.l)], 1⟩
  ok a := 0 ≤ a.i0 ∧ a.i0 ≤ 16 ∧ 0 ≤ a.i1 ∧ a.i1 ≤ a.i0
  mu a := 16 - a.i0.toNat
  fin a := .leaf ⟨2, ⟨[(5, iv (a.i1 + cntB (fun p => atL a.l (p : Int) == a.v) (16 - a.i0.toNat) a.i0.toNat))], [], 1⟩⟩
structure AMe where
  l : List Int
  i0 : Int
  l1 : List Int
def LMe : LoopC AMe where
  n0 := 1
  det st := match rowS st 0 i64, intS st 5, rowS st 3 i64 with | some l, some i0, some l1 => some ⟨l, i0, l1⟩ | _, _, _ => none
  rows := [(1, .slot 3)]
  inv a := ⟨[(5, iv a.i0), (3, .one (.row 1)), (0, .one (.row 0))],
    [(0, .ro i64 a.l), (1, .own i64 a.l1)], 2⟩
  ok a := 0 ≤ a.i0 ∧ a.i0 ≤ 8 ∧ (a.l1.length : Int) ≤ a.i0 ∧ (a.l.length : Int) < big
  mu a := 8 - a.i0.toNat
  fin a := .leaf ⟨2, ⟨[(3, .one (.row 1))], [(1, .own i64 (a.l1 ++ fltB (fun n => a.l.contains (n : Int)) (8 - a.i0.toNat) a.i0.toNat))], 2⟩⟩
structure AMo where
  l : List Int
  m : List Int
  i0 : Int
  i1 : Int
def LMo : LoopC AMo where
  n0 := 2
  det st := match rowS st 0 i64, rowS st 1 i64, intS st 7, intS st 5 with | some l, some m, some i0, some i1 => some ⟨l, m, i0, i1⟩ | _, _, _, _ => none
  inv a := ⟨[(7, iv a.i0), (5, iv a.i1), (0, .one (.row 0)), (1, .one (.row 1))],
    [(0, .ro i64 a.l), (1, .ro i64 a.m)], 2⟩
  ok a := 0 ≤ a.i0 ∧ a.i0 ≤ 16 ∧ 0 ≤ a.i1 ∧ a.i1 ≤ a.i0
  mu a := 16 - a.i0.toNat
  fin a := .leaf ⟨2, ⟨[(5, iv (a.i1 + cntB (fun p => !(atL a.l (p : Int) == atL a.m (p : Int))) (16 - a.i0.toNat) a.i0.toNat))], [], 2⟩⟩
theorem rIx (l : List Int) (v i0 : Int) : @Eq _
  (LIx.round E0 [] 100 Tryd.f25 0 ⟨l, v, i0⟩)
  (.fork (decide (i0 < (↑l.length : Int))) (
 .req ((0 : Int) ≤ i0 ∧ i0 < (↑l.length : Int)) (
  .req ((0 : Int) ≤ i0 ∧ i0 < (↑l.length : Int)) (
   .fork (v == l.getD i0.toNat (0 : Int)) (
    .fork ((List.drop i0.toNat l).contains v) (
     .req (i0 = Pl.idxF v (List.drop i0.toNat l) i0) (
      .leaf (Option.none))) (
     .req (False) (
      .leaf (Option.none)))) (
    .req (IntKind.i64.wrap (i0 + (1 : Int)) = IntKind.i64.wrap (i0 + (1 : Int)) ∧ (↑l.length : Int) = (↑l.length : Int) ∧ v = v ∧ l = l) (
     .leaf (Option.some { l := l, v := v, i0 := IntKind.i64.wrap (i0 + (1 : Int)) })))))) (
 .fork ((List.drop i0.toNat l).contains v) (
  .req (False) (
   .leaf (Option.none))) (
  .req (True) (
   .leaf (Option.none)))) : Tree (Option Pl.AIx)) := by kernel_rfl
theorem tIx (l : List Int) (v : Int) : @Eq _
  (fnT E0 [(0, LIx.sp)] 100 Tryd.f25 [ints, i64] [i64] (l, v, ()))
  (.req ((0 : Int) ≤ (0 : Int) ∧ (0 : Int) ≤ (↑l.length : Int) ∧ (↑l.length : Int) < (4611686018427387904 : Int)) (
 .req ((0 : Int) = (0 : Int) ∧ (↑l.length : Int) = (↑l.length : Int) ∧ v = v ∧ l = l) (
  .fork (l.contains v) (
   .leaf ((Pl.idxF v l (0 : Int), ()))) (
   .leaf (((-1 : Int), ()))))) : Tree (Int × PUnit)) := by kernel_rfl
end Pl
