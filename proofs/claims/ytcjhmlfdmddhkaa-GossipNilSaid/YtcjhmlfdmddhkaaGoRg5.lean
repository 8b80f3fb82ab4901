import Derived.Test.YtcjhmlfdmddhkaaGoRg4
namespace Pl
open Go Sx Go.Proofs Go.RowKit
def ofL (s : List Int) (f t : Int) : Nat → Nat → List Int
  | 0, _ => []
  | c + 1, j => if decide (s.getD j 0 ≥ f) && decide (s.getD j 0 ≤ t) then (j : Int) :: ofL s f t c (j + 1) else ofL s f t c (j + 1)
def mvB (r : RingD) (n p : Int) : Bool := nodeB n && (ownerR r p == n && (!(targetR r p == -1) && !(targetR r p == n)))
def mvL (r : RingD) (n : Int) : Nat → Nat → List Int
  | 0, _ => []
  | c + 1, j => if mvB r n j then (j : Int) :: mvL r n c (j + 1) else mvL r n c (j + 1)
structure AOf where
  r : RingD
  from' : Int
  to' : Int
  i0 : Int
  l1 : List Int
def LOf : LoopC AOf where
  n0 := 2
  det st := match (datA st 11 (.rep 8 i64)).map fun (s : List Int) => ((s, (0, 0, []), List.replicate 16 (0, 0)) : RingD), intS st 1, intS st 2, intS st 12, rowS st 7 i64 with | some r, some from', some to', some i0, some l1 => some ⟨r, from', to', i0, l1⟩ | _, _, _, _, _ => none
  rows := [(2, .slot 7)]
  inv a := ⟨[(12, iv a.i0), (11, Tv.agg (stC a.r)), (7, .one (.row 2)), (1, iv a.from'), (2, iv a.to')],
    [(2, .own i64 a.l1)], 3⟩
  ok a := okR a.r ∧ 0 ≤ a.i0 ∧ a.i0 ≤ 8 ∧ (a.l1.length : Int) ≤ a.i0
  mu a := 8 - a.i0.toNat
  fin a := .leaf ⟨2, ⟨[(7, .one (.row 2))], [(2, .own i64 (a.l1 ++ ofL a.r.1 a.from' a.to' (8 - a.i0.toNat) a.i0.toNat))], 3⟩⟩
structure AMv where
  r : RingD
  n : Int
  i0 : Int
  l1 : List Int
def LMv : LoopC AMv where
  n0 := 2
  det st := match datG st 1 0 Ring, intS st 1, intS st 8, rowS st 5 i64 with | some r, some n, some i0, some l1 => some ⟨r, n, i0, l1⟩ | _, _, _, _ => none
  rows := [(2, .slot 5)]
  inv a := ⟨[(8, iv a.i0), (5, .one (.row 2)), (2, .one (.ptr 1 0)), (1, iv a.n)],
    [(1, .blk (rgC a.r 0)), (0, .ro i64 a.r.2.1.2.2), (2, .own i64 a.l1)], 3⟩
  ok a := okR a.r ∧ (a.r.2.1.2.2.length : Int) < small ∧ 0 ≤ a.i0 ∧ a.i0 ≤ 16 ∧ (a.l1.length : Int) ≤ a.i0
  mu a := 16 - a.i0.toNat
  fin a := .leaf ⟨2, ⟨[(5, .one (.row 2))], [(2, .own i64 (a.l1 ++ mvL a.r a.n (16 - a.i0.toNat) a.i0.toNat))], 3⟩⟩
end Pl
