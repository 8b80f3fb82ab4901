import Derived.Test.YtigiidafhbhdmaaLeLk2
namespace Pl
open Go Sx Go.Proofs Go.RowKit
theorem bodySe : Try.f23.body = some (bodyOf Try.f23) := by kernel_rfl
noncomputable abbrev Y6 : Ex := mkExM Try.prog [KpM, Kal, KEq, KOf]
theorem Y6_ok : Y6.Sound := mkExM_sound ⟨pureSp_ok may_ok, orSp_ok (pureSp_ok allo_ok.pure) (pureSp_ok allt_ok.pure), pureSp_ok equal_ok, pureSp_ok rof_ok, trivial⟩
theorem tSe (r : RingD) : @Eq _
  (fnT Y6 [] 100 Try.f23 [Ring] [.bool] (r, ()))
  (.fork (decide ((↑r.2.1.2.2.length : Int) > (0 : Int))) (
 .req ((↑r.2.1.2.2.length : Int) < (4611686018427387904 : Int)) (
  .fork (Pl.mayB r.2.1) (
   .req ((8 = 8 ∧ 16 = 16) ∧ (↑r.2.1.2.2.length : Int) < (17592186044416 : Int)) (
    .req ((8 = 8 ∧ 16 = 16) ∧ (↑r.2.1.2.2.length : Int) < (17592186044416 : Int)) (
     .req ((16 : Int) < (4611686018427387904 : Int)) (
      .fork (decide (Pl.ownL (tab 8 r.1 (0 : Int), r.2.1, tab 16 r.2.2 ((0 : Int), (0 : Int))) = Pl.tgtL (tab 8 r.1 (0 : Int), r.2.1, tab 16 r.2.2 ((0 : Int), (0 : Int))))) (
       .req (8 = 8 ∧ 16 = 16) (
        .req (8 = 8 ∧ 16 = 16) (
         .leaf ((IntKind.i64.wrap ((↑(Pl.ofR (tab 8 r.1 (0 : Int), r.2.1, tab 16 r.2.2 ((0 : Int), (0 : Int))) (1 : Int) (1 : Int)).length : Int) + (↑(Pl.ofR (tab 8 r.1 (0 : Int), r.2.1, tab 16 r.2.2 ((0 : Int), (0 : Int))) (3 : Int) (3 : Int)).length : Int)) == (0 : Int), ()))))) (
       .leaf ((false, ()))))))) (
   .leaf ((false, ()))))) (
 .leaf ((false, ()))) : Tree (Bool × PUnit)) := by kernel_rfl
def settledR (r : RingD) : Bool := decide (0 < r.2.1.2.2.length) && (mayB r.2.1 && (decide (ownL r = tgtL r) && decide ((ofR r 1 1).length + (ofR r 3 3).length = 0)))
theorem bodyL5 : Try.f7.body = some (bodyOf Try.f7) := by kernel_rfl
abbrev KSe : Nat × Sx.Spec := (23, pureSp [Ring] [.bool] S1r (fun x => (settledR x.1, ())))
noncomputable abbrev Z6 : Ex := mkExM Try.prog [KAw, KSt, KrFL, KrRL, KMv, KSe]
def r16 (n : Int) : Int := IntKind.i64.wrap ((IntKind.u64.wrap n).tmod 16)
def flF (m : Int) : List Int → List EntryD → List EntryD
  | [], P => P
  | x :: r, P => flF m r (P.set (r16 x).toNat (2, m))
structure AGo where
  c : List Int
  m : Int
  n : Int
  s : RingD
  i : Int
def LGo : LoopC AGo where
  n0 := 11
  det st := match rowS st 100 i64, intS st 1, intS st 0, datG st 7 0 Ring, intS st 102 with | some c, some m, some n, some s, some i => some ⟨c, m, n, s, i⟩ | _, _, _, _, _ => none
  rows := [(11, .cell 7 10)]
  inv a := ⟨[(102, iv a.i), (101, iv (↑a.c.length : Int)), (100, .one (.row 0)), (11, .one (.ptr 7 0)), (1, iv a.m), (0, iv a.n)],
    [(7, .blk (rgC a.s 11)), (11, .ro i64 a.s.2.1.2.2), (0, .ro i64 a.c)], 12⟩
  ok a := okR a.s ∧ 0 ≤ a.i ∧ a.i ≤ a.c.length ∧ (a.c.length : Int) ≤ 9223372036854775807
  mu a := a.c.length - a.i.toNat
  fin a := .leaf ⟨2, ⟨[(11, .one (.ptr 7 0)), (1, iv a.m), (0, iv a.n)], [(7, .blk (rgC (a.s.1, a.s.2.1, flF a.m (a.c.drop a.i.toNat) a.s.2.2) 11)), (11, .ro i64 a.s.2.1.2.2)], 12⟩⟩
theorem rGo (c : List Int) (m n : Int) (s : RingD) (i : Int) : @Eq _
  (LGo.round Z6 [] 100 Try.f7 0 ⟨c, m, n, s, i⟩)
  (.fork (decide (i < (↑c.length : Int))) (
 .req ((0 : Int) ≤ i ∧ i < (↑c.length : Int)) (
  .req ((0 : Int) ≤ i ∧ i < (↑c.length : Int)) (
   .req ((16 : Int) ≠ (0 : Int)) (
    .req ((0 : Int) ≤ IntKind.i64.wrap ((IntKind.u64.wrap (c.getD i.toNat (0 : Int))).tmod (16 : Int)) ∧ IntKind.i64.wrap ((IntKind.u64.wrap (c.getD i.toNat (0 : Int))).tmod (16 : Int)) < (16 : Int)) (
     .req ((0 : Int) ≤ IntKind.i64.wrap ((IntKind.u64.wrap (c.getD i.toNat (0 : Int))).tmod (16 : Int)) ∧ IntKind.i64.wrap ((IntKind.u64.wrap (c.getD i.toNat (0 : Int))).tmod (16 : Int)) < (16 : Int)) (
      .req (IntKind.i64.wrap (i + (1 : Int)) = IntKind.i64.wrap (i + (1 : Int)) ∧ (↑c.length : Int) = (↑c.length : Int) ∧ m = m ∧ n = n ∧ s.1.getD 0 (0 : Int) = (tab 8 s.1 (0 : Int)).getD 0 (0 : Int) ∧ s.1.getD 1 (0 : Int) = (tab 8 s.1 (0 : Int)).getD 1 (0 : Int) ∧ s.1.getD 2 (0 : Int) = (tab 8 s.1 (0 : Int)).getD 2 (0 : Int) ∧ s.1.getD 3 (0 : Int) = (tab 8 s.1 (0 : Int)).getD 3 (0 : Int) ∧ s.1.getD 4 (0 : Int) = (tab 8 s.1 (0 : Int)).getD 4 (0 : Int) ∧ s.1.getD 5 (0 : Int) = (tab 8 s.1 (0 : Int)).getD 5 (0 : Int) ∧ s.1.getD 6 (0 : Int) = (tab 8 s.1 (0 : Int)).getD 6 (0 : Int) ∧ s.1.getD 7 (0 : Int) = (tab 8 s.1 (0 : Int)).getD 7 (0 : Int) ∧ s.2.1.1 = s.2.1.1 ∧ s.2.1.2.1 = s.2.1.2.1 ∧ ((bif decide (IntKind.i64.wrap ((IntKind.u64.wrap (c.getD i.toNat (0 : Int))).tmod (16 : Int)) = (0 : Int)) then (2 : Int) else (s.2.2.getD 0 ((0 : Int), (0 : Int))).1) = bif decide (IntKind.i64.wrap ((IntKind.u64.wrap (c.getD i.toNat (0 : Int))).tmod (16 : Int)) = (0 : Int)) then (2 : Int) else (s.2.2.getD 0 ((0 : Int), (0 : Int))).1) ∧ ((bif decide (IntKind.i64.wrap ((IntKind.u64.wrap (c.getD i.toNat (0 : Int))).tmod (16 : Int)) = (0 : Int)) then m else (s.2.2.getD 0 ((0 : Int), (0 : Int))).2) = bif decide (IntKind.i64.wrap ((IntKind.u64.wrap (c.getD i.toNat (0 : Int))).tmod (16 : Int)) = (0 : Int)) then m else (s.2.2.getD 0 ((0 : Int), (0 : Int))).2) ∧ ((bif decide (IntKind.i64.wrap ((IntKind.u64.wrap (c.getD i.toNat (0 : Int))).tmod (16 : Int)) = (1 : Int)) then (2 : Int) else (s.2.2.getD 1 ((0 : Int), (0 : Int))).1) = bif decide (IntKind.i64.wrap ((IntKind.u64.wrap (c.getD i.toNat (0 : Int))).tmod (16 : Int)) = (1 : Int)) then (2 : Int) else (s.2.2.getD 1 ((0 : Int), (0 : Int))).1) ∧ ((bif decide (IntKind.i64.wrap ((IntKind.u64.wrap (c.getD i.toNat (0 : Int))).tmod (16 : Int)) = (1 : Int)) then m else (s.2.2.getD 1 ((0 : Int), (0 : Int))).2) = bif decide (IntKind.i64.wrap ((IntKind.u64.wrap (c.getD i.toNat (0 : Int))).tmod (16 : Int)) = (1 : Int)) then m else (s.2.2.getD 1 ((0 : Int), (0 : Int))).2) ∧ ((bif decide (IntKind.i64.wrap ((IntKind.u64.wrap (c.getD i.toNat (0 : Int))).tmod (16 : Int)) = (2 : Int)) then (2 : Int) else (s.2.2.getD 2 ((0 : Int), (0 : Int))).1) = bif decide (IntKind.i64.wrap ((IntKind.u64.wrap (c.getD i.toNat (0 : Int))).tmod (16 : Int)) = (2 : Int)) then (2 : Int) else (s.2.2.getD 2 ((0 : Int), (0 : Int))).1) ∧ ((bif decide (IntKind.i64.wrap ((IntKind.u64.wrap (c.getD i.toNat (0 : Int))).tmod (16 : Int)) = (2 : Int)) then m else (s.2.2.getD 2 ((0 : Int), (0 : Int))).2) = bif decide (IntKind.i64.wrap ((IntKind.u64.wrap (c.getD i.toNat (0 : Int))).tmod (16 : Int)) = (2 : Int)) then m else (s.2.2.getD 2 ((0 : Int), (0 : Int))).2) ∧ ((bif decide (IntKind.i64.wrap ((IntKind.u64.wrap (c.getD i.toNat (0 : Int))).tmod (16 : Int)) = (3 : Int)) then (2 : Int) else (s.2.2.getD 3 ((0 : Int), (0 : Int))).1) = bif decide (IntKind.i64.wrap ((IntKind.u64.wrap (c.getD i.toNat (0 : Int))).tmod (16 : Int)) = (3 : Int)) then (2 : Int) else (s.2.2.getD 3 ((0 : Int), (0 : Int))).1) ∧ ((bif decide (IntKind.i64.wrap ((IntKind.u64.wrap (c.getD i.toNat (0 : Int))).tmod (16 : Int)) = (3 : Int)) then m else (s.2.2.getD 3 ((0 : Int), (0 : Int))).2) = bif decide (IntKind.i64.wrap ((IntKind.u64.wrap (c.getD i.toNat (0 : Int))).tmod (16 : Int)) = (3 : Int)) then m else (s.2.2.getD 3 ((0 : Int), (0 : Int))).2) ∧ ((bif decide (IntKind.i64.wrap ((IntKind.u64.wrap (c.getD i.toNat (0 : Int))).tmod (16 : Int)) = (4 : Int)) then (2 : Int) else (s.2.2.getD 4 ((0 : Int), (0 : Int))).1) = bif decide (IntKind.i64.wrap ((IntKind.u64.wrap (c.getD i.toNat (0 : Int))).tmod (16 : Int)) = (4 : Int)) then (2 : Int) else (s.2.2.getD 4 ((0 : Int), (0 : Int))).1) ∧ ((bif decide (IntKind.i64.wrap ((IntKind.u64.wrap (c.getD i.toNat (0 : Int))).tmod (16 : Int)) = (4 : Int)) then m else (s.2.2.getD 4 ((0 : Int), (0 : Int))).2) = bif decide (IntKind.i64.wrap ((IntKind.u64.wrap (c.getD i.toNat (0 : Int))).tmod (16 : Int)) = (4 : Int)) then m else (s.2.2.getD 4 ((0 : Int), (0 : Int))).2) ∧ ((bif decide (IntKind.i64.wrap ((IntKind.u64.wrap (c.getD i.toNat (0 : Int))).tmod (16 : Int)) = (5 : Int)) then (2 : Int) else (s.2.2.getD 5 ((0 : Int), (0 : Int))).1) = bif decide (IntKind.i64.wrap ((IntKind.u64.wrap (c.getD i.toNat (0 : Int))).tmod (16 : Int)) = (5 : Int)) then (2 : Int) else (s.2.2.getD 5 ((0 : Int), (0 : Int))).1) ∧ ((bif decide (IntKind.i64.wrap ((IntKind.u64.wrap (c.getD i.toNat (0 : Int))).tmod (16 : Int)) = (5 : Int)) then m else (s.2.2.getD 5 ((0 : Int), (0 : Int))).2) = bif decide (IntKind.i64.wrap ((IntKind.u64.wrap (c.getD i.toNat (0 : Int))).tmod (16 : Int)) = (5 : Int)) then m else (s.2.2.getD 5 ((0 : Int), (0 : Int))).2) ∧ ((bif decide (IntKind.i64.wrap ((IntKind.u64.wrap (c.getD i.toNat (0 : Int))).tmod (16 : Int)) = (6 : Int)) then (2 : Int) else (s.2.2.getD 6 ((0 : Int), (0 : Int))).1) = bif decide (IntKind.i64.wrap ((IntKind.u64.wrap (c.getD i.toNat (0 : Int))).tmod (16 : Int)) = (6 : Int)) then (2 : Int) else (s.2.2.getD 6 ((0 : Int), (0 : Int))).1) ∧ ((bif decide (IntKind.i64.wrap ((IntKind.u64.wrap (c.getD i.toNat (0 : Int))).tmod (16 : Int)) = (6 : Int)) then m else (s.2.2.getD 6 ((0 : Int), (0 : Int))).2) = bif decide (IntKind.i64.wrap ((IntKind.u64.wrap (c.getD i.toNat (0 : Int))).tmod (16 : Int)) = (6 : Int)) then m else (s.2.2.getD 6 ((0 : Int), (0 : Int))).2) ∧ ((bif decide (IntKind.i64.wrap ((IntKind.u64.wrap (c.getD i.toNat (0 : Int))).tmod (16 : Int)) = (7 : Int)) then (2 : Int) else (s.2.2.getD 7 ((0 : Int), (0 : Int))).1) = bif decide (IntKind.i64.wrap ((IntKind.u64.wrap (c.getD i.toNat (0 : Int))).tmod (16 : Int)) = (7 : Int)) then (2 : Int) else (s.2.2.getD 7 ((0 : Int), (0 : Int))).1) ∧ ((bif decide (IntKind.i64.wrap ((IntKind.u64.wrap (c.getD i.toNat (0 : Int))).tmod (16 : Int)) = (7 : Int)) then m else (s.2.2.getD 7 ((0 : Int), (0 : Int))).2) = bif decide (IntKind.i64.wrap ((IntKind.u64.wrap (c.getD i.toNat (0 : Int))).tmod (16 : Int)) = (7 : Int)) then m else (s.2.2.getD 7 ((0 : Int), (0 : Int))).2) ∧ ((bif decide (IntKind.i64.wrap ((IntKind.u64.wrap (c.getD i.toNat (0 : Int))).tmod (16 : Int)) = (8 : Int)) then (2 : Int) else (s.2.2.getD 8 ((0 : Int), (0 : Int))).1) = bif decide (IntKind.i64.wrap ((IntKind.u64.wrap (c.getD i.toNat (0 : Int))).tmod (16 : Int)) = (8 : Int)) then (2 : Int) else (s.2.2.getD 8 ((0 : Int), (0 : Int))).1) ∧ ((bif decide (IntKind.i64.wrap ((IntKind.u64.wrap (c.getD i.toNat (0 : Int))).tmod (16 : Int)) = (8 : Int)) then m else (s.2.2.getD 8 ((0 : Int), (0 : Int))).2) = bif decide (IntKind.i64.wrap ((IntKind.u64.wrap (c.getD i.toNat (0 : Int))).tmod (16 : Int)) = (8 : Int)) then m else (s.2.2.getD 8 ((0 : Int), (0 : Int))).2) ∧ ((bif decide (IntKind.i64.wrap ((IntKind.u64.wrap (c.getD i.toNat (0 : Int))).tmod (16 : Int)) = (9 : Int)) then (2 : Int) else (s.2.2.getD 9 ((0 : Int), (0 : Int))).1) = bif decide (IntKind.i64.wrap ((IntKind.u64.wrap (c.getD i.toNat (0 : Int))).tmod (16 : Int)) = (9 : Int)) then (2 : Int) else (s.2.2.getD 9 ((0 : Int), (0 : Int))).1) ∧ ((bif decide (IntKind.i64.wrap ((IntKind.u64.wrap (c.getD i.toNat (0 : Int))).tmod (16 : Int)) = (9 : Int)) then m else (s.2.2.getD 9 ((0 : Int), (0 : Int))).2) = bif decide (IntKind.i64.wrap ((IntKind.u64.wrap (c.getD i.toNat (0 : Int))).tmod (16 : Int)) = (9 : Int)) then m else (s.2.2.getD 9 ((0 : Int), (0 : Int))).2) ∧ ((bif decide (IntKind.i64.wrap ((IntKind.u64.wrap (c.getD i.toNat (0 : Int))).tmod (16 : Int)) = (10 : Int)) then (2 : Int) else (s.2.2.getD 10 ((0 : Int), (0 : Int))).1) = bif decide (IntKind.i64.wrap ((IntKind.u64.wrap (c.getD i.toNat (0 : Int))).tmod (16 : Int)) = (10 : Int)) then (2 : Int) else (s.2.2.getD 10 ((0 : Int), (0 : Int))).1) ∧ ((bif decide (IntKind.i64.wrap ((IntKind.u64.wrap (c.getD i.toNat (0 : Int))).tmod (16 : Int)) = (10 : Int)) then m else (s.2.2.getD 10 ((0 : Int), (0 : Int))).2) = bif decide (IntKind.i64.wrap ((IntKind.u64.wrap (c.getD i.toNat (0 : Int))).tmod (16 : Int)) = (10 : Int)) then m else (s.2.2.getD 10 ((0 : Int), (0 : Int))).2) ∧ ((bif decide (IntKind.i64.wrap ((IntKind.u64.wrap (c.getD i.toNat (0 : Int))).tmod (16 : Int)) = (11 : Int)) then (2 : Int) else (s.2.2.getD 11 ((0 : Int), (0 : Int))).1) = bif decide (IntKind.i64.wrap ((IntKind.u64.wrap (c.getD i.toNat (0 : Int))).tmod (16 : Int)) = (11 : Int)) then (2 : Int) else (s.2.2.getD 11 ((0 : Int), (0 : Int))).1) ∧ ((bif decide (IntKind.i64.wrap ((IntKind.u64.wrap (c.getD i.toNat (0 : Int))).tmod (16 : Int)) = (11 : Int)) then m else (s.2.2.getD 11 ((0 : Int), (0 : Int))).2) = bif decide (IntKind.i64.wrap ((IntKind.u64.wrap (c.getD i.toNat (0 : Int))).tmod (16 : Int)) = (11 : Int)) then m else (s.2.2.getD 11 ((0 : Int), (0 : Int))).2) ∧ ((bif decide (IntKind.i64.wrap ((IntKind.u64.wrap (c.getD i.toNat (0 : Int))).tmod (16 : Int)) = (12 : Int)) then (2 : Int) else (s.2.2.getD 12 ((0 : Int), (0 : Int))).1) = bif decide (IntKind.i64.wrap ((IntKind.u64.wrap (c.getD i.toNat (0 : Int))).tmod (16 : Int)) = (12 : Int)) then (2 : Int) else (s.2.2.getD 12 ((0 : Int), (0 : Int))).1) ∧ ((bif decide (IntKind.i64.wrap ((IntKind.u64.wrap (c.getD i.toNat (0 : Int))).tmod (16 : Int)) = (12 : Int)) then m else (s.2.2.getD 12 ((0 : Int), (0 : Int))).2) = bif decide (IntKind.i64.wrap ((IntKind.u64.wrap (c.getD i.toNat (0 : Int))).tmod (16 : Int)) = (12 : Int)) then m else (s.2.2.getD 12 ((0 : Int), (0 : Int))).2) ∧ ((bif decide (IntKind.i64.wrap ((IntKind.u64.wrap (c.getD i.toNat (0 : Int))).tmod (16 : Int)) = (13 : Int)) then (2 : Int) else (s.2.2.getD 13 ((0 : Int), (0 : Int))).1) = bif decide (IntKind.i64.wrap ((IntKind.u64.wrap (c.getD i.toNat (0 : Int))).tmod (16 : Int)) = (13 : Int)) then (2 : Int) else (s.2.2.getD 13 ((0 : Int), (0 : Int))).1) ∧ ((bif decide (IntKind.i64.wrap ((IntKind.u64.wrap (c.getD i.toNat (0 : Int))).tmod (16 : Int)) = (13 : Int)) then m else (s.2.2.getD 13 ((0 : Int), (0 : Int))).2) = bif decide (IntKind.i64.wrap ((IntKind.u64.wrap (c.getD i.toNat (0 : Int))).tmod (16 : Int)) = (13 : Int)) then m else (s.2.2.getD 13 ((0 : Int), (0 : Int))).2) ∧ ((bif decide (IntKind.i64.wrap ((IntKind.u64.wrap (c.getD i.toNat (0 : Int))).tmod (16 : Int)) = (14 : Int)) then (2 : Int) else (s.2.2.getD 14 ((0 : Int), (0 : Int))).1) = bif decide (IntKind.i64.wrap ((IntKind.u64.wrap (c.getD i.toNat (0 : Int))).tmod (16 : Int)) = (14 : Int)) then (2 : Int) else (s.2.2.getD 14 ((0 : Int), (0 : Int))).1) ∧ ((bif decide (IntKind.i64.wrap ((IntKind.u64.wrap (c.getD i.toNat (0 : Int))).tmod (16 : Int)) = (14 : Int)) then m else (s.2.2.getD 14 ((0 : Int), (0 : Int))).2) = bif decide (IntKind.i64.wrap ((IntKind.u64.wrap (c.getD i.toNat (0 : Int))).tmod (16 : Int)) = (14 : Int)) then m else (s.2.2.getD 14 ((0 : Int), (0 : Int))).2) ∧ ((bif decide (IntKind.i64.wrap ((IntKind.u64.wrap (c.getD i.toNat (0 : Int))).tmod (16 : Int)) = (15 : Int)) then (2 : Int) else (s.2.2.getD 15 ((0 : Int), (0 : Int))).1) = bif decide (IntKind.i64.wrap ((IntKind.u64.wrap (c.getD i.toNat (0 : Int))).tmod (16 : Int)) = (15 : Int)) then (2 : Int) else (s.2.2.getD 15 ((0 : Int), (0 : Int))).1) ∧ ((bif decide (IntKind.i64.wrap ((IntKind.u64.wrap (c.getD i.toNat (0 : Int))).tmod (16 : Int)) = (15 : Int)) then m else (s.2.2.getD 15 ((0 : Int), (0 : Int))).2) = bif decide (IntKind.i64.wrap ((IntKind.u64.wrap (c.getD i.toNat (0 : Int))).tmod (16 : Int)) = (15 : Int)) then m else (s.2.2.getD 15 ((0 : Int), (0 : Int))).2) ∧ s.2.1.2.2 = s.2.1.2.2 ∧ c = c) (
       .leaf (Option.some { c := c, m := m, n := n, s := (tab 8 s.1 (0 : Int), s.2.1, tabL 16 fun j => (bif decide (IntKind.i64.wrap ((IntKind.u64.wrap (c.getD i.toNat (0 : Int))).tmod (16 : Int)) = j) then (2 : Int) else (s.2.2.getD j ((0 : Int), (0 : Int))).1, bif decide (IntKind.i64.wrap ((IntKind.u64.wrap (c.getD i.toNat (0 : Int))).tmod (16 : Int)) = j) then m else (s.2.2.getD j ((0 : Int), (0 : Int))).2)), i := IntKind.i64.wrap (i + (1 : Int)) })))))))) (
 .req (m = m ∧ n = n ∧ s.1.getD 0 (0 : Int) = s.1.getD 0 (0 : Int) ∧ s.1.getD 1 (0 : Int) = s.1.getD 1 (0 : Int) ∧ s.1.getD 2 (0 : Int) = s.1.getD 2 (0 : Int) ∧ s.1.getD 3 (0 : Int) = s.1.getD 3 (0 : Int) ∧ s.1.getD 4 (0 : Int) = s.1.getD 4 (0 : Int) ∧ s.1.getD 5 (0 : Int) = s.1.getD 5 (0 : Int) ∧ s.1.getD 6 (0 : Int) = s.1.getD 6 (0 : Int) ∧ s.1.getD 7 (0 : Int) = s.1.getD 7 (0 : Int) ∧ s.2.1.1 = s.2.1.1 ∧ s.2.1.2.1 = s.2.1.2.1 ∧ (s.2.2.getD 0 ((0 : Int), (0 : Int))).1 = ((Pl.flF m (List.drop i.toNat c) s.2.2).getD 0 ((0 : Int), (0 : Int))).1 ∧ (s.2.2.getD 0 ((0 : Int), (0 : Int))).2 = ((Pl.flF m (List.drop i.toNat c) s.2.2).getD 0 ((0 : Int), (0 : Int))).2 ∧ (s.2.2.getD 1 ((0 : Int), (0 : Int))).1 = ((Pl.flF m (List.drop i.toNat c) s.2.2).getD 1 ((0 : Int), (0 : Int))).1 ∧ (s.2.2.getD 1 ((0 : Int), (0 : Int))).2 = ((Pl.flF m (List.drop i.toNat c) s.2.2).getD 1 ((0 : Int), (0 : Int))).2 ∧ (s.2.2.getD 2 ((0 : Int), (0 : Int))).1 = ((Pl.flF m (List.drop i.toNat c) s.2.2).getD 2 ((0 : Int), (0 : Int))).1 ∧ (s.2.2.getD 2 ((0 : Int), (0 : Int))).2 = ((Pl.flF m (List.drop i.toNat c) s.2.2).getD 2 ((0 : Int), (0 : Int))).2 ∧ (s.2.2.getD 3 ((0 : Int), (0 : Int))).1 = ((Pl.flF m (List.drop i.toNat c) s.2.2).getD 3 ((0 : Int), (0 : Int))).1 ∧ (s.2.2.getD 3 ((0 : Int), (0 : Int))).2 = ((Pl.flF m (List.drop i.toNat c) s.2.2).getD 3 ((0 : Int), (0 : Int))).2 ∧ (s.2.2.getD 4 ((0 : Int), (0 : Int))).1 = ((Pl.flF m (List.drop i.toNat c) s.2.2).getD 4 ((0 : Int), (0 : Int))).1 ∧ (s.2.2.getD 4 ((0 : Int), (0 : Int))).2 = ((Pl.flF m (List.drop i.toNat c) s.2.2).getD 4 ((0 : Int), (0 : Int))).2 ∧ (s.2.2.getD 5 ((0 : Int), (0 : Int))).1 = ((Pl.flF m (List.drop i.toNat c) s.2.2).getD 5 ((0 : Int), (0 : Int))).1 ∧ (s.2.2.getD 5 ((0 : Int), (0 : Int))).2 = ((Pl.flF m (List.drop i.toNat c) s.2.2).getD 5 ((0 : Int), (0 : Int))).2 ∧ (s.2.2.getD 6 ((0 : Int), (0 : Int))).1 = ((Pl.flF m (List.drop i.toNat c) s.2.2).getD 6 ((0 : Int), (0 : Int))).1 ∧ (s.2.2.getD 6 ((0 : Int), (0 : Int))).2 = ((Pl.flF m (List.drop i.toNat c) s.2.2).getD 6 ((0 : Int), (0 : Int))).2 ∧ (s.2.2.getD 7 ((0 : Int), (0 : Int))).1 = ((Pl.flF m (List.drop i.toNat c) s.2.2).getD 7 ((0 : Int), (0 : Int))).1 ∧ (s.2.2.getD 7 ((0 : Int), (0 : Int))).2 = ((Pl.flF m (List.drop i.toNat c) s.2.2).getD 7 ((0 : Int), (0 : Int))).2 ∧ (s.2.2.getD 8 ((0 : Int), (0 : Int))).1 = ((Pl.flF m (List.drop i.toNat c) s.2.2).getD 8 ((0 : Int), (0 : Int))).1 ∧ (s.2.2.getD 8 ((0 : Int), (0 : Int))).2 = ((Pl.flF m (List.drop i.toNat c) s.2.2).getD 8 ((0 : Int), (0 : Int))).2 ∧ (s.2.2.getD 9 ((0 : Int), (0 : Int))).1 = ((Pl.flF m (List.drop i.toNat c) s.2.2).getD 9 ((0 : Int), (0 : Int))).1 ∧ (s.2.2.getD 9 ((0 : Int), (0 : Int))).2 = ((Pl.flF m (List.drop i.toNat c) s.2.2).getD 9 ((0 : Int), (0 : Int))).2 ∧ (s.2.2.getD 10 ((0 : Int), (0 : Int))).1 = ((Pl.flF m (List.drop i.toNat c) s.2.2).getD 10 ((0 : Int), (0 : Int))).1 ∧ (s.2.2.getD 10 ((0 : Int), (0 : Int))).2 = ((Pl.flF m (List.drop i.toNat c) s.2.2).getD 10 ((0 : Int), (0 : Int))).2 ∧ (s.2.2.getD 11 ((0 : Int), (0 : Int))).1 = ((Pl.flF m (List.drop i.toNat c) s.2.2).getD 11 ((0 : Int), (0 : Int))).1 ∧ (s.2.2.getD 11 ((0 : Int), (0 : Int))).2 = ((Pl.flF m (List.drop i.toNat c) s.2.2).getD 11 ((0 : Int), (0 : Int))).2 ∧ (s.2.2.getD 12 ((0 : Int), (0 : Int))).1 = ((Pl.flF m (List.drop i.toNat c) s.2.2).getD 12 ((0 : Int), (0 : Int))).1 ∧ (s.2.2.getD 12 ((0 : Int), (0 : Int))).2 = ((Pl.flF m (List.drop i.toNat c) s.2.2).getD 12 ((0 : Int), (0 : Int))).2 ∧ (s.2.2.getD 13 ((0 : Int), (0 : Int))).1 = ((Pl.flF m (List.drop i.toNat c) s.2.2).getD 13 ((0 : Int), (0 : Int))).1 ∧ (s.2.2.getD 13 ((0 : Int), (0 : Int))).2 = ((Pl.flF m (List.drop i.toNat c) s.2.2).getD 13 ((0 : Int), (0 : Int))).2 ∧ (s.2.2.getD 14 ((0 : Int), (0 : Int))).1 = ((Pl.flF m (List.drop i.toNat c) s.2.2).getD 14 ((0 : Int), (0 : Int))).1 ∧ (s.2.2.getD 14 ((0 : Int), (0 : Int))).2 = ((Pl.flF m (List.drop i.toNat c) s.2.2).getD 14 ((0 : Int), (0 : Int))).2 ∧ (s.2.2.getD 15 ((0 : Int), (0 : Int))).1 = ((Pl.flF m (List.drop i.toNat c) s.2.2).getD 15 ((0 : Int), (0 : Int))).1 ∧ (s.2.2.getD 15 ((0 : Int), (0 : Int))).2 = ((Pl.flF m (List.drop i.toNat c) s.2.2).getD 15 ((0 : Int), (0 : Int))).2 ∧ s.2.1.2.2 = s.2.1.2.2) (
  .leaf (Option.none))) : Tree (Option Pl.AGo)) := by kernel_rfl
theorem tGo (n m : Int) (c : List Int) : @Eq _
  (fnT Z6 [(0, viaN 11 [] LGo.sp)] 100 Try.f7 [i64, i64, ints] [.bool] (n, m, c, ()))
  (.req ((8 : Int) ≠ (0 : Int)) (
 .req ((8 : Int) ≠ (0 : Int)) (
  .fork (IntKind.i64.wrap ((IntKind.u64.wrap n).tmod (8 : Int)) == IntKind.i64.wrap ((IntKind.u64.wrap m).tmod (8 : Int))) (
   .req (True) (
    .leaf ((true, ())))) (
   .req (True) (
    .lt [(Ty.rep 8 (Ty.int IntKind.i64)).cat
    (((Ty.int IntKind.i64).cat ((Ty.int IntKind.i64).cat (Ty.int IntKind.i64).slice)).cat
      (Ty.rep 16 ((Ty.int IntKind.i64).cat (Ty.int IntKind.i64)))),
  Ty.bool] (((Pl.firstR (IntKind.i64.wrap ((IntKind.u64.wrap n).tmod (8 : Int)))).1, (Pl.firstR (IntKind.i64.wrap ((IntKind.u64.wrap n).tmod (8 : Int)))).2, ())) (fun (y1 : (List Int × (Int × Int × List Int) × List (Int × Int)) × Bool × PUnit) => (
     .req ((8 = 8 ∧ 16 = 16) ∧ (↑y1.1.2.1.2.2.length : Int) < (17592186044416 : Int)) (
      .lt [(Ty.rep 8 (Ty.int IntKind.i64)).cat
    (((Ty.int IntKind.i64).cat ((Ty.int IntKind.i64).cat (Ty.int IntKind.i64).slice)).cat
      (Ty.rep 16 ((Ty.int IntKind.i64).cat (Ty.int IntKind.i64)))),
  Ty.int IntKind.i64] (((Pl.riseR (tab 8 y1.1.1 (0 : Int), y1.1.2.1, tab 16 y1.1.2.2 ((0 : Int), (0 : Int))) (IntKind.i64.wrap ((IntKind.u64.wrap m).tmod (8 : Int))) (2 : Int)).1, (Pl.riseR (tab 8 y1.1.1 (0 : Int), y1.1.2.1, tab 16 y1.1.2.2 ((0 : Int), (0 : Int))) (IntKind.i64.wrap ((IntKind.u64.wrap m).tmod (8 : Int))) (2 : Int)).2, ())) (fun (y2 : (List Int × (Int × Int × List Int) × List (Int × Int)) × Int × PUnit) => (
       .req ((8 = 8 ∧ 16 = 16) ∧ (↑y2.1.2.1.2.2.length : Int) < (17592186044416 : Int)) (
        .lt [(Ty.rep 8 (Ty.int IntKind.i64)).cat
    (((Ty.int IntKind.i64).cat ((Ty.int IntKind.i64).cat (Ty.int IntKind.i64).slice)).cat
      (Ty.rep 16 ((Ty.int IntKind.i64).cat (Ty.int IntKind.i64)))),
  Ty.int IntKind.i64] (((Pl.riseR (tab 8 y2.1.1 (0 : Int), y2.1.2.1, tab 16 y2.1.2.2 ((0 : Int), (0 : Int))) (IntKind.i64.wrap ((IntKind.u64.wrap n).tmod (8 : Int))) (3 : Int)).1, (Pl.riseR (tab 8 y2.1.1 (0 : Int), y2.1.2.1, tab 16 y2.1.2.2 ((0 : Int), (0 : Int))) (IntKind.i64.wrap ((IntKind.u64.wrap n).tmod (8 : Int))) (3 : Int)).2, ())) (fun (y3 : (List Int × (Int × Int × List Int) × List (Int × Int)) × Int × PUnit) => (
         .req ((8 = 8 ∧ 16 = 16) ∧ (↑y3.1.2.1.2.2.length : Int) < (17592186044416 : Int) ∧ (2 : Int) < (4611686018427387904 : Int)) (
          .lt [(Ty.rep 8 (Ty.int IntKind.i64)).cat
    (((Ty.int IntKind.i64).cat ((Ty.int IntKind.i64).cat (Ty.int IntKind.i64).slice)).cat
      (Ty.rep 16 ((Ty.int IntKind.i64).cat (Ty.int IntKind.i64)))),
  Ty.int IntKind.i64] (((Pl.stageR (tab 8 y3.1.1 (0 : Int), y3.1.2.1, tab 16 y3.1.2.2 ((0 : Int), (0 : Int))) (IntKind.i64.wrap ((IntKind.u64.wrap n).tmod (8 : Int))) [IntKind.i64.wrap ((IntKind.u64.wrap n).tmod (8 : Int)), IntKind.i64.wrap ((IntKind.u64.wrap m).tmod (8 : Int))]).1, (Pl.stageR (tab 8 y3.1.1 (0 : Int), y3.1.2.1, tab 16 y3.1.2.2 ((0 : Int), (0 : Int))) (IntKind.i64.wrap ((IntKind.u64.wrap n).tmod (8 : Int))) [IntKind.i64.wrap ((IntKind.u64.wrap n).tmod (8 : Int)), IntKind.i64.wrap ((IntKind.u64.wrap m).tmod (8 : Int))]).2, ())) (fun (y4 : (List Int × (Int × Int × List Int) × List (Int × Int)) × Int × PUnit) => (
           .fork (decide (IntKind.i64.wrap ((IntKind.u64.wrap n).tmod (8 : Int)) > IntKind.i64.wrap ((IntKind.u64.wrap m).tmod (8 : Int)))) (
            .req ((8 = 8 ∧ 16 = 16) ∧ (↑y3.1.2.1.2.2.length : Int) < (17592186044416 : Int) ∧ (2 : Int) < (4611686018427387904 : Int)) (
             .lt [(Ty.rep 8 (Ty.int IntKind.i64)).cat
    (((Ty.int IntKind.i64).cat ((Ty.int IntKind.i64).cat (Ty.int IntKind.i64).slice)).cat
      (Ty.rep 16 ((Ty.int IntKind.i64).cat (Ty.int IntKind.i64)))),
  Ty.int IntKind.i64] (((Pl.stageR (tab 8 y3.1.1 (0 : Int), y3.1.2.1, tab 16 y3.1.2.2 ((0 : Int), (0 : Int))) (IntKind.i64.wrap ((IntKind.u64.wrap m).tmod (8 : Int))) [IntKind.i64.wrap ((IntKind.u64.wrap n).tmod (8 : Int)), IntKind.i64.wrap ((IntKind.u64.wrap m).tmod (8 : Int))]).1, (Pl.stageR (tab 8 y3.1.1 (0 : Int), y3.1.2.1, tab 16 y3.1.2.2 ((0 : Int), (0 : Int))) (IntKind.i64.wrap ((IntKind.u64.wrap m).tmod (8 : Int))) [IntKind.i64.wrap ((IntKind.u64.wrap n).tmod (8 : Int)), IntKind.i64.wrap ((IntKind.u64.wrap m).tmod (8 : Int))]).2, ())) (fun (y5 : (List Int × (Int × Int × List Int) × List (Int × Int)) × Int × PUnit) => (
              .fork (!y1.2.1) (
               .leaf ((false, ()))) (
               .fork (y2.2.1 != (0 : Int)) (
                .leaf ((false, ()))) (
                .fork (y3.2.1 != (0 : Int)) (
                 .leaf ((false, ()))) (
                 .fork (y5.2.1 != (0 : Int)) (
                  .leaf ((false, ()))) (
                  .req ((8 = 8 ∧ 16 = 16) ∧ (↑y5.1.2.1.2.2.length : Int) < (17592186044416 : Int)) (
                   .fork ((↑(Pl.moveR (tab 8 y5.1.1 (0 : Int), y5.1.2.1, tab 16 y5.1.2.2 ((0 : Int), (0 : Int))) (IntKind.i64.wrap ((IntKind.u64.wrap n).tmod (8 : Int)))).length : Int) != (16 : Int)) (
                    .leaf ((false, ()))) (
                    .req ((0 : Int) ≤ IntKind.i64.wrap ((IntKind.u64.wrap n).tmod (8 : Int)) ∧ IntKind.i64.wrap ((IntKind.u64.wrap n).tmod (8 : Int)) < (8 : Int)) (
                     .req ((0 : Int) ≤ IntKind.i64.wrap ((IntKind.u64.wrap n).tmod (8 : Int)) ∧ IntKind.i64.wrap ((IntKind.u64.wrap n).tmod (8 : Int)) < (8 : Int)) (
                      .fork ((tab 8 y5.1.1 (0 : Int)).getD (IntKind.i64.wrap ((IntKind.u64.wrap n).tmod (8 : Int))).toNat (0 : Int) != (3 : Int)) (
                       .leaf ((false, ()))) (
                       .req ((8 = 8 ∧ 16 = 16) ∧ (↑y5.1.2.1.2.2.length : Int) < (17592186044416 : Int)) (
                        .fork (Pl.settledR (tab 8 y5.1.1 (0 : Int), y5.1.2.1, tab 16 y5.1.2.2 ((0 : Int), (0 : Int)))) (
                         .leaf ((false, ()))) (
                         .req ((8 = 8 ∧ 16 = 16) ∧ (0 : Int) ≤ (0 : Int) ∧ (0 : Int) ≤ (↑c.length : Int) ∧ (↑c.length : Int) ≤ (9223372036854775807 : Int)) (
                          .req ((0 : Int) = (0 : Int) ∧ (↑c.length : Int) = (↑c.length : Int) ∧ IntKind.i64.wrap ((IntKind.u64.wrap m).tmod (8 : Int)) = IntKind.i64.wrap ((IntKind.u64.wrap m).tmod (8 : Int)) ∧ IntKind.i64.wrap ((IntKind.u64.wrap n).tmod (8 : Int)) = IntKind.i64.wrap ((IntKind.u64.wrap n).tmod (8 : Int)) ∧ y5.1.1.getD 0 (0 : Int) = (tab 8 y5.1.1 (0 : Int)).getD 0 (0 : Int) ∧ y5.1.1.getD 1 (0 : Int) = (tab 8 y5.1.1 (0 : Int)).getD 1 (0 : Int) ∧ y5.1.1.getD 2 (0 : Int) = (tab 8 y5.1.1 (0 : Int)).getD 2 (0 : Int) ∧ y5.1.1.getD 3 (0 : Int) = (tab 8 y5.1.1 (0 : Int)).getD 3 (0 : Int) ∧ y5.1.1.getD 4 (0 : Int) = (tab 8 y5.1.1 (0 : Int)).getD 4 (0 : Int) ∧ y5.1.1.getD 5 (0 : Int) = (tab 8 y5.1.1 (0 : Int)).getD 5 (0 : Int) ∧ y5.1.1.getD 6 (0 : Int) = (tab 8 y5.1.1 (0 : Int)).getD 6 (0 : Int) ∧ y5.1.1.getD 7 (0 : Int) = (tab 8 y5.1.1 (0 : Int)).getD 7 (0 : Int) ∧ y5.1.2.1.1 = y5.1.2.1.1 ∧ y5.1.2.1.2.1 = y5.1.2.1.2.1 ∧ (y5.1.2.2.getD 0 ((0 : Int), (0 : Int))).1 = (y5.1.2.2.getD 0 ((0 : Int), (0 : Int))).1 ∧ (y5.1.2.2.getD 0 ((0 : Int), (0 : Int))).2 = (y5.1.2.2.getD 0 ((0 : Int), (0 : Int))).2 ∧ (y5.1.2.2.getD 1 ((0 : Int), (0 : Int))).1 = (y5.1.2.2.getD 1 ((0 : Int), (0 : Int))).1 ∧ (y5.1.2.2.getD 1 ((0 : Int), (0 : Int))).2 = (y5.1.2.2.getD 1 ((0 : Int), (0 : Int))).2 ∧ (y5.1.2.2.getD 2 ((0 : Int), (0 : Int))).1 = (y5.1.2.2.getD 2 ((0 : Int), (0 : Int))).1 ∧ (y5.1.2.2.getD 2 ((0 : Int), (0 : Int))).2 = (y5.1.2.2.getD 2 ((0 : Int), (0 : Int))).2 ∧ (y5.1.2.2.getD 3 ((0 : Int), (0 : Int))).1 = (y5.1.2.2.getD 3 ((0 : Int), (0 : Int))).1 ∧ (y5.1.2.2.getD 3 ((0 : Int), (0 : Int))).2 = (y5.1.2.2.getD 3 ((0 : Int), (0 : Int))).2 ∧ (y5.1.2.2.getD 4 ((0 : Int), (0 : Int))).1 = (y5.1.2.2.getD 4 ((0 : Int), (0 : Int))).1 ∧ (y5.1.2.2.getD 4 ((0 : Int), (0 : Int))).2 = (y5.1.2.2.getD 4 ((0 : Int), (0 : Int))).2 ∧ (y5.1.2.2.getD 5 ((0 : Int), (0 : Int))).1 = (y5.1.2.2.getD 5 ((0 : Int), (0 : Int))).1 ∧ (y5.1.2.2.getD 5 ((0 : Int), (0 : Int))).2 = (y5.1.2.2.getD 5 ((0 : Int), (0 : Int))).2 ∧ (y5.1.2.2.getD 6 ((0 : Int), (0 : Int))).1 = (y5.1.2.2.getD 6 ((0 : Int), (0 : Int))).1 ∧ (y5.1.2.2.getD 6 ((0 : Int), (0 : Int))).2 = (y5.1.2.2.getD 6 ((0 : Int), (0 : Int))).2 ∧ (y5.1.2.2.getD 7 ((0 : Int), (0 : Int))).1 = (y5.1.2.2.getD 7 ((0 : Int), (0 : Int))).1 ∧ (y5.1.2.2.getD 7 ((0 : Int), (0 : Int))).2 = (y5.1.2.2.getD 7 ((0 : Int), (0 : Int))).2 ∧ (y5.1.2.2.getD 8 ((0 : Int), (0 : Int))).1 = (y5.1.2.2.getD 8 ((0 : Int), (0 : Int))).1 ∧ (y5.1.2.2.getD 8 ((0 : Int), (0 : Int))).2 = (y5.1.2.2.getD 8 ((0 : Int), (0 : Int))).2 ∧ (y5.1.2.2.getD 9 ((0 : Int), (0 : Int))).1 = (y5.1.2.2.getD 9 ((0 : Int), (0 : Int))).1 ∧ (y5.1.2.2.getD 9 ((0 : Int), (0 : Int))).2 = (y5.1.2.2.getD 9 ((0 : Int), (0 : Int))).2 ∧ (y5.1.2.2.getD 10 ((0 : Int), (0 : Int))).1 = (y5.1.2.2.getD 10 ((0 : Int), (0 : Int))).1 ∧ (y5.1.2.2.getD 10 ((0 : Int), (0 : Int))).2 = (y5.1.2.2.getD 10 ((0 : Int), (0 : Int))).2 ∧ (y5.1.2.2.getD 11 ((0 : Int), (0 : Int))).1 = (y5.1.2.2.getD 11 ((0 : Int), (0 : Int))).1 ∧ (y5.1.2.2.getD 11 ((0 : Int), (0 : Int))).2 = (y5.1.2.2.getD 11 ((0 : Int), (0 : Int))).2 ∧ (y5.1.2.2.getD 12 ((0 : Int), (0 : Int))).1 = (y5.1.2.2.getD 12 ((0 : Int), (0 : Int))).1 ∧ (y5.1.2.2.getD 12 ((0 : Int), (0 : Int))).2 = (y5.1.2.2.getD 12 ((0 : Int), (0 : Int))).2 ∧ (y5.1.2.2.getD 13 ((0 : Int), (0 : Int))).1 = (y5.1.2.2.getD 13 ((0 : Int), (0 : Int))).1 ∧ (y5.1.2.2.getD 13 ((0 : Int), (0 : Int))).2 = (y5.1.2.2.getD 13 ((0 : Int), (0 : Int))).2 ∧ (y5.1.2.2.getD 14 ((0 : Int), (0 : Int))).1 = (y5.1.2.2.getD 14 ((0 : Int), (0 : Int))).1 ∧ (y5.1.2.2.getD 14 ((0 : Int), (0 : Int))).2 = (y5.1.2.2.getD 14 ((0 : Int), (0 : Int))).2 ∧ (y5.1.2.2.getD 15 ((0 : Int), (0 : Int))).1 = (y5.1.2.2.getD 15 ((0 : Int), (0 : Int))).1 ∧ (y5.1.2.2.getD 15 ((0 : Int), (0 : Int))).2 = (y5.1.2.2.getD 15 ((0 : Int), (0 : Int))).2 ∧ y5.1.2.1.2.2 = y5.1.2.1.2.2 ∧ c = c) (
                           .req ((8 = 8 ∧ 16 = 16) ∧ (↑y5.1.2.1.2.2.length : Int) < (17592186044416 : Int)) (
                            .req ((8 = 8 ∧ 16 = 16) ∧ (↑y5.1.2.1.2.2.length : Int) < (17592186044416 : Int) ∧ (2 : Int) < (4611686018427387904 : Int)) (
                             .lt [(Ty.rep 8 (Ty.int IntKind.i64)).cat
    (((Ty.int IntKind.i64).cat ((Ty.int IntKind.i64).cat (Ty.int IntKind.i64).slice)).cat
      (Ty.rep 16 ((Ty.int IntKind.i64).cat (Ty.int IntKind.i64)))),
  Ty.int IntKind.i64] (((Pl.stageR (tab 8 (tab 8 y5.1.1 (0 : Int)) (0 : Int), y5.1.2.1, tab 16 (Pl.flF (IntKind.i64.wrap ((IntKind.u64.wrap m).tmod (8 : Int))) c (tab 16 y5.1.2.2 ((0 : Int), (0 : Int)))) ((0 : Int), (0 : Int))) (if IntKind.i64.wrap ((IntKind.u64.wrap m).tmod (8 : Int)) < IntKind.i64.wrap ((IntKind.u64.wrap n).tmod (8 : Int)) then IntKind.i64.wrap ((IntKind.u64.wrap m).tmod (8 : Int)) else IntKind.i64.wrap ((IntKind.u64.wrap n).tmod (8 : Int))) [IntKind.i64.wrap ((IntKind.u64.wrap n).tmod (8 : Int)), IntKind.i64.wrap ((IntKind.u64.wrap m).tmod (8 : Int))]).1, (Pl.stageR (tab 8 (tab 8 y5.1.1 (0 : Int)) (0 : Int), y5.1.2.1, tab 16 (Pl.flF (IntKind.i64.wrap ((IntKind.u64.wrap m).tmod (8 : Int))) c (tab 16 y5.1.2.2 ((0 : Int), (0 : Int)))) ((0 : Int), (0 : Int))) (if IntKind.i64.wrap ((IntKind.u64.wrap m).tmod (8 : Int)) < IntKind.i64.wrap ((IntKind.u64.wrap n).tmod (8 : Int)) then IntKind.i64.wrap ((IntKind.u64.wrap m).tmod (8 : Int)) else IntKind.i64.wrap ((IntKind.u64.wrap n).tmod (8 : Int))) [IntKind.i64.wrap ((IntKind.u64.wrap n).tmod (8 : Int)), IntKind.i64.wrap ((IntKind.u64.wrap m).tmod (8 : Int))]).2, ())) (fun (y6 : (List Int × (Int × Int × List Int) × List (Int × Int)) × Int × PUnit) => (
                              .fork (decide ((↑(Pl.moveR (tab 8 (tab 8 y5.1.1 (0 : Int)) (0 : Int), y5.1.2.1, tab 16 (Pl.flF (IntKind.i64.wrap ((IntKind.u64.wrap m).tmod (8 : Int))) c (tab 16 y5.1.2.2 ((0 : Int), (0 : Int)))) ((0 : Int), (0 : Int))) (IntKind.i64.wrap ((IntKind.u64.wrap n).tmod (8 : Int)))).length : Int) > (0 : Int))) (
                               .req ((y6.2.1 == (9 : Int)) = true → conjP [True]) (
                                .leaf ((y6.2.1 == (9 : Int) && true, ())))) (
                               .req ((y6.2.1 == (0 : Int)) = true → conjP (((0 : Int) ≤ IntKind.i64.wrap ((IntKind.u64.wrap n).tmod (8 : Int)) ∧ IntKind.i64.wrap ((IntKind.u64.wrap n).tmod (8 : Int)) < (8 : Int)) :: ((0 : Int) ≤ IntKind.i64.wrap ((IntKind.u64.wrap n).tmod (8 : Int)) ∧ IntKind.i64.wrap ((IntKind.u64.wrap n).tmod (8 : Int)) < (8 : Int)) :: ([((tab 8 y6.1.1 (0 : Int)).getD (IntKind.i64.wrap ((IntKind.u64.wrap n).tmod (8 : Int))).toNat (0 : Int) == (4 : Int)) = true → conjP (((8 = 8 ∧ 16 = 16) ∧ (↑y6.1.2.1.2.2.length : Int) < (17592186044416 : Int)) :: ([Pl.settledR (tab 8 y6.1.1 (0 : Int), y6.1.2.1, tab 16 y6.1.2.2 ((0 : Int), (0 : Int))) = true → conjP [True]] ++ ([] : List Prop)))] ++ ([] : List Prop)))) (
                                .leaf ((y6.2.1 == (0 : Int) && ((tab 8 y6.1.1 (0 : Int)).getD (IntKind.i64.wrap ((IntKind.u64.wrap n).tmod (8 : Int))).toNat (0 : Int) == (4 : Int) && (Pl.settledR (tab 8 y6.1.1 (0 : Int), y6.1.2.1, tab 16 y6.1.2.2 ((0 : Int), (0 : Int))) && true)), ()))))))))))))))))))))))))) (
            .fork (!y1.2.1) (
             .leaf ((false, ()))) (
             .fork (y2.2.1 != (0 : Int)) (
              .leaf ((false, ()))) (
              .fork (y3.2.1 != (0 : Int)) (
               .leaf ((false, ()))) (
               .fork (y4.2.1 != (0 : Int)) (
                .leaf ((false, ()))) (
                .req ((8 = 8 ∧ 16 = 16) ∧ (↑y4.1.2.1.2.2.length : Int) < (17592186044416 : Int)) (
                 .fork ((↑(Pl.moveR (tab 8 y4.1.1 (0 : Int), y4.1.2.1, tab 16 y4.1.2.2 ((0 : Int), (0 : Int))) (IntKind.i64.wrap ((IntKind.u64.wrap n).tmod (8 : Int)))).length : Int) != (16 : Int)) (
                  .leaf ((false, ()))) (
                  .req ((0 : Int) ≤ IntKind.i64.wrap ((IntKind.u64.wrap n).tmod (8 : Int)) ∧ IntKind.i64.wrap ((IntKind.u64.wrap n).tmod (8 : Int)) < (8 : Int)) (
                   .req ((0 : Int) ≤ IntKind.i64.wrap ((IntKind.u64.wrap n).tmod (8 : Int)) ∧ IntKind.i64.wrap ((IntKind.u64.wrap n).tmod (8 : Int)) < (8 : Int)) (
                    .fork ((tab 8 y4.1.1 (0 : Int)).getD (IntKind.i64.wrap ((IntKind.u64.wrap n).tmod (8 : Int))).toNat (0 : Int) != (3 : Int)) (
                     .leaf ((false, ()))) (
                     .req ((8 = 8 ∧ 16 = 16) ∧ (↑y4.1.2.1.2.2.length : Int) < (17592186044416 : Int)) (
                      .fork (Pl.settledR (tab 8 y4.1.1 (0 : Int), y4.1.2.1, tab 16 y4.1.2.2 ((0 : Int), (0 : Int)))) (
                       .leaf ((false, ()))) (
                       .req ((8 = 8 ∧ 16 = 16) ∧ (0 : Int) ≤ (0 : Int) ∧ (0 : Int) ≤ (↑c.length : Int) ∧ (↑c.length : Int) ≤ (9223372036854775807 : Int)) (
                        .req ((0 : Int) = (0 : Int) ∧ (↑c.length : Int) = (↑c.length : Int) ∧ IntKind.i64.wrap ((IntKind.u64.wrap m).tmod (8 : Int)) = IntKind.i64.wrap ((IntKind.u64.wrap m).tmod (8 : Int)) ∧ IntKind.i64.wrap ((IntKind.u64.wrap n).tmod (8 : Int)) = IntKind.i64.wrap ((IntKind.u64.wrap n).tmod (8 : Int)) ∧ y4.1.1.getD 0 (0 : Int) = (tab 8 y4.1.1 (0 : Int)).getD 0 (0 : Int) ∧ y4.1.1.getD 1 (0 : Int) = (tab 8 y4.1.1 (0 : Int)).getD 1 (0 : Int) ∧ y4.1.1.getD 2 (0 : Int) = (tab 8 y4.1.1 (0 : Int)).getD 2 (0 : Int) ∧ y4.1.1.getD 3 (0 : Int) = (tab 8 y4.1.1 (0 : Int)).getD 3 (0 : Int) ∧ y4.1.1.getD 4 (0 : Int) = (tab 8 y4.1.1 (0 : Int)).getD 4 (0 : Int) ∧ y4.1.1.getD 5 (0 : Int) = (tab 8 y4.1.1 (0 : Int)).getD 5 (0 : Int) ∧ y4.1.1.getD 6 (0 : Int) = (tab 8 y4.1.1 (0 : Int)).getD 6 (0 : Int) ∧ y4.1.1.getD 7 (0 : Int) = (tab 8 y4.1.1 (0 : Int)).getD 7 (0 : Int) ∧ y4.1.2.1.1 = y4.1.2.1.1 ∧ y4.1.2.1.2.1 = y4.1.2.1.2.1 ∧ (y4.1.2.2.getD 0 ((0 : Int), (0 : Int))).1 = (y4.1.2.2.getD 0 ((0 : Int), (0 : Int))).1 ∧ (y4.1.2.2.getD 0 ((0 : Int), (0 : Int))).2 = (y4.1.2.2.getD 0 ((0 : Int), (0 : Int))).2 ∧ (y4.1.2.2.getD 1 ((0 : Int), (0 : Int))).1 = (y4.1.2.2.getD 1 ((0 : Int), (0 : Int))).1 ∧ (y4.1.2.2.getD 1 ((0 : Int), (0 : Int))).2 = (y4.1.2.2.getD 1 ((0 : Int), (0 : Int))).2 ∧ (y4.1.2.2.getD 2 ((0 : Int), (0 : Int))).1 = (y4.1.2.2.getD 2 ((0 : Int), (0 : Int))).1 ∧ (y4.1.2.2.getD 2 ((0 : Int), (0 : Int))).2 = (y4.1.2.2.getD 2 ((0 : Int), (0 : Int))).2 ∧ (y4.1.2.2.getD 3 ((0 : Int), (0 : Int))).1 = (y4.1.2.2.getD 3 ((0 : Int), (0 : Int))).1 ∧ (y4.1.2.2.getD 3 ((0 : Int), (0 : Int))).2 = (y4.1.2.2.getD 3 ((0 : Int), (0 : Int))).2 ∧ (y4.1.2.2.getD 4 ((0 : Int), (0 : Int))).1 = (y4.1.2.2.getD 4 ((0 : Int), (0 : Int))).1 ∧ (y4.1.2.2.getD 4 ((0 : Int), (0 : Int))).2 = (y4.1.2.2.getD 4 ((0 : Int), (0 : Int))).2 ∧ (y4.1.2.2.getD 5 ((0 : Int), (0 : Int))).1 = (y4.1.2.2.getD 5 ((0 : Int), (0 : Int))).1 ∧ (y4.1.2.2.getD 5 ((0 : Int), (0 : Int))).2 = (y4.1.2.2.getD 5 ((0 : Int), (0 : Int))).2 ∧ (y4.1.2.2.getD 6 ((0 : Int), (0 : Int))).1 = (y4.1.2.2.getD 6 ((0 : Int), (0 : Int))).1 ∧ (y4.1.2.2.getD 6 ((0 : Int), (0 : Int))).2 = (y4.1.2.2.getD 6 ((0 : Int), (0 : Int))).2 ∧ (y4.1.2.2.getD 7 ((0 : Int), (0 : Int))).1 = (y4.1.2.2.getD 7 ((0 : Int), (0 : Int))).1 ∧ (y4.1.2.2.getD 7 ((0 : Int), (0 : Int))).2 = (y4.1.2.2.getD 7 ((0 : Int), (0 : Int))).2 ∧ (y4.1.2.2.getD 8 ((0 : Int), (0 : Int))).1 = (y4.1.2.2.getD 8 ((0 : Int), (0 : Int))).1 ∧ (y4.1.2.2.getD 8 ((0 : Int), (0 : Int))).2 = (y4.1.2.2.getD 8 ((0 : Int), (0 : Int))).2 ∧ (y4.1.2.2.getD 9 ((0 : Int), (0 : Int))).1 = (y4.1.2.2.getD 9 ((0 : Int), (0 : Int))).1 ∧ (y4.1.2.2.getD 9 ((0 : Int), (0 : Int))).2 = (y4.1.2.2.getD 9 ((0 : Int), (0 : Int))).2 ∧ (y4.1.2.2.getD 10 ((0 : Int), (0 : Int))).1 = (y4.1.2.2.getD 10 ((0 : Int), (0 : Int))).1 ∧ (y4.1.2.2.getD 10 ((0 : Int), (0 : Int))).2 = (y4.1.2.2.getD 10 ((0 : Int), (0 : Int))).2 ∧ (y4.1.2.2.getD 11 ((0 : Int), (0 : Int))).1 = (y4.1.2.2.getD 11 ((0 : Int), (0 : Int))).1 ∧ (y4.1.2.2.getD 11 ((0 : Int), (0 : Int))).2 = (y4.1.2.2.getD 11 ((0 : Int), (0 : Int))).2 ∧ (y4.1.2.2.getD 12 ((0 : Int), (0 : Int))).1 = (y4.1.2.2.getD 12 ((0 : Int), (0 : Int))).1 ∧ (y4.1.2.2.getD 12 ((0 : Int), (0 : Int))).2 = (y4.1.2.2.getD 12 ((0 : Int), (0 : Int))).2 ∧ (y4.1.2.2.getD 13 ((0 : Int), (0 : Int))).1 = (y4.1.2.2.getD 13 ((0 : Int), (0 : Int))).1 ∧ (y4.1.2.2.getD 13 ((0 : Int), (0 : Int))).2 = (y4.1.2.2.getD 13 ((0 : Int), (0 : Int))).2 ∧ (y4.1.2.2.getD 14 ((0 : Int), (0 : Int))).1 = (y4.1.2.2.getD 14 ((0 : Int), (0 : Int))).1 ∧ (y4.1.2.2.getD 14 ((0 : Int), (0 : Int))).2 = (y4.1.2.2.getD 14 ((0 : Int), (0 : Int))).2 ∧ (y4.1.2.2.getD 15 ((0 : Int), (0 : Int))).1 = (y4.1.2.2.getD 15 ((0 : Int), (0 : Int))).1 ∧ (y4.1.2.2.getD 15 ((0 : Int), (0 : Int))).2 = (y4.1.2.2.getD 15 ((0 : Int), (0 : Int))).2 ∧ y4.1.2.1.2.2 = y4.1.2.1.2.2 ∧ c = c) (
                         .req ((8 = 8 ∧ 16 = 16) ∧ (↑y4.1.2.1.2.2.length : Int) < (17592186044416 : Int)) (
                          .req ((8 = 8 ∧ 16 = 16) ∧ (↑y4.1.2.1.2.2.length : Int) < (17592186044416 : Int) ∧ (2 : Int) < (4611686018427387904 : Int)) (
                           .lt [(Ty.rep 8 (Ty.int IntKind.i64)).cat
    (((Ty.int IntKind.i64).cat ((Ty.int IntKind.i64).cat (Ty.int IntKind.i64).slice)).cat
      (Ty.rep 16 ((Ty.int IntKind.i64).cat (Ty.int IntKind.i64)))),
  Ty.int IntKind.i64] (((Pl.stageR (tab 8 (tab 8 y4.1.1 (0 : Int)) (0 : Int), y4.1.2.1, tab 16 (Pl.flF (IntKind.i64.wrap ((IntKind.u64.wrap m).tmod (8 : Int))) c (tab 16 y4.1.2.2 ((0 : Int), (0 : Int)))) ((0 : Int), (0 : Int))) (if IntKind.i64.wrap ((IntKind.u64.wrap m).tmod (8 : Int)) < IntKind.i64.wrap ((IntKind.u64.wrap n).tmod (8 : Int)) then IntKind.i64.wrap ((IntKind.u64.wrap m).tmod (8 : Int)) else IntKind.i64.wrap ((IntKind.u64.wrap n).tmod (8 : Int))) [IntKind.i64.wrap ((IntKind.u64.wrap n).tmod (8 : Int)), IntKind.i64.wrap ((IntKind.u64.wrap m).tmod (8 : Int))]).1, (Pl.stageR (tab 8 (tab 8 y4.1.1 (0 : Int)) (0 : Int), y4.1.2.1, tab 16 (Pl.flF (IntKind.i64.wrap ((IntKind.u64.wrap m).tmod (8 : Int))) c (tab 16 y4.1.2.2 ((0 : Int), (0 : Int)))) ((0 : Int), (0 : Int))) (if IntKind.i64.wrap ((IntKind.u64.wrap m).tmod (8 : Int)) < IntKind.i64.wrap ((IntKind.u64.wrap n).tmod (8 : Int)) then IntKind.i64.wrap ((IntKind.u64.wrap m).tmod (8 : Int)) else IntKind.i64.wrap ((IntKind.u64.wrap n).tmod (8 : Int))) [IntKind.i64.wrap ((IntKind.u64.wrap n).tmod (8 : Int)), IntKind.i64.wrap ((IntKind.u64.wrap m).tmod (8 : Int))]).2, ())) (fun (y7 : (List Int × (Int × Int × List Int) × List (Int × Int)) × Int × PUnit) => (
                            .fork (decide ((↑(Pl.moveR (tab 8 (tab 8 y4.1.1 (0 : Int)) (0 : Int), y4.1.2.1, tab 16 (Pl.flF (IntKind.i64.wrap ((IntKind.u64.wrap m).tmod (8 : Int))) c (tab 16 y4.1.2.2 ((0 : Int), (0 : Int)))) ((0 : Int), (0 : Int))) (IntKind.i64.wrap ((IntKind.u64.wrap n).tmod (8 : Int)))).length : Int) > (0 : Int))) (
                             .req ((y7.2.1 == (9 : Int)) = true → conjP [True]) (
                              .leaf ((y7.2.1 == (9 : Int) && true, ())))) (
                             .req ((y7.2.1 == (0 : Int)) = true → conjP (((0 : Int) ≤ IntKind.i64.wrap ((IntKind.u64.wrap n).tmod (8 : Int)) ∧ IntKind.i64.wrap ((IntKind.u64.wrap n).tmod (8 : Int)) < (8 : Int)) :: ((0 : Int) ≤ IntKind.i64.wrap ((IntKind.u64.wrap n).tmod (8 : Int)) ∧ IntKind.i64.wrap ((IntKind.u64.wrap n).tmod (8 : Int)) < (8 : Int)) :: ([((tab 8 y7.1.1 (0 : Int)).getD (IntKind.i64.wrap ((IntKind.u64.wrap n).tmod (8 : Int))).toNat (0 : Int) == (4 : Int)) = true → conjP (((8 = 8 ∧ 16 = 16) ∧ (↑y7.1.2.1.2.2.length : Int) < (17592186044416 : Int)) :: ([Pl.settledR (tab 8 y7.1.1 (0 : Int), y7.1.2.1, tab 16 y7.1.2.2 ((0 : Int), (0 : Int))) = true → conjP [True]] ++ ([] : List Prop)))] ++ ([] : List Prop)))) (
                              .leaf ((y7.2.1 == (0 : Int) && ((tab 8 y7.1.1 (0 : Int)).getD (IntKind.i64.wrap ((IntKind.u64.wrap n).tmod (8 : Int))).toNat (0 : Int) == (4 : Int) && (Pl.settledR (tab 8 y7.1.1 (0 : Int), y7.1.2.1, tab 16 y7.1.2.2 ((0 : Int), (0 : Int))) && true)), ()))))))))))))))))))))))))))))))))))))) : Tree (Bool × PUnit)) := by kernel_rfl
end Pl
namespace Pl
open Go Sx Go.Proofs Go.RowKit
theorem settled_ok : PureOK Try.prog 23 [Ring] [.bool] S1r (fun x => (settledR x.1, ())) :=
  fn_pure (E := Y6) (n := 100) Y6_ok Try.func23 bodySe .nil fun x h => by
    obtain ⟨r, _⟩ := x
    obtain ⟨hr, hs⟩ : okR r ∧ (r.2.1.2.2.length : Int) < small := h
    refine Tree.all_eq (tSe r) ?_
    show Tree.all (α := Bool × Unit) _ (fun y => y = (settledR r, ()))
    rw [tab_eq hr.1, tab_eq hr.2]
    have e : (r.1, r.2.1, r.2.2) = r := rfl
    have hs' : (r.2.1.2.2.length : Int) < 17592186044416 := hs
    have m1 := ofR_len r 1 1
    have m3 := ofR_len r 3 3
    simp only [e, all_leaf, all_fork, all_req, and_true, true_and, hs']
    rw [IntWalk.i64_in (((ofR r 1 1).length : Int) + ((ofR r 3 3).length : Int)) (by omega)]
    refine ⟨fun c => ⟨by omega, fun d => ⟨by omega, fun f => ?_, fun f => ?_⟩, fun d => ?_⟩, fun c => ?_⟩
    · have c' : decide (0 < r.2.1.2.2.length) = true := by simp only [decide_eq_true_eq] at c ⊢; omega
      unfold settledR
      rw [c', d, f]
      simp only [Bool.true_and]
      congr 1
      rw [Bool.eq_iff_iff, beq_iff_eq, decide_eq_true_iff]; omega
    · unfold settledR; rw [d, f]; simp
    · unfold settledR; rw [d]; simp
    · have c' : decide (0 < r.2.1.2.2.length) = false := by simp only [decide_eq_false_iff_not] at c ⊢; omega
      unfold settledR; rw [c']; simp
theorem Z6_ok : Z6.Sound := mkExM_sound ⟨pureSp_ok aw_ok, pureSpL_ok stage_pok, pureSpL_ok rfirst_ok, pureSpL_ok rrise_ok, pureSp_ok rmv_ok, pureSp_ok settled_ok, trivial⟩
theorem tabL_put3 {P : List EntryD} {x m : Int} (h : P.length = 16) (h0 : 0 ≤ x) : tabL 16 (fun j => ((bif decide (x = (j : Int)) then 2 else (P.getD j (0, 0)).1), (bif decide (x = (j : Int)) then m else (P.getD j (0, 0)).2))) = P.set x.toNat (2, m) := by
  rw [← tabL_put (n := 16) (z := (0, 0)) h h0]
  refine tabL_congr fun j _ => ?_
  cases decide (x = (j : Int)) <;> rfl
theorem flF_len (m : Int) : ∀ (c : List Int) (P : List EntryD), (flF m c P).length = P.length
  | [], _ => rfl
  | x :: r, P => by rw [flF, flF_len m r]; simp
theorem lGo : ∀ st out, (LGo.sp st).reach out → CodeOK Try.prog Try.f7.ntmps (.loop (loopAt (bodyOf Try.f7) 0)) st out := by
  refine LGo.sound Z6_ok (lps := []) (n := 100) (inner rfl) (fun _ => rfl) ?_
  rintro ⟨c, m, n, s, i⟩ ⟨h1, h2, h3, h4⟩
  simp only at h1 h2 h3 h4
  obtain ⟨x, hx, x0, x8⟩ := umod (c.getD i.toNat 0) 16 (by omega) (by omega)
  rw [rGo, tab_eq h1.1, hx]
  simp only [all_leaf, all_fork, all_req, and_true, decide_eq_true_eq, decide_eq_false_iff_not]
  refine ⟨fun g => ⟨⟨h2, g⟩, ⟨h2, g⟩, by omega, ⟨x0, x8⟩, ⟨x0, x8⟩, ?_, ?_⟩, fun g => ?_⟩
  · repeat' (first | exact trivial | rfl | apply And.intro)
  · rw [tabL_put3 h1.2 x0, IntWalk.i64_in (i + 1) (by omega)]
    refine ⟨⟨⟨h1.1, by simpa using h1.2⟩, by dsimp only; omega, by dsimp only; omega, h4⟩, by simp only [LGo]; omega, ?_⟩
    simp only [LGo]
    have : r16 (c.getD i.toNat 0) = x := hx
    rw [drop_cons (l := c) 0 h2 g, flF, this]
  · rw [drop_end g]
    repeat' (first | exact trivial | rfl | apply And.intro)
def goT (n m : Nat) : List Int := (((List.replicate 8 (0 : Int)).set n 2).set m 2).set n 3
def goQ (n m : Nat) : PlanD := (1, min (n : Int) (m : Int), List.replicate 16 (m : Int))
def goR (n m : Nat) : RingD := (goT n m, (0, 0, []), List.replicate 16 (1, (n : Int)))
def goS (n m : Nat) : RingD := (goT n m, goQ n m, List.replicate 16 (1, (n : Int)))
def goE (n m : Nat) : RingD := (goT n m, goQ n m, List.replicate 16 (2, (m : Int)))
def go0 (n : Nat) : RingD := ((List.replicate 8 (0 : Int)).set n 2, (0, 0, []), List.replicate 16 (1, (n : Int)))
def go1 (n m : Nat) : RingD := (((List.replicate 8 (0 : Int)).set n 2).set m 2, (0, 0, []), List.replicate 16 (1, (n : Int)))
def goK (n m : Nat) : Int := min (n : Int) (m : Int)
def goB (n m : Nat) : Bool := Nat.beq n m ||
  (decide (firstR (n : Int) = (go0 n, true)) && decide (riseR (go0 n) (m : Int) 2 = (go1 n m, 0)) && decide (riseR (go1 n m) (n : Int) 3 = (goR n m, 0)) &&
  decide (stageR (goR n m) (goK n m) [(n : Int), (m : Int)] = (goS n m, 0)) && decide ((moveR (goS n m) (n : Int)).length = 16) && !settledR (goS n m) &&
  decide (planS (goS n m) (goK n m) = (goQ n m, 0)) && decide (leadR (goS n m) [(n : Int), (m : Int)] = goK n m) &&
  decide ((stageR (goE n m) (goK n m) [(n : Int), (m : Int)]).2 = 0) && decide ((stageR (goE n m) (goK n m) [(n : Int), (m : Int)]).1.1.getD n 0 = 4) &&
  settledR (stageR (goE n m) (goK n m) [(n : Int), (m : Int)]).1 && ((List.range 8).all fun k => !decide ((goT n m).getD k 0 = 1) && (!decide ((goT n m).getD k 0 = 3) || Nat.beq k n)) && decide ((goT n m).getD n 0 = 3) &&
  mayB (goQ n m) && (goT n m).all stB && mayE (1, (n : Int)) && mayE (2, (m : Int)))
theorem goB_all : ((List.range 8).all fun n => (List.range 8).all fun m => goB n m) = true := by kernel_rfl
end Pl
namespace Pl
open Go Sx Go.Proofs Go.RowKit
theorem go_facts {n m : Nat} (hn : n < 8) (hm : m < 8) (hne : n ≠ m) :
    firstR (n : Int) = (go0 n, true) ∧ riseR (go0 n) (m : Int) 2 = (go1 n m, 0) ∧ riseR (go1 n m) (n : Int) 3 = (goR n m, 0) ∧
    stageR (goR n m) (goK n m) [(n : Int), (m : Int)] = (goS n m, 0) ∧ (moveR (goS n m) (n : Int)).length = 16 ∧ settledR (goS n m) = false ∧
    planS (goS n m) (goK n m) = (goQ n m, 0) ∧ leadR (goS n m) [(n : Int), (m : Int)] = goK n m ∧
    (stageR (goE n m) (goK n m) [(n : Int), (m : Int)]).2 = 0 ∧ (stageR (goE n m) (goK n m) [(n : Int), (m : Int)]).1.1.getD n 0 = 4 ∧
    settledR (stageR (goE n m) (goK n m) [(n : Int), (m : Int)]).1 = true ∧ (∀ k, k < 8 → (goT n m).getD k 0 ≠ 1 ∧ ((goT n m).getD k 0 = 3 → k = n)) ∧ (goT n m).getD n 0 = 3 ∧
    mayB (goQ n m) = true ∧ (goT n m).all stB = true ∧ mayE (1, (n : Int)) = true ∧ mayE (2, (m : Int)) = true := by
  have h := List.all_eq_true.1 (List.all_eq_true.1 goB_all n (List.mem_range.2 hn)) m (List.mem_range.2 hm)
  unfold goB at h
  have hb : Nat.beq n m = false := by rw [Bool.eq_false_iff]; exact fun e => hne (Nat.eq_of_beq_eq_true e)
  rw [hb, Bool.false_or] at h
  simp only [Bool.and_eq_true, decide_eq_true_eq, Bool.not_eq_true'] at h
  obtain ⟨⟨⟨⟨⟨⟨⟨⟨⟨⟨⟨⟨⟨⟨⟨⟨a1, a2⟩, a3⟩, a4⟩, a5⟩, a6⟩, a7⟩, a8⟩, a9⟩, b1⟩, b2⟩, b3⟩, b4⟩, b5⟩, b6⟩, b7⟩, b8⟩ := h
  refine ⟨a1, a2, a3, a4, a5, a6, a7, a8, a9, b1, b2, fun k hk => ?_, b4, b5, b6, b7, b8⟩
  have := List.all_eq_true.1 b3 k (List.mem_range.2 hk)
  simp only [Bool.and_eq_true, Bool.or_eq_true, Bool.not_eq_true', decide_eq_false_iff_not] at this
  refine ⟨this.1, fun e => ?_⟩
  rcases this.2 with q | q
  · exact absurd e q
  · exact Nat.eq_of_beq_eq_true q
theorem mvL_flt (r : RingD) (n : Int) : ∀ c j, mvL r n c j = fltB (fun k => mvB r n (k : Int)) c j
  | 0, _ => rfl
  | c + 1, j => by simp only [mvL, fltB, mvL_flt r n c (j + 1)]
def goP (n m : Int) (P : List EntryD) : Prop := P.length = 16 ∧ ∀ k, k < 16 → P.getD k (0, 0) = (1, n) ∨ P.getD k (0, 0) = (2, m)
theorem getD_setE {xs : List EntryD} {k j : Nat} {s : EntryD} (h : k < xs.length) : (xs.set k s).getD j (0, 0) = if k = j then s else xs.getD j (0, 0) := by
  simp only [List.getD_eq_getElem?_getD, List.getElem?_set]
  split
  · rename_i e; subst e; simp [h]
  · rfl
theorem flF_P (n m : Int) : ∀ (c : List Int) (P : List EntryD), goP n m P → goP n m (flF m c P)
  | [], _, h => h
  | x :: r, P, h => by
    rw [flF]
    refine flF_P n m r _ ⟨by simpa using h.1, fun k hk => ?_⟩
    obtain ⟨y, hy, y0, y1⟩ := umod x 16 (by omega) (by omega)
    have hy' : r16 x = y := hy
    rw [hy', getD_setE (by rw [h.1]; omega)]
    split
    · exact .inr rfl
    · exact h.2 k hk
theorem go_own {n m : Nat} (hn : n < 8) {P : List EntryD} (hP : goP n m P) (he : mayE (1, (n : Int)) = true) (st : List Int) (q : PlanD) {k : Nat} (hk : k < 16) : P.getD k (0, 0) = (1, (n : Int)) → ownerR (st, q, P) (k : Int) = n := by
  intro e
  unfold ownerR
  simp only [Int.toNat_natCast, e]
  rw [if_pos]
  have a1 : decide ((k : Int) ≥ 0) = true := decide_eq_true (by omega)
  have a2 : decide ((k : Int) < 16) = true := decide_eq_true (by omega)
  rw [a1, a2, he]; rfl
theorem go_tg {n m : Nat} (hm : m < 8) (hq : mayB (goQ n m) = true) (st : List Int) (P : List EntryD) {k : Nat} (hk : k < 16) : targetR (st, goQ n m, P) (k : Int) = m := by
  have e := tgtL_eq (r := (st, goQ n m, P)) hq (by show (List.replicate 16 (m : Int)).length ≠ 0; simp)
  have : targetR (st, goQ n m, P) (k : Int) = (tgtL (st, goQ n m, P)).getD k 0 := by unfold tgtL; rw [tabL_getD _ _ _ hk]
  rw [this, e]
  show (List.replicate 16 (m : Int)).getD k 0 = m
  exact rep_getD _ _ _ hk
theorem repE {n k : Nat} {v z : EntryD} (h : k < n) : (List.replicate n v).getD k z = v := by
  rw [getD_get z (by simpa using h)]; simp
theorem go_end {n m : Nat} (hn : n < 8) (hm : m < 8) (hne : n ≠ m) {P : List EntryD} (hP : goP n m P) :
    (0 < (moveR (goT n m, goQ n m, P) (n : Int)).length ∧ (stageR (goT n m, goQ n m, P) (goK n m) [(n : Int), (m : Int)]).2 = 9) ∨
    ((moveR (goT n m, goQ n m, P) (n : Int)).length = 0 ∧ (goT n m, goQ n m, P) = goE n m) := by
  obtain ⟨_, _, _, _, _, _, a7, a8, _, _, _, b3, b4, b5, b6, b7, b8⟩ := go_facts hn hm hne
  have hk : okR (goT n m, goQ n m, P) := ⟨by show (goT n m).length = 8; simp [goT], hP.1⟩
  have hmay : mayR (goT n m, goQ n m, P) = true := by
    rw [mayR_iff hk]
    simp only [Bool.and_eq_true]
    refine ⟨b6, b5, List.all_eq_true.2 fun x hx => ?_⟩
    obtain ⟨k, hk', rfl⟩ := mem_getD16 (z := ((0 : Int), (0 : Int))) hx
    rcases hP.2 k (by rw [hP.1] at hk'; exact hk') with e | e
    · rw [e]; exact b7
    · rw [e]; exact b8
  have hmv : moveR (goT n m, goQ n m, P) (n : Int) = fltB (fun k => mvB (goT n m, goQ n m, P) (n : Int) (k : Int)) 16 0 := mvL_flt _ _ _ _
  have hnode : nodeB (n : Int) = true := nodeB_iff.2 ⟨by omega, by omega⟩
  by_cases c : ∃ k, k < 16 ∧ P.getD k (0, 0) = (1, (n : Int))
  · obtain ⟨k, k16, e⟩ := c
    have ho := go_own hn hP b7 (goT n m) (goQ n m) k16 e
    have ht := go_tg (n := n) hm b5 (goT n m) P k16
    left
    constructor
    · have : (k : Int) ∈ moveR (goT n m, goQ n m, P) (n : Int) := by
        rw [hmv, fltB_mem]
        refine ⟨k, by omega, by omega, ?_, rfl⟩
        unfold mvB
        rw [ho, ht, hnode, beq_self_eq_true, beq_eq_false_iff_ne.2 (by omega : (m : Int) ≠ -1), beq_eq_false_iff_ne.2 (by omega : (m : Int) ≠ (n : Int))]
        rfl
      exact List.length_pos_of_mem this
    · have hpl : planS (goT n m, goQ n m, P) (goK n m) = (goQ n m, 0) := by
        rw [← a7]
        have e1 : nowR (goT n m, goQ n m, P) = nowR (goS n m) := rfl
        unfold planS
        rw [e1]; rfl
      have hown : (ownL (goT n m, goQ n m, P)).contains (n : Int) = true := by
        rw [List.contains_iff_mem]
        have : (ownL (goT n m, goQ n m, P)).getD k 0 = n := by unfold ownL; rw [tabL_getD _ _ _ k16]; exact ho
        rw [← this, getD_get 0 (by unfold ownL; rw [tabL_len]; exact k16)]
        exact List.getElem_mem _
      have hout : outS (goT n m, goQ n m, P) (goK n m) = (goT n m, goQ n m, P) := by
        unfold outS
        rw [hpl]
        refine Prod.ext ?_ rfl
        refine ext_getD 0 (by rw [show (goT n m).length = 8 from hk.1]; exact tabL_len _ _) fun j hj => ?_
        have hj8 : j < 8 := by have : (stG (ownL (goT n m, goQ n m, P)) (tgtL (goT n m, goQ n m, P)) (goT n m)).length = 8 := tabL_len _ _; dsimp only at hj; omega
        dsimp only
        rw [stG_getD _ _ _ hj8]
        have hb := b3 j hj8
        rw [if_neg hb.1]
        split
        · rename_i d
          have e := hb.2 d.1
          have d2 := d.2
          rw [e, hown, Bool.true_or] at d2
          cases d2
        · rfl
      unfold stageR
      rw [if_neg (by simp [hmay, show nodeB (goK n m) = true from nodeB_iff.2 ⟨by unfold goK; omega, by unfold goK; omega⟩]), if_neg, if_neg (by rw [hpl]; simp), if_pos hout]
      intro h
      exact h a8
  · right
    have hall : P = List.replicate 16 (2, (m : Int)) := by
      refine ext_getD (0, 0) (by rw [hP.1]; simp) fun k hk' => ?_
      rw [hP.1] at hk'
      rw [repE hk']
      rcases hP.2 k hk' with e | e
      · exact absurd ⟨k, hk', e⟩ c
      · exact e
    constructor
    · rw [hmv]
      refine List.length_eq_zero_iff.2 (List.eq_nil_iff_forall_not_mem.2 fun x hx => ?_)
      obtain ⟨k, _, k2, k3, _⟩ := (fltB_mem _ _ _ _).1 hx
      unfold mvB at k3
      simp only [Bool.and_eq_true, beq_iff_eq] at k3
      have ho : ownerR (goT n m, goQ n m, P) (k : Int) = m := by
        unfold ownerR
        have e : P.getD (k : Int).toNat (0, 0) = (2, (m : Int)) := by rw [hall, Int.toNat_natCast, repE (by omega)]
        simp only [e]
        rw [if_pos]
        have a1 : decide ((k : Int) ≥ 0) = true := decide_eq_true (by omega)
        have a2 : decide ((k : Int) < 16) = true := decide_eq_true (by omega)
        rw [a1, a2, b8]; rfl
      rw [ho] at k3
      omega
    · rw [hall]; rfl
end Pl
namespace Pl
open Go Sx Go.Proofs Go.RowKit
theorem len_max {xs : List Int} (h : xs.length ≤ maxLen) : (xs.length : Int) ≤ 9223372036854775807 := by
  unfold maxLen at h; omega
theorem goes_t (n m : Int) (c : List Int) (hc : (c.length : Int) ≤ 9223372036854775807) : (fnT Z6 [(0, viaN 11 [] LGo.sp)] 100 Try.f7 [i64, i64, ints] [.bool] (n, m, c, ())).all fun y => y = (true, ()) := by
  refine Tree.all_eq (tGo n m c) ?_
  show Tree.all (α := Bool × Unit) _ Yes
  obtain ⟨N, hN, N0, N8⟩ := umod n 8 (by omega) (by omega)
  obtain ⟨M, hM, M0, M8⟩ := umod m 8 (by omega) (by omega)
  rw [hN, hM]
  obtain ⟨a, rfl⟩ := Int.eq_ofNat_of_zero_le N0
  obtain ⟨b, rfl⟩ := Int.eq_ofNat_of_zero_le M0
  simp only [all_leaf, all_fork, all_req, all_lt, and_true, true_and, conjP, List.nil_append, List.cons_append, List.append_nil, yes_t, yes_f, yes_iff, implies_true]
  refine ⟨by omega, by omega, fun hne => ?_⟩
  have hne : a ≠ b := by rw [beq_eq_false_iff_ne] at hne; intro e; subst e; exact hne rfl
  obtain ⟨a1, a2, a3, a4, a5, a6, a7, a8, a9, b1, b2, b3, b4, b5, b6, b7, b8⟩ := go_facts (n := a) (m := b) (by omega) (by omega) hne
  have t0 : (tab 8 (go0 a).1 0, (go0 a).2.1, tab 16 (go0 a).2.2 (0, 0)) = go0 a := by rw [tab_eq (n := 8) (by simp [go0]), tab_eq (n := 16) (by simp [go0])]
  have t1 : (tab 8 (go1 a b).1 0, (go1 a b).2.1, tab 16 (go1 a b).2.2 (0, 0)) = go1 a b := by rw [tab_eq (n := 8) (by simp [go1]), tab_eq (n := 16) (by simp [go1])]
  have t2 : (tab 8 (goR a b).1 0, (goR a b).2.1, tab 16 (goR a b).2.2 (0, 0)) = goR a b := by rw [tab_eq (n := 8) (by simp [goR, goT]), tab_eq (n := 16) (by simp [goR])]
  have t3 : tab 8 (goS a b).1 0 = (goS a b).1 := tab_eq (n := 8) (by simp [goS, goT])
  have t4 : tab 16 (goS a b).2.2 (0, 0) = (goS a b).2.2 := tab_eq (n := 16) (by simp [goS])
  have hP : goP (a : Int) (b : Int) (flF (b : Int) c (goS a b).2.2) := flF_P _ _ c _ ⟨by simp [goS], fun k hk => .inl (by show (List.replicate 16 ((1 : Int), (a : Int))).getD k (0, 0) = _; exact repE hk)⟩
  have t5 : tab 16 (flF (b : Int) c (goS a b).2.2) (0, 0) = flF (b : Int) c (goS a b).2.2 := tab_eq hP.1
  have hend := go_end (n := a) (m := b) (by omega) (by omega) hne hP
  have eS : ((goS a b).1, (goS a b).2.1, (goS a b).2.2) = goS a b := rfl
  have eG : ((goS a b).1, (goS a b).2.1, flF (b : Int) c (goS a b).2.2) = (goT a b, goQ a b, flF (b : Int) c (goS a b).2.2) := rfl
  have l2 : ((goS a b).2.1.2.2.length : Int) < 17592186044416 := by show ((List.replicate 16 (b : Int)).length : Int) < _; simp
  have okS : okR (goS a b) := ⟨by simp [goS, goT], by simp [goS]⟩
  rw [a1]
  simp only [t0]
  rw [a2]
  simp only [t1]
  rw [a3]
  simp only [t2]
  have k1 : (([] : List Int).length : Int) < 17592186044416 := by decide
  refine ⟨k1, k1, ⟨k1, by omega⟩, fun g => ⟨⟨k1, by omega⟩, fun h => absurd h (by decide), fun _ => ⟨fun h => absurd h (by decide), fun _ => ⟨fun h => absurd h (by decide), fun _ => ?_⟩⟩⟩, fun g => ⟨fun h => absurd h (by decide), fun _ => ⟨fun h => absurd h (by decide), fun _ => ⟨fun h => absurd h (by decide), fun _ => ?_⟩⟩⟩⟩
  · have hk : goK a b = (b : Int) := by simp only [decide_eq_true_eq] at g; unfold goK; omega
    rw [hk] at a4 hend a9 b1 b2
    rw [a4]
    simp only [eS, t3, t4, t5, eG]
    have hmin : (if (b : Int) < (a : Int) then (b : Int) else (a : Int)) = b := if_pos (by simp only [decide_eq_true_eq] at g; omega)
    have hl := (stage_okr (r := (goT a b, goQ a b, flF (b : Int) c (goS a b).2.2)) ⟨okS.1, hP.1⟩ b [(a : Int), (b : Int)])
    have ho := hl.1
    have hl2 : (goQ a b).2.2.length = 16 := by simp [goQ]
    have hl := hl.2
    rw [hmin, tab_eq ho.1, tab_eq ho.2, a5, a6]
    have q1 : ((goS a b).1.getD (a : Int).toNat 0 != 3) = false := by
      rw [Int.toNat_natCast]; show ((goT a b).getD a 0 != 3) = false; rw [b4]; rfl
    rw [q1]
    refine ⟨fun h => absurd h (by decide), fun _ => ⟨l2, fun h => absurd h (by decide), fun _ => ⟨⟨by omega, by omega⟩, ⟨by omega, by omega⟩, fun h => absurd h (by decide), fun _ => ⟨l2, fun h => absurd h (by decide), fun _ => ⟨⟨by omega, by omega, hc⟩, by repeat' (first | exact trivial | apply And.intro), l2, ⟨l2, by omega⟩, fun h => ?_, fun h => ?_⟩⟩⟩⟩⟩
    · rcases hend with ⟨_, e⟩ | ⟨e, _⟩
      · rw [e]; rfl
      · simp only [decide_eq_true_eq] at h; omega
    · rcases hend with ⟨e, _⟩ | ⟨_, e⟩
      · simp only [decide_eq_false_iff_not] at h; omega
      · rw [e] at hl ⊢
        have hl3 : (goE a b).2.1.2.2.length = 16 := by simp [goE, goQ]
        rw [hl3] at hl
        have eX : ∀ X : RingD, (X.1, X.2.1, X.2.2) = X := fun _ => rfl
        rw [eX, a9, b2, Int.toNat_natCast, b1]
        refine ⟨fun _ => ⟨⟨by omega, by omega⟩, ⟨by omega, by omega⟩, fun _ => by omega⟩, rfl⟩
  · have hk : goK a b = (a : Int) := by simp only [decide_eq_false_iff_not] at g; unfold goK; omega
    rw [hk] at a4 hend a9 b1 b2
    rw [a4]
    simp only [eS, t3, t4, t5, eG]
    have hmin : (if (b : Int) < (a : Int) then (b : Int) else (a : Int)) = a := if_neg (by simp only [decide_eq_false_iff_not] at g; omega)
    have hl := (stage_okr (r := (goT a b, goQ a b, flF (b : Int) c (goS a b).2.2)) ⟨okS.1, hP.1⟩ a [(a : Int), (b : Int)])
    have ho := hl.1
    have hl2 : (goQ a b).2.2.length = 16 := by simp [goQ]
    have hl := hl.2
    rw [hmin, tab_eq ho.1, tab_eq ho.2, a5, a6]
    have q1 : ((goS a b).1.getD (a : Int).toNat 0 != 3) = false := by
      rw [Int.toNat_natCast]; show ((goT a b).getD a 0 != 3) = false; rw [b4]; rfl
    rw [q1]
    refine ⟨fun h => absurd h (by decide), fun _ => ⟨l2, fun h => absurd h (by decide), fun _ => ⟨⟨by omega, by omega⟩, ⟨by omega, by omega⟩, fun h => absurd h (by decide), fun _ => ⟨l2, fun h => absurd h (by decide), fun _ => ⟨⟨by omega, by omega, hc⟩, by repeat' (first | exact trivial | apply And.intro), l2, ⟨l2, by omega⟩, fun h => ?_, fun h => ?_⟩⟩⟩⟩⟩
    · rcases hend with ⟨_, e⟩ | ⟨e, _⟩
      · rw [e]; rfl
      · simp only [decide_eq_true_eq] at h; omega
    · rcases hend with ⟨e, _⟩ | ⟨_, e⟩
      · simp only [decide_eq_false_iff_not] at h; omega
      · rw [e] at hl ⊢
        have hl3 : (goE a b).2.1.2.2.length = 16 := by simp [goE, goQ]
        rw [hl3] at hl
        have eX : ∀ X : RingD, (X.1, X.2.1, X.2.2) = X := fun _ => rfl
        rw [eX, a9, b2, Int.toNat_natCast, b1]
        refine ⟨fun _ => ⟨⟨by omega, by omega⟩, ⟨by omega, by omega⟩, fun _ => by omega⟩, rfl⟩
theorem goes_ok : PureOK Try.prog 7 [i64, i64, ints] [.bool] (fun x => (List.length (α := Int) x.2.2.1 : Int) ≤ 9223372036854775807) (fun _ => (true, ())) :=
  fn_pure (E := Z6) (n := 100) Z6_ok Try.func7 bodyL5 (LpsOK.cons (viaN_ok lGo) .nil) fun x h => goes_t x.1 x.2.1 x.2.2.1 h
end Pl
