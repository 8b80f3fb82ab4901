import Derived.Test.YtdjgbkmakjhdgaaDoorSqSpB
namespace Pl
open Go Sx Go.Proofs Go.RowKit
abbrev KsA : Nat × Sx.Spec := (15, pureSp [ints, i64] [i64] (fun _ => True) (fun x => (atS x.1 x.2.1, ())))
abbrev KsT : Nat × Sx.Spec := (13, pureSp [ints] [.str] (fun _ => True) (fun x => (txtB x.1, ())))
noncomputable abbrev M1 : Ex := mkExM Tryd.prog [KsA]
theorem M1_ok : M1.Sound := mkExM_sound ⟨pureSp_ok atS_ok, trivial⟩
theorem sbN : Tryd.f7.body = some (bodyOf Tryd.f7) := by kernel_rfl
theorem sbL : Tryd.f9.body = some (bodyOf Tryd.f9) := by kernel_rfl
theorem sbC : Tryd.f5.body = some (bodyOf Tryd.f5) := by kernel_rfl
theorem sbU : Tryd.f11.body = some (bodyOf Tryd.f11) := by kernel_rfl
theorem sbMx : Tryd.f19.body = some (bodyOf Tryd.f19) := by kernel_rfl
theorem sbMn : Tryd.f20.body = some (bodyOf Tryd.f20) := by kernel_rfl
theorem sbAw : Tryd.f4.body = some (bodyOf Tryd.f4) := by kernel_rfl
def nxF (l : List Int) (n p : Int) : Nat → Int → Int
  | 0, s => s
  | c + 1, s => if atS l ((p + s) % 16) = n then s else nxF l n p c (s + 1)
def nextS (l : List Int) (p : Int) : Int := if atS l p = -1 then 0 else nxF l (atS l p) p 16 1
structure ANx where
  l : List Int
  p : Int
  n : Int
  s : Int
def LNx : LoopC ANx where
  n0 := 1
  det st := match rowS st 0 i64, intS st 1, intS st 5, intS st 6 with | some l, some p, some n0, some i1 => some ⟨l, p, n0, i1⟩ | _, _, _, _ => none
  inv a := ⟨[(6, iv a.s), (5, iv a.n), (0, .one (.row 0)), (1, iv a.p)],
    [(0, .ro i64 a.l)], 1⟩
  ok a := 0 ≤ a.p ∧ a.p < 16 ∧ atS a.l a.p = a.n ∧ 1 ≤ a.s ∧ a.s ≤ 16
  mu a := 17 - a.s.toNat
  fin a := .leaf ⟨2, ⟨[(6, iv (nxF a.l a.n a.p (17 - a.s.toNat) a.s))], [], 1⟩⟩
theorem rNx (l : List Int) (p n s : Int) : @Eq _
  (LNx.round M1 [] 100 Tryd.f7 0 ⟨l, p, n, s⟩)
  (.req ((16 : Int) ≠ (0 : Int)) (
 .req (True) (
  .fork (Pl.atS l ((IntKind.i64.wrap (p + s)).tmod (16 : Int)) != n) (
   .req (IntKind.i64.wrap (s + (1 : Int)) = IntKind.i64.wrap (s + (1 : Int)) ∧ n = n ∧ p = p ∧ l = l) (
    .leaf (Option.some { l := l, p := p, n := n, s := IntKind.i64.wrap (s + (1 : Int)) }))) (
   .req (s = Pl.nxF l n p (17 - s.toNat) s) (
    .leaf (Option.none))))) : Tree (Option Pl.ANx)) := by kernel_rfl
theorem tNx (l : List Int) (p : Int) : @Eq _
  (fnT M1 [(0, LNx.sp)] 100 Tryd.f7 [ints, i64] [i64] (l, p, ()))
  (.req (True) (
 .fork (Pl.atS l p == (-1 : Int)) (
  .leaf (((0 : Int), ()))) (
  .req ((0 : Int) ≤ p ∧ p < (16 : Int) ∧ Pl.atS l p = Pl.atS l p ∧ (1 : Int) ≤ (1 : Int) ∧ (1 : Int) ≤ (16 : Int)) (
   .req ((1 : Int) = (1 : Int) ∧ Pl.atS l p = Pl.atS l p ∧ p = p ∧ l = l) (
    .leaf ((Pl.nxF l (Pl.atS l p) p 16 (1 : Int), ())))))) : Tree (Int × PUnit)) := by kernel_rfl
abbrev KsN : Nat × Sx.Spec := (7, pureSp [ints, i64] [i64] (fun _ => True) (fun x => (nextS x.1 x.2.1, ())))
noncomputable abbrev M2 : Ex := mkExM Tryd.prog [KsA, KsN]
def lsF (l : List Int) (nd : Int) : Nat → Nat → Int → Int
  | 0, _, out => out
  | c + 1, q, out => lsF l nd c (q + 1) (if atS l (q : Int) = -1 ∨ atS l (q : Int) ≠ nd then out else if out = 0 ∨ nextS l (q : Int) < out then nextS l (q : Int) else out)
def leastS (l : List Int) (nd : Int) : Int := lsF l nd 16 0 0
structure ALt where
  l : List Int
  nd : Int
  q : Int
  o : Int
def LLt : LoopC ALt where
  n0 := 1
  det st := match rowS st 0 i64, intS st 1, intS st 9, intS st 5 with | some l, some p, some i0, some i1 => some ⟨l, p, i0, i1⟩ | _, _, _, _ => none
  inv a := ⟨[(9, iv a.q), (5, iv a.o), (0, .one (.row 0)), (1, iv a.nd)],
    [(0, .ro i64 a.l)], 1⟩
  ok a := 0 ≤ a.q ∧ a.q ≤ 16
  mu a := 16 - a.q.toNat
  fin a := .leaf ⟨2, ⟨[(5, iv (lsF a.l a.nd (16 - a.q.toNat) a.q.toNat a.o))], [], 1⟩⟩
theorem rLt (l : List Int) (nd q o : Int) : @Eq _
  (LLt.round M2 [] 100 Tryd.f9 0 ⟨l, nd, q, o⟩)
  (.fork (decide (q < (16 : Int))) (
 .req (True) (
  .req (True) (
   .fork (Pl.atS l q == (-1 : Int) || Pl.atS l q != nd) (
    .req (IntKind.i64.wrap (q + (1 : Int)) = IntKind.i64.wrap (q + (1 : Int)) ∧ o = o ∧ nd = nd ∧ l = l) (
     .leaf (Option.some { l := l, nd := nd, q := IntKind.i64.wrap (q + (1 : Int)), o := o }))) (
    .req (True) (
     .req (True) (
      .fork (o == (0 : Int) || decide (Pl.nextS l q < o)) (
       .req (IntKind.i64.wrap (q + (1 : Int)) = IntKind.i64.wrap (q + (1 : Int)) ∧ Pl.nextS l q = Pl.nextS l q ∧ nd = nd ∧ l = l) (
        .leaf (Option.some { l := l, nd := nd, q := IntKind.i64.wrap (q + (1 : Int)), o := Pl.nextS l q }))) (
       .req (IntKind.i64.wrap (q + (1 : Int)) = IntKind.i64.wrap (q + (1 : Int)) ∧ o = o ∧ nd = nd ∧ l = l) (
        .leaf (Option.some { l := l, nd := nd, q := IntKind.i64.wrap (q + (1 : Int)), o := o }))))))))) (
 .req (o = Pl.lsF l nd (16 - q.toNat) q.toNat o) (
  .leaf (Option.none))) : Tree (Option Pl.ALt)) := by kernel_rfl
theorem tLt (l : List Int) (nd : Int) : @Eq _
  (fnT M2 [(0, LLt.sp)] 100 Tryd.f9 [ints, i64] [i64] (l, nd, ()))
  (.req ((0 : Int) ≤ (0 : Int) ∧ (0 : Int) ≤ (16 : Int)) (
 .req ((0 : Int) = (0 : Int) ∧ (0 : Int) = (0 : Int) ∧ nd = nd ∧ l = l) (
  .leaf ((Pl.lsF l nd 16 0 (0 : Int), ())))) : Tree (Int × PUnit)) := by kernel_rfl
def cnF (l : List Int) : Nat → Nat → List Int → List Int
  | 0, _, o => o
  | c + 1, q, o => cnF l c (q + 1) (if atS l (q : Int) = -1 then o else o.set (atS l (q : Int)).toNat (o.getD (atS l (q : Int)).toNat 0 + 1))
def countsS (l : List Int) : List Int := cnF l 16 0 (List.replicate 8 0)
noncomputable abbrev M4 : Ex := mkExM Tryd.prog [KsA]
theorem M4_ok : M4.Sound := mkExM_sound ⟨pureSp_ok atS_ok, trivial⟩
structure ACu where
  l : List Int
  o : List Int
  q : Int
def LCu : LoopC ACu where
  n0 := 2
  det st := match rowS st 0 i64, rowS st 3 i64, intS st 7 with | some l, some l0, some i1 => some ⟨l, l0, i1⟩ | _, _, _ => none
  inv a := ⟨[(7, iv a.q), (3, .one (.row 1)), (0, .one (.row 0))],
    [(1, .own i64 a.o), (0, .ro i64 a.l)], 2⟩
  ok a := 0 ≤ a.q ∧ a.q ≤ 16 ∧ a.o.length = 8 ∧ ∀ x ∈ a.o, 0 ≤ x ∧ x ≤ a.q
  mu a := 16 - a.q.toNat
  fin a := .leaf ⟨2, ⟨[(3, .one (.row 1))], [(1, .own i64 (cnF a.l (16 - a.q.toNat) a.q.toNat a.o))], 2⟩⟩
theorem rCu (l o : List Int) (q : Int) : @Eq _
  (LCu.round M4 [] 100 Tryd.f5 0 ⟨l, o, q⟩)
  (.fork (decide (q < (16 : Int))) (
 .req (True) (
  .fork (Pl.atS l q != (-1 : Int)) (
   .req ((0 : Int) ≤ Pl.atS l q ∧ Pl.atS l q < (↑o.length : Int)) (
    .req ((0 : Int) ≤ Pl.atS l q ∧ Pl.atS l q < (↑o.length : Int)) (
     .req ((0 : Int) ≤ Pl.atS l q ∧ Pl.atS l q < (↑o.length : Int)) (
      .req ((0 : Int) ≤ Pl.atS l q ∧ Pl.atS l q < (↑o.length : Int)) (
       .req (IntKind.i64.wrap (q + (1 : Int)) = IntKind.i64.wrap (q + (1 : Int)) ∧ o.set (Pl.atS l q).toNat (IntKind.i64.wrap (o.getD (Pl.atS l q).toNat (0 : Int) + (1 : Int))) = o.set (Pl.atS l q).toNat (IntKind.i64.wrap (o.getD (Pl.atS l q).toNat (0 : Int) + (1 : Int))) ∧ l = l) (
        .leaf (Option.some { l := l, o := o.set (Pl.atS l q).toNat (IntKind.i64.wrap (o.getD (Pl.atS l q).toNat (0 : Int) + (1 : Int))), q := IntKind.i64.wrap (q + (1 : Int)) }))))))) (
   .req (IntKind.i64.wrap (q + (1 : Int)) = IntKind.i64.wrap (q + (1 : Int)) ∧ o = o ∧ l = l) (
    .leaf (Option.some { l := l, o := o, q := IntKind.i64.wrap (q + (1 : Int)) }))))) (
 .req (o = Pl.cnF l (16 - q.toNat) q.toNat o) (
  .leaf (Option.none))) : Tree (Option Pl.ACu)) := by kernel_rfl
theorem tCu (l : List Int) : @Eq _
  (fnT M4 [(0, LCu.sp)] 100 Tryd.f5 [ints] [ints] (l, ()))
  (.req ((0 : Int) ≤ (8 : Int) ∧ (8 : Int) ≤ (8 : Int) ∧ (64 : Int) ≤ (140737488355328 : Int) ∧ (8 : Int) ≤ (140737488355328 : Int)) (
 .req ((0 : Int) ≤ (0 : Int) ∧ (0 : Int) ≤ (16 : Int) ∧ 8 = 8 ∧ ∀ (x : Int), x ∈ List.replicate 8 (0 : Int) → (0 : Int) ≤ x ∧ x ≤ (0 : Int)) (
  .req ((0 : Int) = (0 : Int) ∧ List.replicate 8 (0 : Int) = List.replicate 8 (0 : Int) ∧ l = l) (
   .leaf ((Pl.cnF l 16 0 (List.replicate 8 (0 : Int)), ()))))) : Tree (List Int × PUnit)) := by kernel_rfl
def mxF : List Int → Int → Int
  | [], v => v
  | x :: r, v => mxF r (if x > v then x else v)
def mnF : List Int → Int → Int
  | [], v => v
  | x :: r, v => mnF r (if x < v then x else v)
def maxL (l : List Int) : Int := mxF (l.drop 1) (l.getD 0 0)
def minL (l : List Int) : Int := mnF (l.drop 1) (l.getD 0 0)
structure AMx where
  l : List Int
  i : Int
  v : Int
def LMx : LoopC AMx where
  n0 := 1
  det st := match rowS st 0 i64, intS st 4, intS st 3 with | some l, some i0, some i1 => some ⟨l, i0, i1⟩ | _, _, _ => none
  inv a := ⟨[(4, iv a.i), (3, iv a.v), (0, .one (.row 0))], [(0, .ro i64 a.l)], 1⟩
  ok a := 0 ≤ a.i ∧ a.i ≤ a.l.length ∧ (a.l.length : Int) < big
  mu a := a.l.length - a.i.toNat
  fin a := .leaf ⟨2, ⟨[(3, iv (mxF (a.l.drop a.i.toNat) a.v))], [], 1⟩⟩
theorem rMx (l : List Int) (i v : Int) : @Eq _
  (LMx.round E0 [] 100 Tryd.f19 0 ⟨l, i, v⟩)
  (.fork (decide (i < (↑l.length : Int))) (
 .req ((0 : Int) ≤ i ∧ i < (↑l.length : Int)) (
  .req ((0 : Int) ≤ i ∧ i < (↑l.length : Int)) (
   .req (IntKind.i64.wrap (i + (1 : Int)) = IntKind.i64.wrap (i + (1 : Int)) ∧ ((if l.getD i.toNat (0 : Int) > v then l.getD i.toNat (0 : Int) else v) = if l.getD i.toNat (0 : Int) > v then l.getD i.toNat (0 : Int) else v) ∧ l = l) (
    .leaf (Option.some { l := l, i := IntKind.i64.wrap (i + (1 : Int)), v := if l.getD i.toNat (0 : Int) > v then l.getD i.toNat (0 : Int) else v }))))) (
 .req (v = Pl.mxF (List.drop i.toNat l) v) (
  .leaf (Option.none))) : Tree (Option Pl.AMx)) := by kernel_rfl
theorem tMx (l : List Int) : @Eq _
  (fnT E0 [(0, LMx.sp)] 100 Tryd.f19 [ints] [i64] (l, ()))
  (.fork (decide ((↑l.length : Int) < (1 : Int))) (
 .fail "an operation that is not covered") (
 .req ((0 : Int) ≤ (0 : Int) ∧ (0 : Int) < (↑l.length : Int)) (
  .req ((0 : Int) ≤ (0 : Int) ∧ (0 : Int) < (↑l.length : Int)) (
   .req ((0 : Int) ≤ (1 : Int) ∧ (1 : Int) ≤ (↑l.length : Int) ∧ (↑l.length : Int) < (4611686018427387904 : Int)) (
    .req ((1 : Int) = (1 : Int) ∧ l.getD 0 (0 : Int) = l.getD 0 (0 : Int) ∧ l = l) (
     .leaf ((Pl.mxF (List.drop 1 l) (l.getD 0 (0 : Int)), ()))))))) : Tree (Int × PUnit)) := by kernel_rfl
def LMn : LoopC AMx where
  n0 := 1
  det st := match rowS st 0 i64, intS st 4, intS st 3 with | some l, some i0, some i1 => some ⟨l, i0, i1⟩ | _, _, _ => none
  inv a := ⟨[(4, iv a.i), (3, iv a.v), (0, .one (.row 0))], [(0, .ro i64 a.l)], 1⟩
  ok a := 0 ≤ a.i ∧ a.i ≤ a.l.length ∧ (a.l.length : Int) < big
  mu a := a.l.length - a.i.toNat
  fin a := .leaf ⟨2, ⟨[(3, iv (mnF (a.l.drop a.i.toNat) a.v))], [], 1⟩⟩
theorem rMn (l : List Int) (i v : Int) : @Eq _
  (LMn.round E0 [] 100 Tryd.f20 0 ⟨l, i, v⟩)
  (.fork (decide (i < (↑l.length : Int))) (
 .req ((0 : Int) ≤ i ∧ i < (↑l.length : Int)) (
  .req ((0 : Int) ≤ i ∧ i < (↑l.length : Int)) (
   .req (IntKind.i64.wrap (i + (1 : Int)) = IntKind.i64.wrap (i + (1 : Int)) ∧ ((if l.getD i.toNat (0 : Int) < v then l.getD i.toNat (0 : Int) else v) = if l.getD i.toNat (0 : Int) < v then l.getD i.toNat (0 : Int) else v) ∧ l = l) (
    .leaf (Option.some { l := l, i := IntKind.i64.wrap (i + (1 : Int)), v := if l.getD i.toNat (0 : Int) < v then l.getD i.toNat (0 : Int) else v }))))) (
 .req (v = Pl.mnF (List.drop i.toNat l) v) (
  .leaf (Option.none))) : Tree (Option Pl.AMx)) := by kernel_rfl
theorem tMn (l : List Int) : @Eq _
  (fnT E0 [(0, LMn.sp)] 100 Tryd.f20 [ints] [i64] (l, ()))
  (.fork (decide ((↑l.length : Int) < (1 : Int))) (
 .fail "an operation that is not covered") (
 .req ((0 : Int) ≤ (0 : Int) ∧ (0 : Int) < (↑l.length : Int)) (
  .req ((0 : Int) ≤ (0 : Int) ∧ (0 : Int) < (↑l.length : Int)) (
   .req ((0 : Int) ≤ (1 : Int) ∧ (1 : Int) ≤ (↑l.length : Int) ∧ (↑l.length : Int) < (4611686018427387904 : Int)) (
    .req ((1 : Int) = (1 : Int) ∧ l.getD 0 (0 : Int) = l.getD 0 (0 : Int) ∧ l = l) (
     .leaf ((Pl.mnF (List.drop 1 l) (l.getD 0 (0 : Int)), ()))))))) : Tree (Int × PUnit)) := by kernel_rfl
def unF (m : List Int) : List Int → Int → List Int
  | [], _ => []
  | c :: r, i => if m.contains i then c :: unF m r (i + 1) else unF m r (i + 1)
def unevenS (l m : List Int) : Int := if (unF m (countsS l) 0).length = 0 then 0 else maxL (unF m (countsS l) 0) - minL (unF m (countsS l) 0)
noncomputable abbrev M5 : Ex := mkExM Tryd.prog [(5, pureSp [ints] [ints] (fun _ => True) (fun x => (countsS x.1, ()))), (18, pureSp [ints, i64] [.bool] (fun x => (List.length (α := Int) x.1 : Int) < big) (fun x => (List.contains (α := Int) x.1 x.2.1, ()))), (19, pureSp [ints] [i64] (fun x => 1 ≤ List.length (α := Int) x.1 ∧ (List.length (α := Int) x.1 : Int) < big) (fun x => (maxL x.1, ()))), (20, pureSp [ints] [i64] (fun x => 1 ≤ List.length (α := Int) x.1 ∧ (List.length (α := Int) x.1 : Int) < big) (fun x => (minL x.1, ())))]
structure AUn where
  l : List Int
  m : List Int
  i : Int
  u : List Int
def LUn : LoopC AUn where
  n0 := 3
  det st := match rowS st 9 i64, rowS st 1 i64, intS st 11, rowS st 5 i64 with | some l, some m, some i0, some l1 => some ⟨l, m, i0, l1⟩ | _, _, _, _ => none
  rows := [(3, .slot 5)]
  inv a := ⟨[(11, iv a.i), (10, iv (↑a.l.length : Int)), (9, .one (.row 2)), (5, .one (.row 3)), (1, .one (.row 1))],
    [(2, .ro i64 a.l), (1, .ro i64 a.m), (3, .own i64 a.u)], 4⟩
  ok a := 0 ≤ a.i ∧ a.i ≤ a.l.length ∧ a.l.length = 8 ∧ (a.m.length : Int) < big ∧ (a.u.length : Int) ≤ a.i
  mu a := a.l.length - a.i.toNat
  fin a := .leaf ⟨2, ⟨[(5, .one (.row 3))], [(3, .own i64 (a.u ++ unF a.m (a.l.drop a.i.toNat) a.i))], 4⟩⟩
theorem rUn (l m : List Int) (i : Int) (u : List Int) : @Eq _
  (LUn.round M5 [] 100 Tryd.f11 0 ⟨l, m, i, u⟩)
  (.fork (decide (i < (↑l.length : Int))) (
 .req ((0 : Int) ≤ i ∧ i < (↑l.length : Int)) (
  .req ((0 : Int) ≤ i ∧ i < (↑l.length : Int)) (
   .req ((↑m.length : Int) < (4611686018427387904 : Int)) (
    .fork (m.contains i) (
     .req ((u.length + 1) * 9 ≤ 70368744177664) (
      .req (IntKind.i64.wrap (i + (1 : Int)) = IntKind.i64.wrap (i + (1 : Int)) ∧ (↑l.length : Int) = (↑l.length : Int) ∧ l = l ∧ m = m ∧ u ++ [l.getD i.toNat (0 : Int)] = u ++ [l.getD i.toNat (0 : Int)]) (
       .leaf (Option.some { l := l, m := m, i := IntKind.i64.wrap (i + (1 : Int)), u := u ++ [l.getD i.toNat (0 : Int)] })))) (
     .req (IntKind.i64.wrap (i + (1 : Int)) = IntKind.i64.wrap (i + (1 : Int)) ∧ (↑l.length : Int) = (↑l.length : Int) ∧ l = l ∧ m = m ∧ u = u) (
      .leaf (Option.some { l := l, m := m, i := IntKind.i64.wrap (i + (1 : Int)), u := u }))))))) (
 .req (u = u ++ Pl.unF m (List.drop i.toNat l) i) (
  .leaf (Option.none))) : Tree (Option Pl.AUn)) := by kernel_rfl
theorem tUn (l m : List Int) : @Eq _
  (fnT M5 [(0, LUn.sp)] 100 Tryd.f11 [ints, ints] [i64] (l, m, ()))
  (.req (True) (
 .req ((0 : Int) ≤ (0 : Int) ∧ (0 : Int) ≤ (↑(Pl.countsS l).length : Int) ∧ (Pl.countsS l).length = 8 ∧ (↑m.length : Int) < (4611686018427387904 : Int) ∧ (0 : Int) ≤ (0 : Int)) (
  .req ((0 : Int) = (0 : Int) ∧ (↑(Pl.countsS l).length : Int) = (↑(Pl.countsS l).length : Int) ∧ Pl.countsS l = Pl.countsS l ∧ m = m ∧ ([] : List Int) = ([] : List Int)) (
   .fork ((↑(([] : List Int) ++ Pl.unF m (List.drop 0 (Pl.countsS l)) (0 : Int)).length : Int) == (0 : Int)) (
    .leaf (((0 : Int), ()))) (
    .req (1 ≤ (([] : List Int) ++ Pl.unF m (List.drop 0 (Pl.countsS l)) (0 : Int)).length ∧ (↑(([] : List Int) ++ Pl.unF m (List.drop 0 (Pl.countsS l)) (0 : Int)).length : Int) < (4611686018427387904 : Int)) (
     .req (1 ≤ (([] : List Int) ++ Pl.unF m (List.drop 0 (Pl.countsS l)) (0 : Int)).length ∧ (↑(([] : List Int) ++ Pl.unF m (List.drop 0 (Pl.countsS l)) (0 : Int)).length : Int) < (4611686018427387904 : Int)) (
      .leaf ((IntKind.i64.wrap (Pl.maxL (([] : List Int) ++ Pl.unF m (List.drop 0 (Pl.countsS l)) (0 : Int)) - Pl.minL (([] : List Int) ++ Pl.unF m (List.drop 0 (Pl.countsS l)) (0 : Int))), ())))))))) : Tree (Int × PUnit)) := by kernel_rfl
end Pl
