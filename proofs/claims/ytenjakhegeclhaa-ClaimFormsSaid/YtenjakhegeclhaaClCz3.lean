import Derived.Test.YtenjakhegeclhaaClCy2
namespace Pl
open Go Sx Go.Proofs Go.RowKit
abbrev KQ7 : Nat × Sx.Spec := (16, ownSp [ints, ints] [ints] (fun x => (List.length (α := Int) x.2.1 : Int) < big) (fun x => (quotaL x.1 x.2.1, ())))
noncomputable abbrev X3 : Ex := mkExM Try.prog [KPe, KR7, KQ7]
theorem X3_ok : X3.Sound := mkExM_sound ⟨pureSp_ok peers_ok, pureSp_ok r7_ok, ownSp_ok quotas7_own, trivial⟩
def fB (v : Int) (p : Nat) : List Int → Int → List Int → List Int → List Int × List Int
  | [], _, o, la => (o, la)
  | n :: r, i, o, la => if v == n && decide (la.getD i.toNat 0 > 0) then fB v p r (i + 1) (o.set p n) (la.set i.toNat (la.getD i.toNat 0 - 1)) else fB v p r (i + 1) o la
structure AZa where
  now : List Int
  o : List Int
  la : List Int
  m : List Int
  p : Int
def LZa : LoopC AZa where
  n0 := 5
  det st := match rowS st 0 i64, rowS st 7 i64, rowS st 6 i64, rowS st 5 i64, intS st 29 with | some now, some l0, some l1, some l2, some i3 => some ⟨now, l0, l1, l2, i3⟩ | _, _, _, _, _ => none
  inv a := ⟨[(29, iv a.p), (28, iv (16 : Int)), (7, .one (.row 4)), (6, .one (.row 3)), (5, .one (.row 2)), (0, .one (.row 0))],
    [(4, .own i64 a.o), (3, .own i64 a.la), (2, .ro i64 a.m), (0, .ro i64 a.now)], 5⟩
  ok a := a.o.length = 16 ∧ a.la.length = a.m.length ∧ a.m.length ≤ 8 ∧ 0 ≤ a.p ∧ a.p ≤ 16 ∧ (∀ x ∈ a.la, 0 ≤ x ∧ x ≤ 40) ∧ a.m.Nodup
  mu a := 16 - a.p.toNat
  fin a := .leaf ⟨2, ⟨[(7, .one (.row 4)), (6, .one (.row 3)), (5, .one (.row 2))],
    [(4, .own i64 (asg0 a.now a.m (16 - a.p.toNat) a.p.toNat a.o a.la).1), (3, .own i64 (asg0 a.now a.m (16 - a.p.toNat) a.p.toNat a.o a.la).2), (2, .ro i64 a.m)], 5⟩⟩
structure AZb where
  now : List Int
  m : List Int
  p : Int
  l0 : List Int
  i1 : Int
  l2 : List Int
def LZb : LoopC AZb where
  n0 := 5
  det st := match rowS st 0 i64, rowS st 35 i64, intS st 8, rowS st 7 i64, intS st 37, rowS st 6 i64 with | some now, some m, some p, some l0, some i1, some l2 => some ⟨now, m, p, l0, i1, l2⟩ | _, _, _, _, _, _ => none
  inv a := ⟨[(37, iv a.i1), (36, iv (↑a.m.length : Int)), (35, .one (.row 2)), (8, iv a.p), (29, iv a.p), (28, iv (16 : Int)), (7, .one (.row 4)), (6, .one (.row 3)), (5, .one (.row 2)), (0, .one (.row 0))],
    [(4, .own i64 a.l0), (3, .own i64 a.l2), (2, .ro i64 a.m), (0, .ro i64 a.now)], 5⟩
  ok a := a.l0.length = 16 ∧ a.l2.length = a.m.length ∧ a.m.length ≤ 8 ∧ 0 ≤ a.p ∧ a.p < 16 ∧ 0 ≤ a.i1 ∧ a.i1 ≤ a.m.length ∧ ∀ x ∈ a.l2, 0 ≤ x ∧ x ≤ 40
  mu a := a.m.length - a.i1.toNat
  fin a := .leaf ⟨4, ⟨[(29, iv a.p), (28, iv (16 : Int)), (7, .one (.row 4)), (6, .one (.row 3)), (5, .one (.row 2)), (0, .one (.row 0))], [(4, .own i64 (fB (atL a.now a.p) a.p.toNat (a.m.drop a.i1.toNat) a.i1 a.l0 a.l2).1), (3, .own i64 (fB (atL a.now a.p) a.p.toNat (a.m.drop a.i1.toNat) a.i1 a.l0 a.l2).2), (2, .ro i64 a.m), (0, .ro i64 a.now)], 5⟩⟩
theorem rZb (now m : List Int) (p : Int) (l0 : List Int) (i1 : Int) (l2 : List Int) : @Eq _
  (LZb.round X3 [] 100 Try.f18 1 ⟨now, m, p, l0, i1, l2⟩)
  (.fork (decide (i1 < (↑m.length : Int))) (
 .req ((0 : Int) ≤ i1 ∧ i1 < (↑m.length : Int)) (
  .req ((0 : Int) ≤ i1 ∧ i1 < (↑m.length : Int)) (
   .req ((0 : Int) ≤ p ∧ ((Pl.atL now p == m.getD i1.toNat (0 : Int)) = true → conjP [(0 : Int) ≤ i1 ∧ i1 < (↑l2.length : Int), (0 : Int) ≤ i1 ∧ i1 < (↑l2.length : Int)])) (
    .fork (Pl.atL now p == m.getD i1.toNat (0 : Int) && decide (l2.getD i1.toNat (0 : Int) > (0 : Int))) (
     .req ((0 : Int) ≤ p ∧ p < (↑l0.length : Int)) (
      .req ((0 : Int) ≤ p ∧ p < (↑l0.length : Int)) (
       .req ((0 : Int) ≤ i1 ∧ i1 < (↑l2.length : Int)) (
        .req ((0 : Int) ≤ i1 ∧ i1 < (↑l2.length : Int)) (
         .req ((0 : Int) ≤ i1 ∧ i1 < (↑l2.length : Int)) (
          .req ((0 : Int) ≤ i1 ∧ i1 < (↑l2.length : Int)) (
           .req (IntKind.i64.wrap (i1 + (1 : Int)) = IntKind.i64.wrap (i1 + (1 : Int)) ∧ (↑m.length : Int) = (↑m.length : Int) ∧ p = p ∧ p = p ∧ (16 : Int) = (16 : Int) ∧ l0.set p.toNat (m.getD i1.toNat (0 : Int)) = l0.set p.toNat (m.getD i1.toNat (0 : Int)) ∧ l2.set i1.toNat (IntKind.i64.wrap (l2.getD i1.toNat (0 : Int) - (1 : Int))) = l2.set i1.toNat (IntKind.i64.wrap (l2.getD i1.toNat (0 : Int) - (1 : Int))) ∧ m = m ∧ now = now) (
            .leaf (Option.some { now := now, m := m, p := p, l0 := l0.set p.toNat (m.getD i1.toNat (0 : Int)), i1 := IntKind.i64.wrap (i1 + (1 : Int)), l2 := l2.set i1.toNat (IntKind.i64.wrap (l2.getD i1.toNat (0 : Int) - (1 : Int))) }))))))))) (
     .req (IntKind.i64.wrap (i1 + (1 : Int)) = IntKind.i64.wrap (i1 + (1 : Int)) ∧ (↑m.length : Int) = (↑m.length : Int) ∧ p = p ∧ p = p ∧ (16 : Int) = (16 : Int) ∧ l0 = l0 ∧ l2 = l2 ∧ m = m ∧ now = now) (
      .leaf (Option.some { now := now, m := m, p := p, l0 := l0, i1 := IntKind.i64.wrap (i1 + (1 : Int)), l2 := l2 }))))))) (
 .req (p = p ∧ (16 : Int) = (16 : Int) ∧ l0 = (Pl.fB (Pl.atL now p) p.toNat (List.drop i1.toNat m) i1 l0 l2).1 ∧ l2 = (Pl.fB (Pl.atL now p) p.toNat (List.drop i1.toNat m) i1 l0 l2).2 ∧ m = m ∧ now = now) (
  .leaf (Option.none))) : Tree (Option Pl.AZb)) := by kernel_rfl
theorem rZa (now o la m : List Int) (p : Int) : @Eq _
  (LZa.round X3 [(1, LZb.sp)] 100 Try.f18 0 ⟨now, o, la, m, p⟩)
  (.fork (decide (p < (16 : Int))) (
 .req ((0 : Int) ≤ p ∧ p < (↑o.length : Int)) (
  .req ((0 : Int) ≤ p ∧ p < (↑o.length : Int)) (
   .req ((o.set p.toNat (-1 : Int)).length = 16 ∧ la.length = m.length ∧ m.length ≤ 8 ∧ (0 : Int) ≤ p ∧ p < (16 : Int) ∧ (0 : Int) ≤ (0 : Int) ∧ (0 : Int) ≤ (↑m.length : Int) ∧ ∀ (x : Int), x ∈ la → (0 : Int) ≤ x ∧ x ≤ (40 : Int)) (
    .req ((0 : Int) = (0 : Int) ∧ (↑m.length : Int) = (↑m.length : Int) ∧ p = p ∧ p = p ∧ (16 : Int) = (16 : Int) ∧ o.set p.toNat (-1 : Int) = o.set p.toNat (-1 : Int) ∧ la = la ∧ m = m ∧ now = now) (
     .req (IntKind.i64.wrap (p + (1 : Int)) = IntKind.i64.wrap (p + (1 : Int)) ∧ (16 : Int) = (16 : Int) ∧ (Pl.fB (Pl.atL now p) p.toNat m (0 : Int) (o.set p.toNat (-1 : Int)) la).1 = (Pl.fB (Pl.atL now p) p.toNat m (0 : Int) (o.set p.toNat (-1 : Int)) la).1 ∧ (Pl.fB (Pl.atL now p) p.toNat m (0 : Int) (o.set p.toNat (-1 : Int)) la).2 = (Pl.fB (Pl.atL now p) p.toNat m (0 : Int) (o.set p.toNat (-1 : Int)) la).2 ∧ m = m ∧ now = now) (
      .leaf (Option.some { now := now, o := (Pl.fB (Pl.atL now p) p.toNat m (0 : Int) (o.set p.toNat (-1 : Int)) la).1, la := (Pl.fB (Pl.atL now p) p.toNat m (0 : Int) (o.set p.toNat (-1 : Int)) la).2, m := m, p := IntKind.i64.wrap (p + (1 : Int)) }))))))) (
 .req (o = (Pl.asg0 now m (16 - p.toNat) p.toNat o la).1 ∧ la = (Pl.asg0 now m (16 - p.toNat) p.toNat o la).2 ∧ m = m) (
  .leaf (Option.none))) : Tree (Option Pl.AZa)) := by kernel_rfl
def bst7 (la : List Int) (ah be : Int) (ap : Bool) : List Int → Int → Int → Int
  | [], _, out => out
  | n :: r, i, out => bst7 la ah be ap r (i + 1) (if decide (la.getD i.toNat 0 > 0) && (!ap || (!(n == ah) && !(n == be))) && (decide (out < 0) || decide (la.getD i.toNat 0 > la.getD out.toNat 0)) then i else out)
def asgC (m : List Int) : Nat → Nat → List Int → List Int → List Int × List Int
  | 0, _, to, la => (to, la)
  | c + 1, p, to, la => if decide (to.getD p 0 ≥ 0) then asgC m c (p + 1) to la else asgC m c (p + 1) (to.set p (m.getD (pick m la to (p : Int)).toNat 0)) (la.set (pick m la to (p : Int)).toNat (la.getD (pick m la to (p : Int)).toNat 0 - 1))
structure AZc where
  o : List Int
  la : List Int
  m : List Int
  p : Int
def LZc : LoopC AZc where
  n0 := 5
  det st := match rowS st 7 i64, rowS st 6 i64, rowS st 5 i64, intS st 68 with | some l0, some l1, some l2, some i3 => some ⟨l0, l1, l2, i3⟩ | _, _, _, _ => none
  inv a := ⟨[(68, iv a.p), (67, iv (↑a.o.length : Int)), (7, .one (.row 4)), (6, .one (.row 3)), (5, .one (.row 2))],
    [(4, .own i64 a.o), (3, .own i64 a.la), (2, .ro i64 a.m)], 5⟩
  ok a := a.o.length = 16 ∧ a.la.length = a.m.length ∧ a.m.length ≤ 8 ∧ 0 ≤ a.p ∧ a.p ≤ 16 ∧ (∀ x ∈ a.la, 0 ≤ x ∧ x ≤ 40) ∧ (∀ x ∈ a.o.drop a.p.toNat, x = -1 ∨ 0 ≤ x) ∧ ((a.o.drop a.p.toNat).count (-1) : Int) ≤ a.la.sum
  mu a := 16 - a.p.toNat
  fin a := .leaf ⟨6, ⟨[(7, .one (.row 4))], [(4, .own i64 (asgC a.m (16 - a.p.toNat) a.p.toNat a.o a.la).1)], 5⟩⟩
structure AZe where
  o : List Int
  la : List Int
  m : List Int
  p : Int
  n0 : Int
  n1 : Int
  i2 : Int
  i3 : Int
def LZe (b : Bool) : LoopC AZe where
  n0 := 5
  det st := match rowS st 7 i64, rowS st 6 i64, rowS st 92 i64, intS st 11, intS st 13, intS st 12, intS st 94, intS st 14 with | some o, some la, some m, some p, some n0, some n1, some i2, some i3 => some ⟨o, la, m, p, n0, n1, i2, i3⟩ | _, _, _, _, _, _, _, _ => none
  inv a := ⟨[(94, iv a.i2), (93, iv (↑a.m.length : Int)), (92, .one (.row 2)), (15, .one (.cint .i64 (K7 b))), (89, .one (.cint .i64 (K7 b))), (14, iv a.i3), (13, iv a.n0), (12, iv a.n1), (11, iv a.p), (68, iv a.p), (67, iv (↑a.o.length : Int)), (7, .one (.row 4)), (6, .one (.row 3)), (5, .one (.row 2))],
    [(4, .own i64 a.o), (3, .own i64 a.la), (2, .ro i64 a.m)], 5⟩
  ok a := a.la.length = a.m.length ∧ a.m.length ≤ 8 ∧ 0 ≤ a.i2 ∧ a.i2 ≤ a.m.length ∧ -1 ≤ a.i3 ∧ a.i3 < a.m.length
  mu a := a.m.length - a.i2.toNat
  fin a := .leaf ⟨10, ⟨[(89, .one (.cint .i64 (K7 b))), (14, iv (bst7 a.la a.n1 a.n0 b (a.m.drop a.i2.toNat) a.i2 a.i3)), (13, iv a.n0), (12, iv a.n1), (11, iv a.p), (68, iv a.p), (67, iv (↑a.o.length : Int)), (7, .one (.row 4)), (6, .one (.row 3)), (5, .one (.row 2))], [(4, .own i64 a.o), (3, .own i64 a.la), (2, .ro i64 a.m)], 5⟩⟩
noncomputable def spZe : St → Tree Out := fun st => match Sx.look st.slots 89 with | some (.one (.cint _ n)) => (if n = 0 then (LZe true).sp st else (LZe false).sp st) | _ => .fail "round"
theorem rZet (o la m : List Int) (p n0 n1 i2 i3 : Int) : @Eq _
  ((LZe true).round X3 [] 100 Try.f18 4 ⟨o, la, m, p, n0, n1, i2, i3⟩)
  (.fork (decide (i2 < (↑m.length : Int))) (
 .req ((0 : Int) ≤ i2 ∧ i2 < (↑m.length : Int)) (
  .req ((0 : Int) ≤ i2 ∧ i2 < (↑m.length : Int)) (
   .req (((0 : Int) ≤ i2 ∧ i2 < (↑la.length : Int)) ∧ ((0 : Int) ≤ i2 ∧ i2 < (↑la.length : Int)) ∧ (decide (la.getD i2.toNat (0 : Int) > (0 : Int)) = true → conjP (((m.getD i2.toNat (0 : Int) != n1) = true → conjP (((m.getD i2.toNat (0 : Int) != n0) = true → conjP [decide (i3 < (0 : Int)) = false → conjP [(0 : Int) ≤ i2 ∧ i2 < (↑la.length : Int), (0 : Int) ≤ i2 ∧ i2 < (↑la.length : Int), (0 : Int) ≤ i3 ∧ i3 < (↑la.length : Int), (0 : Int) ≤ i3 ∧ i3 < (↑la.length : Int)]]) :: ([] : List Prop))) :: ([] : List Prop)))) (
    .fork (decide (la.getD i2.toNat (0 : Int) > (0 : Int)) && (m.getD i2.toNat (0 : Int) != n1 && (m.getD i2.toNat (0 : Int) != n0 && (decide (i3 < (0 : Int)) || decide (la.getD i2.toNat (0 : Int) > la.getD i3.toNat (0 : Int)))))) (
     .req (IntKind.i64.wrap (i2 + (1 : Int)) = IntKind.i64.wrap (i2 + (1 : Int)) ∧ (↑m.length : Int) = (↑m.length : Int) ∧ i2 = i2 ∧ n0 = n0 ∧ n1 = n1 ∧ p = p ∧ p = p ∧ (↑o.length : Int) = (↑o.length : Int) ∧ o = o ∧ la = la ∧ m = m) (
      .leaf (Option.some { o := o, la := la, m := m, p := p, n0 := n0, n1 := n1, i2 := IntKind.i64.wrap (i2 + (1 : Int)), i3 := i2 }))) (
     .req (IntKind.i64.wrap (i2 + (1 : Int)) = IntKind.i64.wrap (i2 + (1 : Int)) ∧ (↑m.length : Int) = (↑m.length : Int) ∧ i3 = i3 ∧ n0 = n0 ∧ n1 = n1 ∧ p = p ∧ p = p ∧ (↑o.length : Int) = (↑o.length : Int) ∧ o = o ∧ la = la ∧ m = m) (
      .leaf (Option.some { o := o, la := la, m := m, p := p, n0 := n0, n1 := n1, i2 := IntKind.i64.wrap (i2 + (1 : Int)), i3 := i3 }))))))) (
 .req (i3 = Pl.bst7 la n1 n0 true (List.drop i2.toNat m) i2 i3 ∧ n0 = n0 ∧ n1 = n1 ∧ p = p ∧ p = p ∧ (↑o.length : Int) = (↑o.length : Int) ∧ o = o ∧ la = la ∧ m = m) (
  .leaf (Option.none))) : Tree (Option Pl.AZe)) := by kernel_rfl
theorem rZef (o la m : List Int) (p n0 n1 i2 i3 : Int) : @Eq _
  ((LZe false).round X3 [] 100 Try.f18 4 ⟨o, la, m, p, n0, n1, i2, i3⟩)
  (.fork (decide (i2 < (↑m.length : Int))) (
 .req ((0 : Int) ≤ i2 ∧ i2 < (↑m.length : Int)) (
  .req ((0 : Int) ≤ i2 ∧ i2 < (↑m.length : Int)) (
   .req (((0 : Int) ≤ i2 ∧ i2 < (↑la.length : Int)) ∧ ((0 : Int) ≤ i2 ∧ i2 < (↑la.length : Int)) ∧ (decide (la.getD i2.toNat (0 : Int) > (0 : Int)) = true → conjP [decide (i3 < (0 : Int)) = false → conjP [(0 : Int) ≤ i2 ∧ i2 < (↑la.length : Int), (0 : Int) ≤ i2 ∧ i2 < (↑la.length : Int), (0 : Int) ≤ i3 ∧ i3 < (↑la.length : Int), (0 : Int) ≤ i3 ∧ i3 < (↑la.length : Int)]])) (
    .fork (decide (la.getD i2.toNat (0 : Int) > (0 : Int)) && (decide (i3 < (0 : Int)) || decide (la.getD i2.toNat (0 : Int) > la.getD i3.toNat (0 : Int)))) (
     .req (IntKind.i64.wrap (i2 + (1 : Int)) = IntKind.i64.wrap (i2 + (1 : Int)) ∧ (↑m.length : Int) = (↑m.length : Int) ∧ i2 = i2 ∧ n0 = n0 ∧ n1 = n1 ∧ p = p ∧ p = p ∧ (↑o.length : Int) = (↑o.length : Int) ∧ o = o ∧ la = la ∧ m = m) (
      .leaf (Option.some { o := o, la := la, m := m, p := p, n0 := n0, n1 := n1, i2 := IntKind.i64.wrap (i2 + (1 : Int)), i3 := i2 }))) (
     .req (IntKind.i64.wrap (i2 + (1 : Int)) = IntKind.i64.wrap (i2 + (1 : Int)) ∧ (↑m.length : Int) = (↑m.length : Int) ∧ i3 = i3 ∧ n0 = n0 ∧ n1 = n1 ∧ p = p ∧ p = p ∧ (↑o.length : Int) = (↑o.length : Int) ∧ o = o ∧ la = la ∧ m = m) (
      .leaf (Option.some { o := o, la := la, m := m, p := p, n0 := n0, n1 := n1, i2 := IntKind.i64.wrap (i2 + (1 : Int)), i3 := i3 }))))))) (
 .req (i3 = Pl.bst7 la n1 n0 false (List.drop i2.toNat m) i2 i3 ∧ n0 = n0 ∧ n1 = n1 ∧ p = p ∧ p = p ∧ (↑o.length : Int) = (↑o.length : Int) ∧ o = o ∧ la = la ∧ m = m) (
  .leaf (Option.none))) : Tree (Option Pl.AZe)) := by kernel_rfl
theorem rZc (o la m : List Int) (p : Int) : @Eq _
  (LZc.round X3 [(4, spZe)] 100 Try.f18 2 ⟨o, la, m, p⟩)
  (.fork (decide (p < (↑o.length : Int))) (
 .req ((0 : Int) ≤ p ∧ p < (↑o.length : Int)) (
  .req ((0 : Int) ≤ p ∧ p < (↑o.length : Int)) (
   .fork (decide (o.getD p.toNat (0 : Int) ≥ (0 : Int))) (
    .req (IntKind.i64.wrap (p + (1 : Int)) = IntKind.i64.wrap (p + (1 : Int)) ∧ (↑o.length : Int) = (↑o.length : Int) ∧ o = o ∧ la = la ∧ m = m) (
     .leaf (Option.some { o := o, la := la, m := m, p := IntKind.i64.wrap (p + (1 : Int)) }))) (
    .req ((16 : Int) ≠ (0 : Int)) (
     .req ((0 : Int) ≤ (IntKind.i64.wrap (IntKind.i64.wrap (p + (16 : Int)) - (1 : Int))).tmod (16 : Int) ∧ (IntKind.i64.wrap (IntKind.i64.wrap (p + (16 : Int)) - (1 : Int))).tmod (16 : Int) < (↑o.length : Int)) (
      .req ((0 : Int) ≤ (IntKind.i64.wrap (IntKind.i64.wrap (p + (16 : Int)) - (1 : Int))).tmod (16 : Int) ∧ (IntKind.i64.wrap (IntKind.i64.wrap (p + (16 : Int)) - (1 : Int))).tmod (16 : Int) < (↑o.length : Int)) (
       .req ((16 : Int) ≠ (0 : Int)) (
        .req ((0 : Int) ≤ (IntKind.i64.wrap (p + (1 : Int))).tmod (16 : Int) ∧ (IntKind.i64.wrap (p + (1 : Int))).tmod (16 : Int) < (↑o.length : Int)) (
         .req ((0 : Int) ≤ (IntKind.i64.wrap (p + (1 : Int))).tmod (16 : Int) ∧ (IntKind.i64.wrap (p + (1 : Int))).tmod (16 : Int) < (↑o.length : Int)) (
          .req (la.length = m.length ∧ m.length ≤ 8 ∧ (0 : Int) ≤ (0 : Int) ∧ (0 : Int) ≤ (↑m.length : Int) ∧ (-1 : Int) ≤ (-1 : Int) ∧ (-1 : Int) < (↑m.length : Int)) (
           .req ((0 : Int) = (0 : Int) ∧ (↑m.length : Int) = (↑m.length : Int) ∧ (-1 : Int) = (-1 : Int) ∧ o.getD ((IntKind.i64.wrap (p + (1 : Int))).tmod (16 : Int)).toNat (0 : Int) = o.getD ((IntKind.i64.wrap (p + (1 : Int))).tmod (16 : Int)).toNat (0 : Int) ∧ o.getD ((IntKind.i64.wrap (IntKind.i64.wrap (p + (16 : Int)) - (1 : Int))).tmod (16 : Int)).toNat (0 : Int) = o.getD ((IntKind.i64.wrap (IntKind.i64.wrap (p + (16 : Int)) - (1 : Int))).tmod (16 : Int)).toNat (0 : Int) ∧ p = p ∧ p = p ∧ (↑o.length : Int) = (↑o.length : Int) ∧ o = o ∧ la = la ∧ m = m) (
            .fork (decide (Pl.bst7 la (o.getD ((IntKind.i64.wrap (IntKind.i64.wrap (p + (16 : Int)) - (1 : Int))).tmod (16 : Int)).toNat (0 : Int)) (o.getD ((IntKind.i64.wrap (p + (1 : Int))).tmod (16 : Int)).toNat (0 : Int)) true m (0 : Int) (-1 : Int) ≥ (0 : Int))) (
             .req ((0 : Int) ≤ Pl.bst7 la (o.getD ((IntKind.i64.wrap (IntKind.i64.wrap (p + (16 : Int)) - (1 : Int))).tmod (16 : Int)).toNat (0 : Int)) (o.getD ((IntKind.i64.wrap (p + (1 : Int))).tmod (16 : Int)).toNat (0 : Int)) true m (0 : Int) (-1 : Int) ∧ Pl.bst7 la (o.getD ((IntKind.i64.wrap (IntKind.i64.wrap (p + (16 : Int)) - (1 : Int))).tmod (16 : Int)).toNat (0 : Int)) (o.getD ((IntKind.i64.wrap (p + (1 : Int))).tmod (16 : Int)).toNat (0 : Int)) true m (0 : Int) (-1 : Int) < (↑m.length : Int)) (
              .req ((0 : Int) ≤ Pl.bst7 la (o.getD ((IntKind.i64.wrap (IntKind.i64.wrap (p + (16 : Int)) - (1 : Int))).tmod (16 : Int)).toNat (0 : Int)) (o.getD ((IntKind.i64.wrap (p + (1 : Int))).tmod (16 : Int)).toNat (0 : Int)) true m (0 : Int) (-1 : Int) ∧ Pl.bst7 la (o.getD ((IntKind.i64.wrap (IntKind.i64.wrap (p + (16 : Int)) - (1 : Int))).tmod (16 : Int)).toNat (0 : Int)) (o.getD ((IntKind.i64.wrap (p + (1 : Int))).tmod (16 : Int)).toNat (0 : Int)) true m (0 : Int) (-1 : Int) < (↑m.length : Int)) (
               .req ((0 : Int) ≤ p ∧ p < (↑o.length : Int)) (
                .req ((0 : Int) ≤ p ∧ p < (↑o.length : Int)) (
                 .req ((0 : Int) ≤ Pl.bst7 la (o.getD ((IntKind.i64.wrap (IntKind.i64.wrap (p + (16 : Int)) - (1 : Int))).tmod (16 : Int)).toNat (0 : Int)) (o.getD ((IntKind.i64.wrap (p + (1 : Int))).tmod (16 : Int)).toNat (0 : Int)) true m (0 : Int) (-1 : Int) ∧ Pl.bst7 la (o.getD ((IntKind.i64.wrap (IntKind.i64.wrap (p + (16 : Int)) - (1 : Int))).tmod (16 : Int)).toNat (0 : Int)) (o.getD ((IntKind.i64.wrap (p + (1 : Int))).tmod (16 : Int)).toNat (0 : Int)) true m (0 : Int) (-1 : Int) < (↑la.length : Int)) (
                  .req ((0 : Int) ≤ Pl.bst7 la (o.getD ((IntKind.i64.wrap (IntKind.i64.wrap (p + (16 : Int)) - (1 : Int))).tmod (16 : Int)).toNat (0 : Int)) (o.getD ((IntKind.i64.wrap (p + (1 : Int))).tmod (16 : Int)).toNat (0 : Int)) true m (0 : Int) (-1 : Int) ∧ Pl.bst7 la (o.getD ((IntKind.i64.wrap (IntKind.i64.wrap (p + (16 : Int)) - (1 : Int))).tmod (16 : Int)).toNat (0 : Int)) (o.getD ((IntKind.i64.wrap (p + (1 : Int))).tmod (16 : Int)).toNat (0 : Int)) true m (0 : Int) (-1 : Int) < (↑la.length : Int)) (
                   .req ((0 : Int) ≤ Pl.bst7 la (o.getD ((IntKind.i64.wrap (IntKind.i64.wrap (p + (16 : Int)) - (1 : Int))).tmod (16 : Int)).toNat (0 : Int)) (o.getD ((IntKind.i64.wrap (p + (1 : Int))).tmod (16 : Int)).toNat (0 : Int)) true m (0 : Int) (-1 : Int) ∧ Pl.bst7 la (o.getD ((IntKind.i64.wrap (IntKind.i64.wrap (p + (16 : Int)) - (1 : Int))).tmod (16 : Int)).toNat (0 : Int)) (o.getD ((IntKind.i64.wrap (p + (1 : Int))).tmod (16 : Int)).toNat (0 : Int)) true m (0 : Int) (-1 : Int) < (↑la.length : Int)) (
                    .req ((0 : Int) ≤ Pl.bst7 la (o.getD ((IntKind.i64.wrap (IntKind.i64.wrap (p + (16 : Int)) - (1 : Int))).tmod (16 : Int)).toNat (0 : Int)) (o.getD ((IntKind.i64.wrap (p + (1 : Int))).tmod (16 : Int)).toNat (0 : Int)) true m (0 : Int) (-1 : Int) ∧ Pl.bst7 la (o.getD ((IntKind.i64.wrap (IntKind.i64.wrap (p + (16 : Int)) - (1 : Int))).tmod (16 : Int)).toNat (0 : Int)) (o.getD ((IntKind.i64.wrap (p + (1 : Int))).tmod (16 : Int)).toNat (0 : Int)) true m (0 : Int) (-1 : Int) < (↑la.length : Int)) (
                     .req (IntKind.i64.wrap (p + (1 : Int)) = IntKind.i64.wrap (p + (1 : Int)) ∧ (↑o.length : Int) = (↑(o.set p.toNat (m.getD (Pl.bst7 la (o.getD ((IntKind.i64.wrap (IntKind.i64.wrap (p + (16 : Int)) - (1 : Int))).tmod (16 : Int)).toNat (0 : Int)) (o.getD ((IntKind.i64.wrap (p + (1 : Int))).tmod (16 : Int)).toNat (0 : Int)) true m (0 : Int) (-1 : Int)).toNat (0 : Int))).length : Int) ∧ o.set p.toNat (m.getD (Pl.bst7 la (o.getD ((IntKind.i64.wrap (IntKind.i64.wrap (p + (16 : Int)) - (1 : Int))).tmod (16 : Int)).toNat (0 : Int)) (o.getD ((IntKind.i64.wrap (p + (1 : Int))).tmod (16 : Int)).toNat (0 : Int)) true m (0 : Int) (-1 : Int)).toNat (0 : Int)) = o.set p.toNat (m.getD (Pl.bst7 la (o.getD ((IntKind.i64.wrap (IntKind.i64.wrap (p + (16 : Int)) - (1 : Int))).tmod (16 : Int)).toNat (0 : Int)) (o.getD ((IntKind.i64.wrap (p + (1 : Int))).tmod (16 : Int)).toNat (0 : Int)) true m (0 : Int) (-1 : Int)).toNat (0 : Int)) ∧ la.set (Pl.bst7 la (o.getD ((IntKind.i64.wrap (IntKind.i64.wrap (p + (16 : Int)) - (1 : Int))).tmod (16 : Int)).toNat (0 : Int)) (o.getD ((IntKind.i64.wrap (p + (1 : Int))).tmod (16 : Int)).toNat (0 : Int)) true m (0 : Int) (-1 : Int)).toNat (IntKind.i64.wrap (la.getD (Pl.bst7 la (o.getD ((IntKind.i64.wrap (IntKind.i64.wrap (p + (16 : Int)) - (1 : Int))).tmod (16 : Int)).toNat (0 : Int)) (o.getD ((IntKind.i64.wrap (p + (1 : Int))).tmod (16 : Int)).toNat (0 : Int)) true m (0 : Int) (-1 : Int)).toNat (0 : Int) - (1 : Int))) = la.set (Pl.bst7 la (o.getD ((IntKind.i64.wrap (IntKind.i64.wrap (p + (16 : Int)) - (1 : Int))).tmod (16 : Int)).toNat (0 : Int)) (o.getD ((IntKind.i64.wrap (p + (1 : Int))).tmod (16 : Int)).toNat (0 : Int)) true m (0 : Int) (-1 : Int)).toNat (IntKind.i64.wrap (la.getD (Pl.bst7 la (o.getD ((IntKind.i64.wrap (IntKind.i64.wrap (p + (16 : Int)) - (1 : Int))).tmod (16 : Int)).toNat (0 : Int)) (o.getD ((IntKind.i64.wrap (p + (1 : Int))).tmod (16 : Int)).toNat (0 : Int)) true m (0 : Int) (-1 : Int)).toNat (0 : Int) - (1 : Int))) ∧ m = m) (
                      .leaf (Option.some { o := o.set p.toNat (m.getD (Pl.bst7 la (o.getD ((IntKind.i64.wrap (IntKind.i64.wrap (p + (16 : Int)) - (1 : Int))).tmod (16 : Int)).toNat (0 : Int)) (o.getD ((IntKind.i64.wrap (p + (1 : Int))).tmod (16 : Int)).toNat (0 : Int)) true m (0 : Int) (-1 : Int)).toNat (0 : Int)), la := la.set (Pl.bst7 la (o.getD ((IntKind.i64.wrap (IntKind.i64.wrap (p + (16 : Int)) - (1 : Int))).tmod (16 : Int)).toNat (0 : Int)) (o.getD ((IntKind.i64.wrap (p + (1 : Int))).tmod (16 : Int)).toNat (0 : Int)) true m (0 : Int) (-1 : Int)).toNat (IntKind.i64.wrap (la.getD (Pl.bst7 la (o.getD ((IntKind.i64.wrap (IntKind.i64.wrap (p + (16 : Int)) - (1 : Int))).tmod (16 : Int)).toNat (0 : Int)) (o.getD ((IntKind.i64.wrap (p + (1 : Int))).tmod (16 : Int)).toNat (0 : Int)) true m (0 : Int) (-1 : Int)).toNat (0 : Int) - (1 : Int))), m := m, p := IntKind.i64.wrap (p + (1 : Int)) }))))))))))) (
             .req (la.length = m.length ∧ m.length ≤ 8 ∧ (0 : Int) ≤ (0 : Int) ∧ (0 : Int) ≤ (↑m.length : Int) ∧ (-1 : Int) ≤ Pl.bst7 la (o.getD ((IntKind.i64.wrap (IntKind.i64.wrap (p + (16 : Int)) - (1 : Int))).tmod (16 : Int)).toNat (0 : Int)) (o.getD ((IntKind.i64.wrap (p + (1 : Int))).tmod (16 : Int)).toNat (0 : Int)) true m (0 : Int) (-1 : Int) ∧ Pl.bst7 la (o.getD ((IntKind.i64.wrap (IntKind.i64.wrap (p + (16 : Int)) - (1 : Int))).tmod (16 : Int)).toNat (0 : Int)) (o.getD ((IntKind.i64.wrap (p + (1 : Int))).tmod (16 : Int)).toNat (0 : Int)) true m (0 : Int) (-1 : Int) < (↑m.length : Int)) (
              .req ((0 : Int) = (0 : Int) ∧ (↑m.length : Int) = (↑m.length : Int) ∧ Pl.bst7 la (o.getD ((IntKind.i64.wrap (IntKind.i64.wrap (p + (16 : Int)) - (1 : Int))).tmod (16 : Int)).toNat (0 : Int)) (o.getD ((IntKind.i64.wrap (p + (1 : Int))).tmod (16 : Int)).toNat (0 : Int)) true m (0 : Int) (-1 : Int) = Pl.bst7 la (o.getD ((IntKind.i64.wrap (IntKind.i64.wrap (p + (16 : Int)) - (1 : Int))).tmod (16 : Int)).toNat (0 : Int)) (o.getD ((IntKind.i64.wrap (p + (1 : Int))).tmod (16 : Int)).toNat (0 : Int)) true m (0 : Int) (-1 : Int) ∧ o.getD ((IntKind.i64.wrap (p + (1 : Int))).tmod (16 : Int)).toNat (0 : Int) = o.getD ((IntKind.i64.wrap (p + (1 : Int))).tmod (16 : Int)).toNat (0 : Int) ∧ o.getD ((IntKind.i64.wrap (IntKind.i64.wrap (p + (16 : Int)) - (1 : Int))).tmod (16 : Int)).toNat (0 : Int) = o.getD ((IntKind.i64.wrap (IntKind.i64.wrap (p + (16 : Int)) - (1 : Int))).tmod (16 : Int)).toNat (0 : Int) ∧ p = p ∧ p = p ∧ (↑o.length : Int) = (↑o.length : Int) ∧ o = o ∧ la = la ∧ m = m) (
               .fork (decide (Pl.bst7 la (o.getD ((IntKind.i64.wrap (IntKind.i64.wrap (p + (16 : Int)) - (1 : Int))).tmod (16 : Int)).toNat (0 : Int)) (o.getD ((IntKind.i64.wrap (p + (1 : Int))).tmod (16 : Int)).toNat (0 : Int)) false m (0 : Int) (Pl.bst7 la (o.getD ((IntKind.i64.wrap (IntKind.i64.wrap (p + (16 : Int)) - (1 : Int))).tmod (16 : Int)).toNat (0 : Int)) (o.getD ((IntKind.i64.wrap (p + (1 : Int))).tmod (16 : Int)).toNat (0 : Int)) true m (0 : Int) (-1 : Int)) ≥ (0 : Int))) (
                .req ((0 : Int) ≤ Pl.bst7 la (o.getD ((IntKind.i64.wrap (IntKind.i64.wrap (p + (16 : Int)) - (1 : Int))).tmod (16 : Int)).toNat (0 : Int)) (o.getD ((IntKind.i64.wrap (p + (1 : Int))).tmod (16 : Int)).toNat (0 : Int)) false m (0 : Int) (Pl.bst7 la (o.getD ((IntKind.i64.wrap (IntKind.i64.wrap (p + (16 : Int)) - (1 : Int))).tmod (16 : Int)).toNat (0 : Int)) (o.getD ((IntKind.i64.wrap (p + (1 : Int))).tmod (16 : Int)).toNat (0 : Int)) true m (0 : Int) (-1 : Int)) ∧ Pl.bst7 la (o.getD ((IntKind.i64.wrap (IntKind.i64.wrap (p + (16 : Int)) - (1 : Int))).tmod (16 : Int)).toNat (0 : Int)) (o.getD ((IntKind.i64.wrap (p + (1 : Int))).tmod (16 : Int)).toNat (0 : Int)) false m (0 : Int) (Pl.bst7 la (o.getD ((IntKind.i64.wrap (IntKind.i64.wrap (p + (16 : Int)) - (1 : Int))).tmod (16 : Int)).toNat (0 : Int)) (o.getD ((IntKind.i64.wrap (p + (1 : Int))).tmod (16 : Int)).toNat (0 : Int)) true m (0 : Int) (-1 : Int)) < (↑m.length : Int)) (
                 .req ((0 : Int) ≤ Pl.bst7 la (o.getD ((IntKind.i64.wrap (IntKind.i64.wrap (p + (16 : Int)) - (1 : Int))).tmod (16 : Int)).toNat (0 : Int)) (o.getD ((IntKind.i64.wrap (p + (1 : Int))).tmod (16 : Int)).toNat (0 : Int)) false m (0 : Int) (Pl.bst7 la (o.getD ((IntKind.i64.wrap (IntKind.i64.wrap (p + (16 : Int)) - (1 : Int))).tmod (16 : Int)).toNat (0 : Int)) (o.getD ((IntKind.i64.wrap (p + (1 : Int))).tmod (16 : Int)).toNat (0 : Int)) true m (0 : Int) (-1 : Int)) ∧ Pl.bst7 la (o.getD ((IntKind.i64.wrap (IntKind.i64.wrap (p + (16 : Int)) - (1 : Int))).tmod (16 : Int)).toNat (0 : Int)) (o.getD ((IntKind.i64.wrap (p + (1 : Int))).tmod (16 : Int)).toNat (0 : Int)) false m (0 : Int) (Pl.bst7 la (o.getD ((IntKind.i64.wrap (IntKind.i64.wrap (p + (16 : Int)) - (1 : Int))).tmod (16 : Int)).toNat (0 : Int)) (o.getD ((IntKind.i64.wrap (p + (1 : Int))).tmod (16 : Int)).toNat (0 : Int)) true m (0 : Int) (-1 : Int)) < (↑m.length : Int)) (
                  .req ((0 : Int) ≤ p ∧ p < (↑o.length : Int)) (
                   .req ((0 : Int) ≤ p ∧ p < (↑o.length : Int)) (
                    .req ((0 : Int) ≤ Pl.bst7 la (o.getD ((IntKind.i64.wrap (IntKind.i64.wrap (p + (16 : Int)) - (1 : Int))).tmod (16 : Int)).toNat (0 : Int)) (o.getD ((IntKind.i64.wrap (p + (1 : Int))).tmod (16 : Int)).toNat (0 : Int)) false m (0 : Int) (Pl.bst7 la (o.getD ((IntKind.i64.wrap (IntKind.i64.wrap (p + (16 : Int)) - (1 : Int))).tmod (16 : Int)).toNat (0 : Int)) (o.getD ((IntKind.i64.wrap (p + (1 : Int))).tmod (16 : Int)).toNat (0 : Int)) true m (0 : Int) (-1 : Int)) ∧ Pl.bst7 la (o.getD ((IntKind.i64.wrap (IntKind.i64.wrap (p + (16 : Int)) - (1 : Int))).tmod (16 : Int)).toNat (0 : Int)) (o.getD ((IntKind.i64.wrap (p + (1 : Int))).tmod (16 : Int)).toNat (0 : Int)) false m (0 : Int) (Pl.bst7 la (o.getD ((IntKind.i64.wrap (IntKind.i64.wrap (p + (16 : Int)) - (1 : Int))).tmod (16 : Int)).toNat (0 : Int)) (o.getD ((IntKind.i64.wrap (p + (1 : Int))).tmod (16 : Int)).toNat (0 : Int)) true m (0 : Int) (-1 : Int)) < (↑la.length : Int)) (
                     .req ((0 : Int) ≤ Pl.bst7 la (o.getD ((IntKind.i64.wrap (IntKind.i64.wrap (p + (16 : Int)) - (1 : Int))).tmod (16 : Int)).toNat (0 : Int)) (o.getD ((IntKind.i64.wrap (p + (1 : Int))).tmod (16 : Int)).toNat (0 : Int)) false m (0 : Int) (Pl.bst7 la (o.getD ((IntKind.i64.wrap (IntKind.i64.wrap (p + (16 : Int)) - (1 : Int))).tmod (16 : Int)).toNat (0 : Int)) (o.getD ((IntKind.i64.wrap (p + (1 : Int))).tmod (16 : Int)).toNat (0 : Int)) true m (0 : Int) (-1 : Int)) ∧ Pl.bst7 la (o.getD ((IntKind.i64.wrap (IntKind.i64.wrap (p + (16 : Int)) - (1 : Int))).tmod (16 : Int)).toNat (0 : Int)) (o.getD ((IntKind.i64.wrap (p + (1 : Int))).tmod (16 : Int)).toNat (0 : Int)) false m (0 : Int) (Pl.bst7 la (o.getD ((IntKind.i64.wrap (IntKind.i64.wrap (p + (16 : Int)) - (1 : Int))).tmod (16 : Int)).toNat (0 : Int)) (o.getD ((IntKind.i64.wrap (p + (1 : Int))).tmod (16 : Int)).toNat (0 : Int)) true m (0 : Int) (-1 : Int)) < (↑la.length : Int)) (
                      .req ((0 : Int) ≤ Pl.bst7 la (o.getD ((IntKind.i64.wrap (IntKind.i64.wrap (p + (16 : Int)) - (1 : Int))).tmod (16 : Int)).toNat (0 : Int)) (o.getD ((IntKind.i64.wrap (p + (1 : Int))).tmod (16 : Int)).toNat (0 : Int)) false m (0 : Int) (Pl.bst7 la (o.getD ((IntKind.i64.wrap (IntKind.i64.wrap (p + (16 : Int)) - (1 : Int))).tmod (16 : Int)).toNat (0 : Int)) (o.getD ((IntKind.i64.wrap (p + (1 : Int))).tmod (16 : Int)).toNat (0 : Int)) true m (0 : Int) (-1 : Int)) ∧ Pl.bst7 la (o.getD ((IntKind.i64.wrap (IntKind.i64.wrap (p + (16 : Int)) - (1 : Int))).tmod (16 : Int)).toNat (0 : Int)) (o.getD ((IntKind.i64.wrap (p + (1 : Int))).tmod (16 : Int)).toNat (0 : Int)) false m (0 : Int) (Pl.bst7 la (o.getD ((IntKind.i64.wrap (IntKind.i64.wrap (p + (16 : Int)) - (1 : Int))).tmod (16 : Int)).toNat (0 : Int)) (o.getD ((IntKind.i64.wrap (p + (1 : Int))).tmod (16 : Int)).toNat (0 : Int)) true m (0 : Int) (-1 : Int)) < (↑la.length : Int)) (
                       .req ((0 : Int) ≤ Pl.bst7 la (o.getD ((IntKind.i64.wrap (IntKind.i64.wrap (p + (16 : Int)) - (1 : Int))).tmod (16 : Int)).toNat (0 : Int)) (o.getD ((IntKind.i64.wrap (p + (1 : Int))).tmod (16 : Int)).toNat (0 : Int)) false m (0 : Int) (Pl.bst7 la (o.getD ((IntKind.i64.wrap (IntKind.i64.wrap (p + (16 : Int)) - (1 : Int))).tmod (16 : Int)).toNat (0 : Int)) (o.getD ((IntKind.i64.wrap (p + (1 : Int))).tmod (16 : Int)).toNat (0 : Int)) true m (0 : Int) (-1 : Int)) ∧ Pl.bst7 la (o.getD ((IntKind.i64.wrap (IntKind.i64.wrap (p + (16 : Int)) - (1 : Int))).tmod (16 : Int)).toNat (0 : Int)) (o.getD ((IntKind.i64.wrap (p + (1 : Int))).tmod (16 : Int)).toNat (0 : Int)) false m (0 : Int) (Pl.bst7 la (o.getD ((IntKind.i64.wrap (IntKind.i64.wrap (p + (16 : Int)) - (1 : Int))).tmod (16 : Int)).toNat (0 : Int)) (o.getD ((IntKind.i64.wrap (p + (1 : Int))).tmod (16 : Int)).toNat (0 : Int)) true m (0 : Int) (-1 : Int)) < (↑la.length : Int)) (
                        .req (IntKind.i64.wrap (p + (1 : Int)) = IntKind.i64.wrap (p + (1 : Int)) ∧ (↑o.length : Int) = (↑(o.set p.toNat (m.getD (Pl.bst7 la (o.getD ((IntKind.i64.wrap (IntKind.i64.wrap (p + (16 : Int)) - (1 : Int))).tmod (16 : Int)).toNat (0 : Int)) (o.getD ((IntKind.i64.wrap (p + (1 : Int))).tmod (16 : Int)).toNat (0 : Int)) false m (0 : Int) (Pl.bst7 la (o.getD ((IntKind.i64.wrap (IntKind.i64.wrap (p + (16 : Int)) - (1 : Int))).tmod (16 : Int)).toNat (0 : Int)) (o.getD ((IntKind.i64.wrap (p + (1 : Int))).tmod (16 : Int)).toNat (0 : Int)) true m (0 : Int) (-1 : Int))).toNat (0 : Int))).length : Int) ∧ o.set p.toNat (m.getD (Pl.bst7 la (o.getD ((IntKind.i64.wrap (IntKind.i64.wrap (p + (16 : Int)) - (1 : Int))).tmod (16 : Int)).toNat (0 : Int)) (o.getD ((IntKind.i64.wrap (p + (1 : Int))).tmod (16 : Int)).toNat (0 : Int)) false m (0 : Int) (Pl.bst7 la (o.getD ((IntKind.i64.wrap (IntKind.i64.wrap (p + (16 : Int)) - (1 : Int))).tmod (16 : Int)).toNat (0 : Int)) (o.getD ((IntKind.i64.wrap (p + (1 : Int))).tmod (16 : Int)).toNat (0 : Int)) true m (0 : Int) (-1 : Int))).toNat (0 : Int)) = o.set p.toNat (m.getD (Pl.bst7 la (o.getD ((IntKind.i64.wrap (IntKind.i64.wrap (p + (16 : Int)) - (1 : Int))).tmod (16 : Int)).toNat (0 : Int)) (o.getD ((IntKind.i64.wrap (p + (1 : Int))).tmod (16 : Int)).toNat (0 : Int)) false m (0 : Int) (Pl.bst7 la (o.getD ((IntKind.i64.wrap (IntKind.i64.wrap (p + (16 : Int)) - (1 : Int))).tmod (16 : Int)).toNat (0 : Int)) (o.getD ((IntKind.i64.wrap (p + (1 : Int))).tmod (16 : Int)).toNat (0 : Int)) true m (0 : Int) (-1 : Int))).toNat (0 : Int)) ∧ la.set (Pl.bst7 la (o.getD ((IntKind.i64.wrap (IntKind.i64.wrap (p + (16 : Int)) - (1 : Int))).tmod (16 : Int)).toNat (0 : Int)) (o.getD ((IntKind.i64.wrap (p + (1 : Int))).tmod (16 : Int)).toNat (0 : Int)) false m (0 : Int) (Pl.bst7 la (o.getD ((IntKind.i64.wrap (IntKind.i64.wrap (p + (16 : Int)) - (1 : Int))).tmod (16 : Int)).toNat (0 : Int)) (o.getD ((IntKind.i64.wrap (p + (1 : Int))).tmod (16 : Int)).toNat (0 : Int)) true m (0 : Int) (-1 : Int))).toNat (IntKind.i64.wrap (la.getD (Pl.bst7 la (o.getD ((IntKind.i64.wrap (IntKind.i64.wrap (p + (16 : Int)) - (1 : Int))).tmod (16 : Int)).toNat (0 : Int)) (o.getD ((IntKind.i64.wrap (p + (1 : Int))).tmod (16 : Int)).toNat (0 : Int)) false m (0 : Int) (Pl.bst7 la (o.getD ((IntKind.i64.wrap (IntKind.i64.wrap (p + (16 : Int)) - (1 : Int))).tmod (16 : Int)).toNat (0 : Int)) (o.getD ((IntKind.i64.wrap (p + (1 : Int))).tmod (16 : Int)).toNat (0 : Int)) true m (0 : Int) (-1 : Int))).toNat (0 : Int) - (1 : Int))) = la.set (Pl.bst7 la (o.getD ((IntKind.i64.wrap (IntKind.i64.wrap (p + (16 : Int)) - (1 : Int))).tmod (16 : Int)).toNat (0 : Int)) (o.getD ((IntKind.i64.wrap (p + (1 : Int))).tmod (16 : Int)).toNat (0 : Int)) false m (0 : Int) (Pl.bst7 la (o.getD ((IntKind.i64.wrap (IntKind.i64.wrap (p + (16 : Int)) - (1 : Int))).tmod (16 : Int)).toNat (0 : Int)) (o.getD ((IntKind.i64.wrap (p + (1 : Int))).tmod (16 : Int)).toNat (0 : Int)) true m (0 : Int) (-1 : Int))).toNat (IntKind.i64.wrap (la.getD (Pl.bst7 la (o.getD ((IntKind.i64.wrap (IntKind.i64.wrap (p + (16 : Int)) - (1 : Int))).tmod (16 : Int)).toNat (0 : Int)) (o.getD ((IntKind.i64.wrap (p + (1 : Int))).tmod (16 : Int)).toNat (0 : Int)) false m (0 : Int) (Pl.bst7 la (o.getD ((IntKind.i64.wrap (IntKind.i64.wrap (p + (16 : Int)) - (1 : Int))).tmod (16 : Int)).toNat (0 : Int)) (o.getD ((IntKind.i64.wrap (p + (1 : Int))).tmod (16 : Int)).toNat (0 : Int)) true m (0 : Int) (-1 : Int))).toNat (0 : Int) - (1 : Int))) ∧ m = m) (
                         .leaf (Option.some { o := o.set p.toNat (m.getD (Pl.bst7 la (o.getD ((IntKind.i64.wrap (IntKind.i64.wrap (p + (16 : Int)) - (1 : Int))).tmod (16 : Int)).toNat (0 : Int)) (o.getD ((IntKind.i64.wrap (p + (1 : Int))).tmod (16 : Int)).toNat (0 : Int)) false m (0 : Int) (Pl.bst7 la (o.getD ((IntKind.i64.wrap (IntKind.i64.wrap (p + (16 : Int)) - (1 : Int))).tmod (16 : Int)).toNat (0 : Int)) (o.getD ((IntKind.i64.wrap (p + (1 : Int))).tmod (16 : Int)).toNat (0 : Int)) true m (0 : Int) (-1 : Int))).toNat (0 : Int)), la := la.set (Pl.bst7 la (o.getD ((IntKind.i64.wrap (IntKind.i64.wrap (p + (16 : Int)) - (1 : Int))).tmod (16 : Int)).toNat (0 : Int)) (o.getD ((IntKind.i64.wrap (p + (1 : Int))).tmod (16 : Int)).toNat (0 : Int)) false m (0 : Int) (Pl.bst7 la (o.getD ((IntKind.i64.wrap (IntKind.i64.wrap (p + (16 : Int)) - (1 : Int))).tmod (16 : Int)).toNat (0 : Int)) (o.getD ((IntKind.i64.wrap (p + (1 : Int))).tmod (16 : Int)).toNat (0 : Int)) true m (0 : Int) (-1 : Int))).toNat (IntKind.i64.wrap (la.getD (Pl.bst7 la (o.getD ((IntKind.i64.wrap (IntKind.i64.wrap (p + (16 : Int)) - (1 : Int))).tmod (16 : Int)).toNat (0 : Int)) (o.getD ((IntKind.i64.wrap (p + (1 : Int))).tmod (16 : Int)).toNat (0 : Int)) false m (0 : Int) (Pl.bst7 la (o.getD ((IntKind.i64.wrap (IntKind.i64.wrap (p + (16 : Int)) - (1 : Int))).tmod (16 : Int)).toNat (0 : Int)) (o.getD ((IntKind.i64.wrap (p + (1 : Int))).tmod (16 : Int)).toNat (0 : Int)) true m (0 : Int) (-1 : Int))).toNat (0 : Int) - (1 : Int))), m := m, p := IntKind.i64.wrap (p + (1 : Int)) }))))))))))) (
                .req ((0 : Int) ≤ Pl.bst7 la (o.getD ((IntKind.i64.wrap (IntKind.i64.wrap (p + (16 : Int)) - (1 : Int))).tmod (16 : Int)).toNat (0 : Int)) (o.getD ((IntKind.i64.wrap (p + (1 : Int))).tmod (16 : Int)).toNat (0 : Int)) false m (0 : Int) (Pl.bst7 la (o.getD ((IntKind.i64.wrap (IntKind.i64.wrap (p + (16 : Int)) - (1 : Int))).tmod (16 : Int)).toNat (0 : Int)) (o.getD ((IntKind.i64.wrap (p + (1 : Int))).tmod (16 : Int)).toNat (0 : Int)) true m (0 : Int) (-1 : Int)) ∧ Pl.bst7 la (o.getD ((IntKind.i64.wrap (IntKind.i64.wrap (p + (16 : Int)) - (1 : Int))).tmod (16 : Int)).toNat (0 : Int)) (o.getD ((IntKind.i64.wrap (p + (1 : Int))).tmod (16 : Int)).toNat (0 : Int)) false m (0 : Int) (Pl.bst7 la (o.getD ((IntKind.i64.wrap (IntKind.i64.wrap (p + (16 : Int)) - (1 : Int))).tmod (16 : Int)).toNat (0 : Int)) (o.getD ((IntKind.i64.wrap (p + (1 : Int))).tmod (16 : Int)).toNat (0 : Int)) true m (0 : Int) (-1 : Int)) < (↑m.length : Int)) (
                 .req ((0 : Int) ≤ Pl.bst7 la (o.getD ((IntKind.i64.wrap (IntKind.i64.wrap (p + (16 : Int)) - (1 : Int))).tmod (16 : Int)).toNat (0 : Int)) (o.getD ((IntKind.i64.wrap (p + (1 : Int))).tmod (16 : Int)).toNat (0 : Int)) false m (0 : Int) (Pl.bst7 la (o.getD ((IntKind.i64.wrap (IntKind.i64.wrap (p + (16 : Int)) - (1 : Int))).tmod (16 : Int)).toNat (0 : Int)) (o.getD ((IntKind.i64.wrap (p + (1 : Int))).tmod (16 : Int)).toNat (0 : Int)) true m (0 : Int) (-1 : Int)) ∧ Pl.bst7 la (o.getD ((IntKind.i64.wrap (IntKind.i64.wrap (p + (16 : Int)) - (1 : Int))).tmod (16 : Int)).toNat (0 : Int)) (o.getD ((IntKind.i64.wrap (p + (1 : Int))).tmod (16 : Int)).toNat (0 : Int)) false m (0 : Int) (Pl.bst7 la (o.getD ((IntKind.i64.wrap (IntKind.i64.wrap (p + (16 : Int)) - (1 : Int))).tmod (16 : Int)).toNat (0 : Int)) (o.getD ((IntKind.i64.wrap (p + (1 : Int))).tmod (16 : Int)).toNat (0 : Int)) true m (0 : Int) (-1 : Int)) < (↑m.length : Int)) (
                  .req ((0 : Int) ≤ p ∧ p < (↑o.length : Int)) (
                   .req ((0 : Int) ≤ p ∧ p < (↑o.length : Int)) (
                    .req ((0 : Int) ≤ Pl.bst7 la (o.getD ((IntKind.i64.wrap (IntKind.i64.wrap (p + (16 : Int)) - (1 : Int))).tmod (16 : Int)).toNat (0 : Int)) (o.getD ((IntKind.i64.wrap (p + (1 : Int))).tmod (16 : Int)).toNat (0 : Int)) false m (0 : Int) (Pl.bst7 la (o.getD ((IntKind.i64.wrap (IntKind.i64.wrap (p + (16 : Int)) - (1 : Int))).tmod (16 : Int)).toNat (0 : Int)) (o.getD ((IntKind.i64.wrap (p + (1 : Int))).tmod (16 : Int)).toNat (0 : Int)) true m (0 : Int) (-1 : Int)) ∧ Pl.bst7 la (o.getD ((IntKind.i64.wrap (IntKind.i64.wrap (p + (16 : Int)) - (1 : Int))).tmod (16 : Int)).toNat (0 : Int)) (o.getD ((IntKind.i64.wrap (p + (1 : Int))).tmod (16 : Int)).toNat (0 : Int)) false m (0 : Int) (Pl.bst7 la (o.getD ((IntKind.i64.wrap (IntKind.i64.wrap (p + (16 : Int)) - (1 : Int))).tmod (16 : Int)).toNat (0 : Int)) (o.getD ((IntKind.i64.wrap (p + (1 : Int))).tmod (16 : Int)).toNat (0 : Int)) true m (0 : Int) (-1 : Int)) < (↑la.length : Int)) (
                     .req ((0 : Int) ≤ Pl.bst7 la (o.getD ((IntKind.i64.wrap (IntKind.i64.wrap (p + (16 : Int)) - (1 : Int))).tmod (16 : Int)).toNat (0 : Int)) (o.getD ((IntKind.i64.wrap (p + (1 : Int))).tmod (16 : Int)).toNat (0 : Int)) false m (0 : Int) (Pl.bst7 la (o.getD ((IntKind.i64.wrap (IntKind.i64.wrap (p + (16 : Int)) - (1 : Int))).tmod (16 : Int)).toNat (0 : Int)) (o.getD ((IntKind.i64.wrap (p + (1 : Int))).tmod (16 : Int)).toNat (0 : Int)) true m (0 : Int) (-1 : Int)) ∧ Pl.bst7 la (o.getD ((IntKind.i64.wrap (IntKind.i64.wrap (p + (16 : Int)) - (1 : Int))).tmod (16 : Int)).toNat (0 : Int)) (o.getD ((IntKind.i64.wrap (p + (1 : Int))).tmod (16 : Int)).toNat (0 : Int)) false m (0 : Int) (Pl.bst7 la (o.getD ((IntKind.i64.wrap (IntKind.i64.wrap (p + (16 : Int)) - (1 : Int))).tmod (16 : Int)).toNat (0 : Int)) (o.getD ((IntKind.i64.wrap (p + (1 : Int))).tmod (16 : Int)).toNat (0 : Int)) true m (0 : Int) (-1 : Int)) < (↑la.length : Int)) (
                      .req ((0 : Int) ≤ Pl.bst7 la (o.getD ((IntKind.i64.wrap (IntKind.i64.wrap (p + (16 : Int)) - (1 : Int))).tmod (16 : Int)).toNat (0 : Int)) (o.getD ((IntKind.i64.wrap (p + (1 : Int))).tmod (16 : Int)).toNat (0 : Int)) false m (0 : Int) (Pl.bst7 la (o.getD ((IntKind.i64.wrap (IntKind.i64.wrap (p + (16 : Int)) - (1 : Int))).tmod (16 : Int)).toNat (0 : Int)) (o.getD ((IntKind.i64.wrap (p + (1 : Int))).tmod (16 : Int)).toNat (0 : Int)) true m (0 : Int) (-1 : Int)) ∧ Pl.bst7 la (o.getD ((IntKind.i64.wrap (IntKind.i64.wrap (p + (16 : Int)) - (1 : Int))).tmod (16 : Int)).toNat (0 : Int)) (o.getD ((IntKind.i64.wrap (p + (1 : Int))).tmod (16 : Int)).toNat (0 : Int)) false m (0 : Int) (Pl.bst7 la (o.getD ((IntKind.i64.wrap (IntKind.i64.wrap (p + (16 : Int)) - (1 : Int))).tmod (16 : Int)).toNat (0 : Int)) (o.getD ((IntKind.i64.wrap (p + (1 : Int))).tmod (16 : Int)).toNat (0 : Int)) true m (0 : Int) (-1 : Int)) < (↑la.length : Int)) (
                       .req ((0 : Int) ≤ Pl.bst7 la (o.getD ((IntKind.i64.wrap (IntKind.i64.wrap (p + (16 : Int)) - (1 : Int))).tmod (16 : Int)).toNat (0 : Int)) (o.getD ((IntKind.i64.wrap (p + (1 : Int))).tmod (16 : Int)).toNat (0 : Int)) false m (0 : Int) (Pl.bst7 la (o.getD ((IntKind.i64.wrap (IntKind.i64.wrap (p + (16 : Int)) - (1 : Int))).tmod (16 : Int)).toNat (0 : Int)) (o.getD ((IntKind.i64.wrap (p + (1 : Int))).tmod (16 : Int)).toNat (0 : Int)) true m (0 : Int) (-1 : Int)) ∧ Pl.bst7 la (o.getD ((IntKind.i64.wrap (IntKind.i64.wrap (p + (16 : Int)) - (1 : Int))).tmod (16 : Int)).toNat (0 : Int)) (o.getD ((IntKind.i64.wrap (p + (1 : Int))).tmod (16 : Int)).toNat (0 : Int)) false m (0 : Int) (Pl.bst7 la (o.getD ((IntKind.i64.wrap (IntKind.i64.wrap (p + (16 : Int)) - (1 : Int))).tmod (16 : Int)).toNat (0 : Int)) (o.getD ((IntKind.i64.wrap (p + (1 : Int))).tmod (16 : Int)).toNat (0 : Int)) true m (0 : Int) (-1 : Int)) < (↑la.length : Int)) (
                        .req (IntKind.i64.wrap (p + (1 : Int)) = IntKind.i64.wrap (p + (1 : Int)) ∧ (↑o.length : Int) = (↑(o.set p.toNat (m.getD (Pl.bst7 la (o.getD ((IntKind.i64.wrap (IntKind.i64.wrap (p + (16 : Int)) - (1 : Int))).tmod (16 : Int)).toNat (0 : Int)) (o.getD ((IntKind.i64.wrap (p + (1 : Int))).tmod (16 : Int)).toNat (0 : Int)) false m (0 : Int) (Pl.bst7 la (o.getD ((IntKind.i64.wrap (IntKind.i64.wrap (p + (16 : Int)) - (1 : Int))).tmod (16 : Int)).toNat (0 : Int)) (o.getD ((IntKind.i64.wrap (p + (1 : Int))).tmod (16 : Int)).toNat (0 : Int)) true m (0 : Int) (-1 : Int))).toNat (0 : Int))).length : Int) ∧ o.set p.toNat (m.getD (Pl.bst7 la (o.getD ((IntKind.i64.wrap (IntKind.i64.wrap (p + (16 : Int)) - (1 : Int))).tmod (16 : Int)).toNat (0 : Int)) (o.getD ((IntKind.i64.wrap (p + (1 : Int))).tmod (16 : Int)).toNat (0 : Int)) false m (0 : Int) (Pl.bst7 la (o.getD ((IntKind.i64.wrap (IntKind.i64.wrap (p + (16 : Int)) - (1 : Int))).tmod (16 : Int)).toNat (0 : Int)) (o.getD ((IntKind.i64.wrap (p + (1 : Int))).tmod (16 : Int)).toNat (0 : Int)) true m (0 : Int) (-1 : Int))).toNat (0 : Int)) = o.set p.toNat (m.getD (Pl.bst7 la (o.getD ((IntKind.i64.wrap (IntKind.i64.wrap (p + (16 : Int)) - (1 : Int))).tmod (16 : Int)).toNat (0 : Int)) (o.getD ((IntKind.i64.wrap (p + (1 : Int))).tmod (16 : Int)).toNat (0 : Int)) false m (0 : Int) (Pl.bst7 la (o.getD ((IntKind.i64.wrap (IntKind.i64.wrap (p + (16 : Int)) - (1 : Int))).tmod (16 : Int)).toNat (0 : Int)) (o.getD ((IntKind.i64.wrap (p + (1 : Int))).tmod (16 : Int)).toNat (0 : Int)) true m (0 : Int) (-1 : Int))).toNat (0 : Int)) ∧ la.set (Pl.bst7 la (o.getD ((IntKind.i64.wrap (IntKind.i64.wrap (p + (16 : Int)) - (1 : Int))).tmod (16 : Int)).toNat (0 : Int)) (o.getD ((IntKind.i64.wrap (p + (1 : Int))).tmod (16 : Int)).toNat (0 : Int)) false m (0 : Int) (Pl.bst7 la (o.getD ((IntKind.i64.wrap (IntKind.i64.wrap (p + (16 : Int)) - (1 : Int))).tmod (16 : Int)).toNat (0 : Int)) (o.getD ((IntKind.i64.wrap (p + (1 : Int))).tmod (16 : Int)).toNat (0 : Int)) true m (0 : Int) (-1 : Int))).toNat (IntKind.i64.wrap (la.getD (Pl.bst7 la (o.getD ((IntKind.i64.wrap (IntKind.i64.wrap (p + (16 : Int)) - (1 : Int))).tmod (16 : Int)).toNat (0 : Int)) (o.getD ((IntKind.i64.wrap (p + (1 : Int))).tmod (16 : Int)).toNat (0 : Int)) false m (0 : Int) (Pl.bst7 la (o.getD ((IntKind.i64.wrap (IntKind.i64.wrap (p + (16 : Int)) - (1 : Int))).tmod (16 : Int)).toNat (0 : Int)) (o.getD ((IntKind.i64.wrap (p + (1 : Int))).tmod (16 : Int)).toNat (0 : Int)) true m (0 : Int) (-1 : Int))).toNat (0 : Int) - (1 : Int))) = la.set (Pl.bst7 la (o.getD ((IntKind.i64.wrap (IntKind.i64.wrap (p + (16 : Int)) - (1 : Int))).tmod (16 : Int)).toNat (0 : Int)) (o.getD ((IntKind.i64.wrap (p + (1 : Int))).tmod (16 : Int)).toNat (0 : Int)) false m (0 : Int) (Pl.bst7 la (o.getD ((IntKind.i64.wrap (IntKind.i64.wrap (p + (16 : Int)) - (1 : Int))).tmod (16 : Int)).toNat (0 : Int)) (o.getD ((IntKind.i64.wrap (p + (1 : Int))).tmod (16 : Int)).toNat (0 : Int)) true m (0 : Int) (-1 : Int))).toNat (IntKind.i64.wrap (la.getD (Pl.bst7 la (o.getD ((IntKind.i64.wrap (IntKind.i64.wrap (p + (16 : Int)) - (1 : Int))).tmod (16 : Int)).toNat (0 : Int)) (o.getD ((IntKind.i64.wrap (p + (1 : Int))).tmod (16 : Int)).toNat (0 : Int)) false m (0 : Int) (Pl.bst7 la (o.getD ((IntKind.i64.wrap (IntKind.i64.wrap (p + (16 : Int)) - (1 : Int))).tmod (16 : Int)).toNat (0 : Int)) (o.getD ((IntKind.i64.wrap (p + (1 : Int))).tmod (16 : Int)).toNat (0 : Int)) true m (0 : Int) (-1 : Int))).toNat (0 : Int) - (1 : Int))) ∧ m = m) (
                         .leaf (Option.some { o := o.set p.toNat (m.getD (Pl.bst7 la (o.getD ((IntKind.i64.wrap (IntKind.i64.wrap (p + (16 : Int)) - (1 : Int))).tmod (16 : Int)).toNat (0 : Int)) (o.getD ((IntKind.i64.wrap (p + (1 : Int))).tmod (16 : Int)).toNat (0 : Int)) false m (0 : Int) (Pl.bst7 la (o.getD ((IntKind.i64.wrap (IntKind.i64.wrap (p + (16 : Int)) - (1 : Int))).tmod (16 : Int)).toNat (0 : Int)) (o.getD ((IntKind.i64.wrap (p + (1 : Int))).tmod (16 : Int)).toNat (0 : Int)) true m (0 : Int) (-1 : Int))).toNat (0 : Int)), la := la.set (Pl.bst7 la (o.getD ((IntKind.i64.wrap (IntKind.i64.wrap (p + (16 : Int)) - (1 : Int))).tmod (16 : Int)).toNat (0 : Int)) (o.getD ((IntKind.i64.wrap (p + (1 : Int))).tmod (16 : Int)).toNat (0 : Int)) false m (0 : Int) (Pl.bst7 la (o.getD ((IntKind.i64.wrap (IntKind.i64.wrap (p + (16 : Int)) - (1 : Int))).tmod (16 : Int)).toNat (0 : Int)) (o.getD ((IntKind.i64.wrap (p + (1 : Int))).tmod (16 : Int)).toNat (0 : Int)) true m (0 : Int) (-1 : Int))).toNat (IntKind.i64.wrap (la.getD (Pl.bst7 la (o.getD ((IntKind.i64.wrap (IntKind.i64.wrap (p + (16 : Int)) - (1 : Int))).tmod (16 : Int)).toNat (0 : Int)) (o.getD ((IntKind.i64.wrap (p + (1 : Int))).tmod (16 : Int)).toNat (0 : Int)) false m (0 : Int) (Pl.bst7 la (o.getD ((IntKind.i64.wrap (IntKind.i64.wrap (p + (16 : Int)) - (1 : Int))).tmod (16 : Int)).toNat (0 : Int)) (o.getD ((IntKind.i64.wrap (p + (1 : Int))).tmod (16 : Int)).toNat (0 : Int)) true m (0 : Int) (-1 : Int))).toNat (0 : Int) - (1 : Int))), m := m, p := IntKind.i64.wrap (p + (1 : Int)) })))))))))))))))))))))))))) (
 .req (o = (Pl.asgC m (16 - p.toNat) p.toNat o la).1) (
  .leaf (Option.none))) : Tree (Option Pl.AZc)) := by kernel_rfl
theorem t7A (now ms : List Int) : @Eq _
  (fnO X3 [(0, LZa.sp), (2, LZc.sp)] 100 Try.f18 [ints, ints] [ints] (now, ms, ()))
  (.req ((↑ms.length : Int) < (4611686018427387904 : Int) ∧ (-1 : Int) = (-1 : Int)) (
 .req ((↑ms.length : Int) < (4611686018427387904 : Int)) (
  .fork ((↑(Pl.memL ms).length : Int) == (0 : Int)) (
   .leaf ((([] : List Int), ()))) (
   .req ((0 : Int) ≤ (16 : Int) ∧ (16 : Int) ≤ (16 : Int) ∧ (128 : Int) ≤ (140737488355328 : Int) ∧ (16 : Int) ≤ (140737488355328 : Int)) (
    .req (16 = 16 ∧ (Pl.quotaL now ms).length = (Pl.memL ms).length ∧ (Pl.memL ms).length ≤ 8 ∧ (0 : Int) ≤ (0 : Int) ∧ (0 : Int) ≤ (16 : Int) ∧ (∀ (x : Int), x ∈ Pl.quotaL now ms → (0 : Int) ≤ x ∧ x ≤ (40 : Int)) ∧ List.Pairwise (fun x1 x2 => x1 ≠ x2) (Pl.memL ms)) (
     .req ((0 : Int) = (0 : Int) ∧ (16 : Int) = (16 : Int) ∧ List.replicate 16 (0 : Int) = List.replicate 16 (0 : Int) ∧ Pl.quotaL now ms = Pl.quotaL now ms ∧ Pl.memL ms = Pl.memL ms ∧ now = now) (
      .req ((Pl.asg0 now (Pl.memL ms) 16 0 (List.replicate 16 (0 : Int)) (Pl.quotaL now ms)).1.length = 16 ∧ (Pl.asg0 now (Pl.memL ms) 16 0 (List.replicate 16 (0 : Int)) (Pl.quotaL now ms)).2.length = (Pl.memL ms).length ∧ (Pl.memL ms).length ≤ 8 ∧ (0 : Int) ≤ (0 : Int) ∧ (0 : Int) ≤ (16 : Int) ∧ (∀ (x : Int), x ∈ (Pl.asg0 now (Pl.memL ms) 16 0 (List.replicate 16 (0 : Int)) (Pl.quotaL now ms)).2 → (0 : Int) ≤ x ∧ x ≤ (40 : Int)) ∧ (∀ (x : Int), x ∈ List.drop (Int.toNat (0 : Int)) (Pl.asg0 now (Pl.memL ms) 16 0 (List.replicate 16 (0 : Int)) (Pl.quotaL now ms)).1 → x = (-1 : Int) ∨ (0 : Int) ≤ x) ∧ (↑(List.count (-1 : Int) (List.drop 0 (Pl.asg0 now (Pl.memL ms) 16 0 (List.replicate 16 (0 : Int)) (Pl.quotaL now ms)).1)) : Int) ≤ (Pl.asg0 now (Pl.memL ms) 16 0 (List.replicate 16 (0 : Int)) (Pl.quotaL now ms)).2.sum) (
       .req ((0 : Int) = (0 : Int) ∧ (↑(Pl.asg0 now (Pl.memL ms) 16 0 (List.replicate 16 (0 : Int)) (Pl.quotaL now ms)).1.length : Int) = (↑(Pl.asg0 now (Pl.memL ms) 16 0 (List.replicate 16 (0 : Int)) (Pl.quotaL now ms)).1.length : Int) ∧ (Pl.asg0 now (Pl.memL ms) 16 0 (List.replicate 16 (0 : Int)) (Pl.quotaL now ms)).1 = (Pl.asg0 now (Pl.memL ms) 16 0 (List.replicate 16 (0 : Int)) (Pl.quotaL now ms)).1 ∧ (Pl.asg0 now (Pl.memL ms) 16 0 (List.replicate 16 (0 : Int)) (Pl.quotaL now ms)).2 = (Pl.asg0 now (Pl.memL ms) 16 0 (List.replicate 16 (0 : Int)) (Pl.quotaL now ms)).2 ∧ Pl.memL ms = Pl.memL ms) (
        .leaf (((Pl.asgC (Pl.memL ms) 16 0 (Pl.asg0 now (Pl.memL ms) 16 0 (List.replicate 16 (0 : Int)) (Pl.quotaL now ms)).1 (Pl.asg0 now (Pl.memL ms) 16 0 (List.replicate 16 (0 : Int)) (Pl.quotaL now ms)).2).1, ())))))))))) : Tree (List Int × PUnit)) := by kernel_rfl
end Pl
namespace Pl
open Go Sx Go.Proofs Go.RowKit
theorem lZb : LpsOK Try.prog Try.f18 [(1, LZb.sp)] := by
  refine .cons (LZb.sound X3_ok (lps := []) (n := 100) (inner rfl) (fun _ => rfl) ?_) .nil
  rintro ⟨now, m, p, o, i, la⟩ ⟨h1, h2, h3, h4, h5, h6, h7, h8⟩
  simp only at h1 h2 h3 h4 h5 h6 h7 h8
  rw [rZb]
  simp only [all_leaf, all_fork, all_req, conjP, and_true, true_and, decide_eq_true_eq, decide_eq_false_iff_not]
  have ui : i < (m.length : Int) → 0 ≤ i ∧ i < (la.length : Int) := fun c => ⟨h6, by omega⟩
  have up : 0 ≤ p ∧ p < (o.length : Int) := ⟨h4, by omega⟩
  refine ⟨fun c => ⟨⟨h6, c⟩, ⟨h6, c⟩, ⟨h4, fun _ => ⟨ui c, ui c⟩⟩, fun d => ⟨up, up, ui c, ui c, ui c, ui c, ?_⟩, fun d => ?_⟩, fun c => ⟨?_, trivial⟩⟩
  · have d' := d
    simp only [Bool.and_eq_true, decide_eq_true_eq] at d
    have hlt : i.toNat < la.length := by omega
    have hg : la.getD i.toNat 0 ∈ la := by rw [getD_get 0 hlt]; exact List.getElem_mem hlt
    have hb := h8 _ hg
    rw [i64_inc (by omega) (by omega), IntWalk.i64_in (_ - 1) (by omega)]
    refine ⟨⟨by simp [h1], by simp [h2], h3, h4, h5, by dsimp only; omega, by dsimp only; omega, fun x hx => ?_⟩, by simp only [LZb]; omega, ?_⟩
    · rcases set_mem hx with z | z
      · exact h8 x z
      · omega
    · simp only [LZb]
      have : fB (atL now p) p.toNat (m.drop i.toNat) i o la = fB (atL now p) p.toNat (m.drop (i + 1).toNat) (i + 1) (o.set p.toNat (m.getD i.toNat 0)) (la.set i.toNat (la.getD i.toNat 0 - 1)) := by
        rw [drop_cons (l := m) 0 h6 c, fB, if_pos d']
      rw [this]
  · rw [i64_inc (by omega) (by omega)]
    refine ⟨⟨h1, h2, h3, h4, h5, by dsimp only; omega, by dsimp only; omega, h8⟩, by simp only [LZb]; omega, ?_⟩
    simp only [LZb]
    have : fB (atL now p) p.toNat (m.drop i.toNat) i o la = fB (atL now p) p.toNat (m.drop (i + 1).toNat) (i + 1) o la := by
      rw [drop_cons (l := m) 0 h6 c, fB, if_neg (by rw [d]; decide)]
    rw [this]
  · rw [drop_end c]; exact ⟨rfl, rfl⟩
theorem fB_none (v : Int) (p : Nat) : ∀ (m : List Int) (i : Int) (o la : List Int), v ∉ m → fB v p m i o la = (o, la)
  | [], _, _, _, _ => rfl
  | n :: r, i, o, la, h => by
    simp only [fB]
    rw [if_neg (by simp only [Bool.and_eq_true, beq_iff_eq]; exact fun z => h (by simp [z.1])), fB_none v p r _ _ _ (fun z => h (by simp [z]))]
theorem fB_idx (v : Int) (p : Nat) : ∀ (m : List Int) (i : Int) (o la : List Int), m.Nodup → v ∈ m → fB v p m i o la = if decide (la.getD (idxF v m i).toNat 0 > 0) then (o.set p v, la.set (idxF v m i).toNat (la.getD (idxF v m i).toNat 0 - 1)) else (o, la)
  | [], _, _, _, _, h => by simp at h
  | n :: r, i, o, la, hd, h => by
    have hd' := List.nodup_cons.1 hd
    by_cases e : v = n
    · subst e
      simp only [fB, idxF, beq_self_eq_true, Bool.true_and, if_true]
      rw [fB_none v p r _ _ _ hd'.1, fB_none v p r _ _ _ hd'.1]
    · have hr : v ∈ r := by simpa [e] using h
      have hI : idxF v (n :: r) i = idxF v r (i + 1) := by simp only [idxF]; rw [if_neg (fun z => e z.symm)]
      rw [hI]
      simp only [fB]
      rw [beq_eq_false_iff_ne.2 e, Bool.false_and, if_neg (by decide), fB_idx v p r _ _ _ hd'.2 hr]
theorem lZa : ∀ st out, (LZa.sp st).reach out → CodeOK Try.prog Try.f18.ntmps (.loop (loopAt (bodyOf Try.f18) 0)) st out := by
  refine LZa.sound X3_ok (lps := [(1, LZb.sp)]) (n := 100) (lZb.within (by kernel_rfl)) (fun _ => rfl) ?_
  rintro ⟨now, o, la, m, p⟩ ⟨h1, h2, h3, h4, h5, h6, h7⟩
  simp only at h1 h2 h3 h4 h5 h6 h7
  rw [rZa]
  simp only [all_leaf, all_fork, all_req, conjP, and_true, true_and, decide_eq_true_eq, decide_eq_false_iff_not]
  have up : 0 ≤ p ∧ p < 16 → 0 ≤ p ∧ p < (o.length : Int) := fun c => ⟨h4, by omega⟩
  refine ⟨fun c => ⟨up ⟨h4, c⟩, up ⟨h4, c⟩, ⟨by simp [h1], h2, h3, h4, c, by omega, by omega, h6⟩, ?_⟩, fun c => ⟨?_, trivial⟩⟩
  · obtain ⟨i1, i2, i3⟩ := indexF_range m (atL now p)
    have hs := asg0_step now m p o la h4 c
    have hfb : fB (atL now p) p.toNat m 0 (o.set p.toNat (-1)) la = if decide (indexF m (atL now p) ≥ 0) && decide (la.getD (indexF m (atL now p)).toNat 0 > 0) then (o.set p.toNat (m.getD (indexF m (atL now p)).toNat 0), la.set (indexF m (atL now p)).toNat (la.getD (indexF m (atL now p)).toNat 0 - 1)) else (o.set p.toNat (-1), la) := by
      by_cases hv : atL now p ∈ m
      · have hx : m.contains (atL now p) = true := by simpa using hv
        have e : indexF m (atL now p) = idxF (atL now p) m 0 := by unfold indexF; rw [if_pos hx]
        have g0 := (idxF_ge (atL now p) m 0 (by omega) hx).1
        rw [← e] at g0
        rw [fB_idx _ _ _ _ _ _ h7 hv, ← e, decide_eq_true (by omega : indexF m (atL now p) ≥ 0), Bool.true_and, i3 g0, List.set_set]
      · have e : indexF m (atL now p) = -1 := index_none hv
        rw [fB_none _ _ _ _ _ _ hv, e]; rfl
    rw [hfb, i64_inc (by omega) (by omega)]
    by_cases t : (decide (indexF m (atL now p) ≥ 0) && decide (la.getD (indexF m (atL now p)).toNat 0 > 0)) = true
    · rw [if_pos t] at hs ⊢
      simp only [Bool.and_eq_true, decide_eq_true_eq] at t
      have hlt : (indexF m (atL now p)).toNat < la.length := by omega
      have hg : la.getD (indexF m (atL now p)).toNat 0 ∈ la := by rw [getD_get 0 hlt]; exact List.getElem_mem hlt
      have hb := h6 _ hg
      refine ⟨⟨by simp [h1], by simp [h2], h3, by dsimp only; omega, by dsimp only; omega, fun x hx => ?_, h7⟩, by simp only [LZa]; omega, ?_⟩
      · rcases set_mem hx with z | z
        · exact h6 x z
        · omega
      · simp only [LZa]; rw [hs]
    · rw [if_neg t] at hs ⊢
      refine ⟨⟨by simp [h1], h2, h3, by dsimp only; omega, by dsimp only; omega, h6, h7⟩, by simp only [LZa]; omega, ?_⟩
      simp only [LZa]; rw [hs]
  · have e : 16 - p.toNat = 0 := by omega
    rw [e]; exact ⟨rfl, rfl⟩
theorem lZe1 (b : Bool) : ∀ st out, ((LZe b).sp st).reach out → CodeOK Try.prog Try.f18.ntmps (.loop (loopAt (bodyOf Try.f18) 4)) st out := by
  refine (LZe b).sound X3_ok (lps := []) (n := 100) (inner rfl) (fun _ => by cases b <;> rfl) ?_
  rintro ⟨o, la, m, p, n0, n1, i, q⟩ ⟨h1, h2, h3, h4, h5, h6⟩
  simp only at h1 h2 h3 h4 h5 h6
  have ui : i < (m.length : Int) → 0 ≤ i ∧ i < (la.length : Int) := fun c => ⟨h3, by omega⟩
  have nx : i < (m.length : Int) → ∀ t : Bool, t = (decide (la.getD i.toNat 0 > 0) && (!b || (!(m.getD i.toNat 0 == n1) && !(m.getD i.toNat 0 == n0))) && (decide (q < 0) || decide (la.getD i.toNat 0 > la.getD q.toNat 0))) → (LZe b).Next ⟨o, la, m, p, n0, n1, i, q⟩ (some ⟨o, la, m, p, n0, n1, IntKind.i64.wrap (i + 1), if t then i else q⟩) := fun c t ht => by
    rw [i64_inc (by omega) (by omega)]
    refine ⟨⟨h1, h2, by dsimp only; omega, by dsimp only; omega, by dsimp only; split <;> omega, by dsimp only; split <;> omega⟩, by simp only [LZe]; omega, ?_⟩
    simp only [LZe]
    have : bst7 la n1 n0 b (m.drop i.toNat) i q = bst7 la n1 n0 b (m.drop (i + 1).toNat) (i + 1) (if t then i else q) := by
      rw [drop_cons (l := m) 0 h3 c, bst7, ht]
    rw [this]
  have fin : ¬ i < (m.length : Int) → q = bst7 la n1 n0 b (m.drop i.toNat) i q := fun c => by rw [drop_end c]; rfl
  have uq : ¬ q < 0 → i < (m.length : Int) → (0 ≤ i ∧ i < (la.length : Int)) ∧ (0 ≤ i ∧ i < (la.length : Int)) ∧ (0 ≤ q ∧ q < (la.length : Int)) ∧ 0 ≤ q ∧ q < (la.length : Int) := fun z c => ⟨ui c, ui c, ⟨by omega, by omega⟩, by omega, by omega⟩
  cases b with
  | true =>
    rw [rZet]
    simp only [all_leaf, all_fork, all_req, conjP, and_true, true_and, decide_eq_true_eq, decide_eq_false_iff_not]
    refine ⟨fun c => ⟨⟨h3, c⟩, ⟨h3, c⟩, ⟨ui c, ui c, fun _ _ _ z => uq z c⟩, fun d => ?_, fun d => ?_⟩, fun c => ⟨fin c, trivial⟩⟩
    · have := nx c true (Eq.trans d.symm (by simp only [Bool.not_true, Bool.false_or, Bool.and_assoc]; rfl))
      simpa using this
    · have := nx c false (Eq.trans d.symm (by simp only [Bool.not_true, Bool.false_or, Bool.and_assoc]; rfl))
      simpa using this
  | false =>
    rw [rZef]
    simp only [all_leaf, all_fork, all_req, conjP, and_true, true_and, decide_eq_true_eq, decide_eq_false_iff_not]
    refine ⟨fun c => ⟨⟨h3, c⟩, ⟨h3, c⟩, ⟨ui c, ui c, fun _ z => uq z c⟩, fun d => ?_, fun d => ?_⟩, fun c => ⟨fin c, trivial⟩⟩
    · have := nx c true (Eq.trans d.symm (by simp))
      simpa using this
    · have := nx c false (Eq.trans d.symm (by simp))
      simpa using this
theorem lZe : LpsOK Try.prog Try.f18 [(4, spZe)] := by
  refine .cons (fun st out h => ?_) .nil
  unfold spZe at h
  split at h
  · split at h
    · exact lZe1 true st out h
    · exact lZe1 false st out h
  · exact h.elim
theorem bst7_eq (to la : List Int) (p : Int) (ap : Bool) : ∀ (m : List Int) (i out : Int), bst7 la (to.getD ((p + 15) % 16).toNat 0) (to.getD ((p + 1) % 16).toNat 0) ap m i out = bstC to la p ap m i out
  | [], _, _ => rfl
  | n :: r, i, out => by
    simp only [bst7, bstC]
    rw [bst7_eq to la p ap r]
    have : (!ap || (!(n == to.getD ((p + 15) % 16).toNat 0) && !(n == to.getD ((p + 1) % 16).toNat 0))) = !(ap && bsd to p n) := by
      unfold bsd
      rw [Bool.beq_comm (a := to.getD ((p + 1) % 16).toNat 0), Bool.beq_comm (a := to.getD ((p + 15) % 16).toNat 0)]
      cases ap <;> cases (n == to.getD ((p + 15) % 16).toNat 0) <;> cases (n == to.getD ((p + 1) % 16).toNat 0) <;> rfl
    rw [this]
theorem asgC_step (m : List Int) (p : Int) (to la : List Int) (h0 : 0 ≤ p) (h1 : p < 16) : asgC m (16 - p.toNat) p.toNat to la = if decide (to.getD p.toNat 0 ≥ 0) then asgC m (16 - (p + 1).toNat) (p + 1).toNat to la else asgC m (16 - (p + 1).toNat) (p + 1).toNat (to.set p.toNat (m.getD (pick m la to p).toNat 0)) (la.set (pick m la to p).toNat (la.getD (pick m la to p).toNat 0 - 1)) := by
  have e1 : 16 - p.toNat = (16 - (p + 1).toNat) + 1 := by omega
  have e2 : (p.toNat : Int) = p := by omega
  have e3 : p.toNat + 1 = (p + 1).toNat := by omega
  rw [e1, asgC, e2, e3]
theorem lZc : ∀ st out, (LZc.sp st).reach out → CodeOK Try.prog Try.f18.ntmps (.loop (loopAt (bodyOf Try.f18) 2)) st out := by
  refine LZc.sound X3_ok (lps := [(4, spZe)]) (n := 100) (lZe.within (by kernel_rfl)) (fun _ => rfl) ?_
  rintro ⟨o, la, m, p⟩ ⟨h1, h2, h3, h4, h5, h6, h7, h8⟩
  simp only at h1 h2 h3 h4 h5 h6 h7 h8
  rw [rZc]
  by_cases c : p < (o.length : Int)
  · have hA : (IntKind.i64.wrap (IntKind.i64.wrap (p + 16) - 1)).tmod 16 = (p + 15) % 16 := by
      rw [IntWalk.i64_in (p + 16) (by omega), IntWalk.i64_in (p + 16 - 1) (by omega), Int.tmod_eq_emod_of_nonneg (by omega), show p + 16 - 1 = p + 15 by omega]
    have hB : (IntKind.i64.wrap (p + 1)).tmod 16 = (p + 1) % 16 := by
      rw [IntWalk.i64_in (p + 1) (by omega), Int.tmod_eq_emod_of_nonneg (by omega)]
    rw [hA, hB]
    simp only [bst7_eq]
    have hT : bstC o la p true m 0 (-1) = bstL (m, la, o) p true := rfl
    have hd := drop_cons (l := o) 0 h4 c
    rw [hT]
    have up : 0 ≤ p ∧ p < (o.length : Int) := ⟨h4, c⟩
    have um : (p + 15) % 16 < 16 := Int.emod_lt_of_pos _ (by omega)
    have um0 : 0 ≤ (p + 15) % 16 := Int.emod_nonneg _ (by omega)
    have un : (p + 1) % 16 < 16 := Int.emod_lt_of_pos _ (by omega)
    have un0 : 0 ≤ (p + 1) % 16 := Int.emod_nonneg _ (by omega)
    have ua : 0 ≤ (p + 15) % 16 ∧ (p + 15) % 16 < (o.length : Int) := ⟨um0, by omega⟩
    have ub : 0 ≤ (p + 1) % 16 ∧ (p + 1) % 16 < (o.length : Int) := ⟨un0, by omega⟩
    have rT := bst_range m la o p true h2
    have hst := asgC_step m p o la h4 (by omega)
    have go : ∀ v : Int, ¬ o.getD p.toNat 0 ≥ 0 → v = pick m la o p → (0 ≤ v ∧ v < (m.length : Int)) ∧ (0 ≤ v ∧ v < (la.length : Int)) ∧ LZc.Next ⟨o, la, m, p⟩ (some ⟨o.set p.toNat (m.getD v.toNat 0), la.set v.toNat (IntKind.i64.wrap (la.getD v.toNat 0 - 1)), m, IntKind.i64.wrap (p + 1)⟩) := fun v d hv => by
      have hn : o.getD p.toNat 0 = -1 := by
        rcases h7 (o.getD p.toNat 0) (by rw [hd]; simp) with z | z
        · exact z
        · exact absurd z d
      rw [hd, List.count_cons, if_pos (by rw [hn]; rfl)] at h8
      obtain ⟨p1, p2, p3⟩ := pick_range m la o p h2 (by omega)
      rw [← hv] at p1 p2 p3
      have hlt : v.toNat < la.length := by omega
      have hg : la.getD v.toNat 0 ∈ la := by rw [getD_get 0 hlt]; exact List.getElem_mem hlt
      have hb := h6 _ hg
      refine ⟨⟨p1, p2⟩, ⟨p1, by omega⟩, ?_⟩
      rw [i64_inc (by omega) (by omega), IntWalk.i64_in (_ - 1) (by omega)]
      have hds : (o.set p.toNat (m.getD v.toNat 0)).drop (p + 1).toNat = o.drop (p + 1).toNat := List.drop_set_of_lt (by omega)
      refine ⟨⟨by simp [h1], by simp [h2], h3, by dsimp only; omega, by dsimp only; omega, fun x hx => ?_, ?_, ?_⟩, by simp only [LZc]; omega, ?_⟩
      · rcases set_mem hx with z | z
        · exact h6 x z
        · omega
      · dsimp only; rw [hds]; intro x hx; exact h7 x (by rw [hd]; simp [hx])
      · dsimp only; rw [hds, sum_set _ _ _ hlt]; omega
      · simp only [LZc]
        rw [if_neg (by simpa using d), ← hv] at hst
        rw [hst]
    simp only [all_leaf, all_fork, all_req, conjP, and_true, true_and, decide_eq_true_eq, decide_eq_false_iff_not]
    refine ⟨fun _ => ⟨up, up, fun d => ?_, fun d => ?_⟩, fun z => absurd c z⟩
    · rw [i64_inc (by omega) (by omega)]
      rw [hd, List.count_cons] at h8
      refine ⟨⟨h1, h2, h3, by dsimp only; omega, by dsimp only; omega, h6, fun x hx => h7 x (by rw [hd]; simp [hx]), by dsimp only; omega⟩, by simp only [LZc]; omega, ?_⟩
      simp only [LZc]
      rw [if_pos (by simpa using d)] at hst
      rw [hst]
    · refine ⟨by omega, ua, ua, by omega, ub, ub, ⟨h2, h3, by omega, by omega, by omega, by omega⟩, fun t => ?_, fun t => ?_⟩
      · have hv : bstL (m, la, o) p true = pick m la o p := by unfold pick; rw [if_neg (by simp only [decide_eq_true_eq]; omega)]
        obtain ⟨q1, q2, nx⟩ := go _ d hv
        exact ⟨q1, q1, up, up, q2, q2, q2, q2, by rw [List.length_set], nx⟩
      · have e : bstL (m, la, o) p true = -1 := by omega
        have hv : bstC o la p false m 0 (bstL (m, la, o) p true) = pick m la o p := by
          unfold pick
          rw [if_pos (by simp only [decide_eq_true_eq]; omega), e]; rfl
        obtain ⟨q1, q2, nx⟩ := go _ d hv
        refine ⟨⟨h2, h3, by omega, by omega, rT.1, rT.2.1⟩, fun _ => ⟨q1, q1, up, up, q2, q2, q2, q2, by rw [List.length_set], nx⟩, fun t2 => absurd q1.1 t2⟩
  · simp only [all_leaf, all_fork, all_req, decide_eq_true_eq, decide_eq_false_iff_not]
    have e : 16 - p.toNat = 0 := by omega
    refine ⟨fun z => absurd z c, fun _ => ?_⟩
    rw [e]; first | exact ⟨rfl, trivial⟩ | trivial
theorem asgC_eq (m t0 : List Int) (hm : ∀ x ∈ m, 0 ≤ x) (hz : t0.length = 16) : ∀ (c p : Nat) (to la : List Int), p + c = 16 → to.length = 16 → (∀ k, p ≤ k → k < 16 → to.getD k 0 = t0.getD k 0 ∧ (t0.getD k 0 = -1 ∨ 0 ≤ t0.getD k 0)) → asgC m c p to la = asg1 m t0 c p to la
  | 0, _, _, _, _, _, _ => rfl
  | c + 1, p, to, la, hp, ht, h => by
    obtain ⟨h1, h2⟩ := h p (by omega) (by omega)
    simp only [asgC, asg1]
    rw [h1]
    by_cases e : t0.getD p 0 = -1
    · rw [e, if_neg (by decide), if_pos (by decide)]
      refine asgC_eq m t0 hm hz c (p + 1) _ _ (by omega) (by simp [ht]) fun k a b => ?_
      rw [getD_set _ _ _ _ (by omega), if_neg (by omega)]
      exact h k (by omega) b
    · have h0 := h2.resolve_left e
      rw [if_pos (by simpa using h0), if_neg (by simpa using e)]
      exact asgC_eq m t0 hm hz c (p + 1) _ _ (by omega) ht fun k a b => h k (by omega) b
theorem assign7_t (now ms : List Int) (h : (ms.length : Int) < big) : (fnO X3 [(0, LZa.sp), (2, LZc.sp)] 100 Try.f18 [ints, ints] [ints] (now, ms, ())).all fun y => y = (asgL now ms, ()) := by
  rw [t7A]
  show Tree.all (α := List Int × Unit) _ (fun y => y = (asgL now ms, ()))
  have h8 := memL_len ms
  simp only [all_leaf, all_fork, all_req, beq_iff_eq, beq_eq_false_iff_ne, ne_eq, true_and, and_true]
  refine ⟨h, h, fun c => by unfold asgL; rw [if_pos (by omega)], fun c => ?_⟩
  have hc : (memL ms).length ≠ 0 := by omega
  have hm : ∀ x ∈ memL ms, 0 ≤ x := fun x hx => (memL_nn ms x hx).1
  obtain ⟨q1, q2, q3⟩ := quotaL_all now ms hc
  obtain ⟨a1, a2, a3, a4, a5, a6⟩ := asg0_inv now (memL ms) (quotaL now ms) hm (memL_nodup ms) 16 0 (List.replicate 16 0) (quotaL now ms) (by omega) (by simp) q2 q3 (by simp; omega) (fun k hk => by omega) (fun i hi => by simp)
  have hE : asgL now ms = (asg1 (memL ms) (asg0 now (memL ms) 16 0 (List.replicate 16 0) (quotaL now ms)).1 16 0 (asg0 now (memL ms) 16 0 (List.replicate 16 0) (quotaL now ms)).1 (asg0 now (memL ms) 16 0 (List.replicate 16 0) (quotaL now ms)).2).1 := by
    unfold asgL; rw [if_neg hc]; rfl
  rw [hE]
  have hnd := memL_nodup ms
  generalize asg0 now (memL ms) 16 0 (List.replicate 16 0) (quotaL now ms) = r at *
  have hb : ∀ k, k < 16 → r.1.getD k 0 = -1 ∨ 0 ≤ r.1.getD k 0 := fun k hk => (a5 k hk).imp id (fun z => hm _ z)
  have hC := asgC_eq (memL ms) r.1 hm a1 16 0 r.1 r.2 (by omega) a1 (fun k _ hk => ⟨rfl, hb k hk⟩)
  refine ⟨⟨by omega, by omega, by omega, by omega⟩, ⟨q2, h8, by omega, by omega, q3, hnd⟩, ⟨a1, a2, h8, by omega, by omega, a3, ?_, ?_⟩, ?_⟩
  · intro x hx
    have hx' : x ∈ r.1 := by simpa using hx
    obtain ⟨k, hk, rfl⟩ := List.getElem_of_mem hx'
    rw [← getD_get 0 hk]
    exact hb k (by omega)
  · simp only [List.drop_zero]; omega
  · rw [hC]
theorem assign7_own : PureOwnOK Try.prog 18 [ints, ints] [ints] (fun x => (List.length (α := Int) x.2.1 : Int) < big) (fun x => (asgL x.1 x.2.1, ())) :=
  fn_own (E := X3) (n := 100) X3_ok Try.func18 body7A (LpsOK.cons lZa (.cons lZc .nil)) fun x h => assign7_t x.1 x.2.1 h
theorem mv1 : LpsOK Try.prog Try.f20 [(0, LMo.sp)] := by
  refine .cons (LMo.sound X1_ok (lps := []) (n := 100) (inner rfl) (fun _ => rfl) ?_) .nil
  rintro ⟨l, m, i, k⟩ ⟨h1, h2, h3, h4⟩
  simp only at h1 h2 h3 h4
  rw [rMv]
  simp only [Tree.all, true_and, and_true, LoopC.Next, decide_eq_true_eq, decide_eq_false_iff_not]
  refine ⟨fun c => ⟨h1, h1, fun d => ?_, fun d => ?_⟩, fun c => by rw [cntB_end _ c]; omega⟩
  all_goals
    rw [i64_inc (by omega) (by omega)]
    try rw [i64_inc (i := k) (by omega) (by omega)]
    refine ⟨⟨by dsimp only; omega, by dsimp only; omega, by dsimp only; omega, by dsimp only; omega⟩, by simp only [LMo]; omega, ?_⟩
    simp only [LMo]
    have d' : (!(atL l i == atL m i)) = _ := d
    rw [cntB_step _ h1 c, show ((i.toNat : Nat) : Int) = i by omega, d']
    simp <;> omega
theorem mv7_t (l m : List Int) : (fnT X1 [(0, LMo.sp)] 100 Try.f20 [ints, ints] [i64] (l, m, ())).all fun y => y = (movL l m, ()) := by
  rw [tMv]
  simp only [Tree.all, true_and, and_true]
  exact ⟨by omega, by simp [movL]⟩
theorem mv7_ok : PureOK Try.prog 20 [ints, ints] [i64] (fun _ => True) (fun x => (movL x.1 x.2.1, ())) :=
  fn_pure (E := X1) (n := 100) X1_ok Try.func20 bodyMv mv1 fun x _ => mv7_t x.1 x.2.1
abbrev KF1 : Nat × Sx.Spec := (18, pureSp [ints, ints] [ints] (fun x => (List.length (α := Int) x.2.1 : Int) < big) (fun x => (asgL x.1 x.2.1, ())))
abbrev KF2 : Nat × Sx.Spec := (16, pureSp [ints, ints] [ints] (fun x => (List.length (α := Int) x.2.1 : Int) < big) (fun x => (quotaL x.1 x.2.1, ())))
abbrev KF3 : Nat × Sx.Spec := (20, pureSp [ints, ints] [i64] (fun _ => True) (fun x => (movL x.1 x.2.1, ())))
noncomputable abbrev XF : Ex := mkExM Try.prog [KAs, KQu, KMe, KMo, KSm, KAw, (10, fnI E0 [] 100 Try.f10), KPe, KF1, KF2, KF3]
theorem tF (now ms ot : List Int) : @Eq _
  (fnT XF [] 100 Try.f3 [ints, ints, ints] [.bool] (now, ms, ot, ()))
  (.fork (decide ((↑now.length : Int) > (100 : Int))) (
 .req (True) (
  .leaf ((true, ())))) (
 .fork (decide ((↑ms.length : Int) > (100 : Int))) (
  .req (True) (
   .leaf ((true, ())))) (
  .fork (decide ((↑ot.length : Int) > (100 : Int))) (
   .req (True) (
    .leaf ((true, ())))) (
   .req ((↑ms.length : Int) < (4611686018427387904 : Int)) (
    .req ((↑ms.length : Int) < (4611686018427387904 : Int) ∧ (-1 : Int) = (-1 : Int)) (
     .req ((↑(Pl.memL ms).length : Int) < (4611686018427387904 : Int)) (
      .fork (decide (Pl.memL ms = Pl.memL ms)) (
       .req ((↑ms.length : Int) < (4611686018427387904 : Int)) (
        .req ((↑ms.length : Int) < (4611686018427387904 : Int)) (
         .req ((↑(Pl.quotaL now ms).length : Int) < (4611686018427387904 : Int)) (
          .fork (decide (Pl.quotaL now ms = Pl.quotaL now ms)) (
           .req ((↑ms.length : Int) < (4611686018427387904 : Int)) (
            .req ((↑ms.length : Int) < (4611686018427387904 : Int)) (
             .req ((↑(Pl.asgL now ms).length : Int) < (4611686018427387904 : Int)) (
              .fork (decide (Pl.asgL now ms = Pl.asgL now ms)) (
               .req (True) (
                .req (True) (
                 .fork (Pl.movL now ot == Pl.movL now ot) (
                  .req (True) (
                   .leaf ((true, ())))) (
                  .leaf ((false, ())))))) (
               .leaf ((false, ()))))))) (
           .leaf ((false, ()))))))) (
       .leaf ((false, ()))))))))) : Tree (Bool × PUnit)) := by kernel_rfl
end Pl
namespace Pl
open Go Sx Go.Proofs Go.RowKit
theorem XF_ok : XF.Sound := mkExM_sound ⟨pureSp_ok assign_ok, pureSp_ok quotas_ok, pureSp_ok mem_ok, pureSp_ok mov_ok, pureSp_ok same_ok, pureSp_ok aw_ok, fnI_ok (E := E0) E0_ok Try.func10 bodyFew .nil, pureSp_ok peers_ok, pureSp_ok assign7_own.pure, pureSp_ok quotas7_own.pure, pureSp_ok mv7_ok, trivial⟩
theorem forms_t (now ms ot : List Int) : (fnT XF [] 100 Try.f3 [ints, ints, ints] [.bool] (now, ms, ot, ())).all fun y => y = (true, ()) := by
  refine Tree.all_eq (tF now ms ot) ?_
  show Tree.all (α := Bool × Unit) _ Yes
  have h1 := memL_len ms
  have h2 := quotaL_len now ms
  have h3 := asgL_len now ms
  simp only [all_leaf, all_fork, all_req, yes_t, yes_f, true_and, and_true, decide_eq_true_eq, decide_eq_false_iff_not, implies_true, conjP, beq_self_eq_true, not_true_eq_false, false_implies, Bool.true_eq_false, forall_const]
  intro c1 c2 c3
  omega
theorem bodyF : Try.f3.body = some (bodyOf Try.f3) := by kernel_rfl
theorem forms_ok : PureOK Try.prog 3 [ints, ints, ints] [.bool] (fun _ => True) (fun _ => (true, ())) :=
  fn_pure (E := XF) (n := 100) XF_ok Try.func3 bodyF .nil fun x _ => forms_t x.1 x.2.1 x.2.2.1
end Pl
