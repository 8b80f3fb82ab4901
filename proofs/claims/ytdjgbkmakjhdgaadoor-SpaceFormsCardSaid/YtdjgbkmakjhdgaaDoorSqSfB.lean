import Derived.Test.YtdjgbkmakjhdgaaDoorSqSfT
namespace Pl
open Go Sx Go.Proofs Go.RowKit
abbrev KsW : Nat × Sx.Spec := (16, pureSp [ints, i64] [i64] (fun x => 0 ≤ x.2.1 ∧ x.2.1 < 16) (fun x => (atS x.1 x.2.1, ())))
abbrev KIt8 : Nat × Sx.Spec := (23, pureSp [i64] [.str] (fun x => 0 ≤ x.1 ∧ x.1 < 8) (fun x => (chB x.1, ())))
noncomputable abbrev F1 : Ex := mkExM Tryd.prog [KsW, (17, fnI E0 [] 100 Tryd.f17), KIt8]
theorem F1_ok : F1.Sound := mkExM_sound ⟨pureSp_ok whose_ok, fnI_ok (E := E0) E0_ok Tryd.func17 fbNd .nil, pureSp_ok it_ok, trivial⟩
abbrev KrN : Nat × Sx.Spec := (8, pureSp [ints, i64] [i64] (fun _ => True) (fun x => (nextS x.1 x.2.1, ())))
abbrev KrC : Nat × Sx.Spec := (6, pureSp [ints] [ints] (fun _ => True) (fun x => (countsS x.1, ())))
noncomputable abbrev F2 : Ex := mkExM Tryd.prog [KsW, (17, fnI E0 [] 100 Tryd.f17), KrN, KrC]
def preB (l : List Int) (p : Int) : ByteArray := ⟨((txtL l).take p.toNat).toArray⟩
structure ACr where
  l : List Int
  o : List Int
  q : Int
def LCr : LoopC ACr where
  n0 := 2
  det st := match rowS st 0 i64, rowS st 3 i64, intS st 7 with | some l, some l0, some i1 => some ⟨l, l0, i1⟩ | _, _, _ => none
  inv a := ⟨[(7, iv a.q), (3, .one (.row 1)), (0, .one (.row 0))],
    [(1, .own i64 a.o), (0, .ro i64 a.l)], 2⟩
  ok a := 0 ≤ a.q ∧ a.q ≤ 16 ∧ a.o.length = 8 ∧ ∀ x ∈ a.o, 0 ≤ x ∧ x ≤ a.q
  mu a := 16 - a.q.toNat
  fin a := .leaf ⟨2, ⟨[(3, .one (.row 1))], [(1, .own i64 (cnF a.l (16 - a.q.toNat) a.q.toNat a.o))], 2⟩⟩
theorem rCr (l o : List Int) (q : Int) : @Eq _
  (LCr.round F1 [] 100 Tryd.f6 0 ⟨l, o, q⟩)
  (.fork (decide (q < (16 : Int))) (
 .req ((0 : Int) ≤ q ∧ q < (16 : Int)) (
  .fork (decide (Pl.atS l q ≥ (0 : Int))) (
   .req ((0 : Int) ≤ Pl.atS l q ∧ Pl.atS l q < (↑o.length : Int)) (
    .req ((0 : Int) ≤ Pl.atS l q ∧ Pl.atS l q < (↑o.length : Int)) (
     .req ((0 : Int) ≤ Pl.atS l q ∧ Pl.atS l q < (↑o.length : Int)) (
      .req ((0 : Int) ≤ Pl.atS l q ∧ Pl.atS l q < (↑o.length : Int)) (
       .req (IntKind.i64.wrap (q + (1 : Int)) = IntKind.i64.wrap (q + (1 : Int)) ∧ o.set (Pl.atS l q).toNat (IntKind.i64.wrap (o.getD (Pl.atS l q).toNat (0 : Int) + (1 : Int))) = o.set (Pl.atS l q).toNat (IntKind.i64.wrap (o.getD (Pl.atS l q).toNat (0 : Int) + (1 : Int))) ∧ l = l) (
        .leaf (Option.some { l := l, o := o.set (Pl.atS l q).toNat (IntKind.i64.wrap (o.getD (Pl.atS l q).toNat (0 : Int) + (1 : Int))), q := IntKind.i64.wrap (q + (1 : Int)) }))))))) (
   .req (IntKind.i64.wrap (q + (1 : Int)) = IntKind.i64.wrap (q + (1 : Int)) ∧ o = o ∧ l = l) (
    .leaf (Option.some { l := l, o := o, q := IntKind.i64.wrap (q + (1 : Int)) }))))) (
 .req (o = Pl.cnF l (16 - q.toNat) q.toNat o) (
  .leaf (Option.none))) : Tree (Option Pl.ACr)) := by kernel_rfl
theorem tCr (l : List Int) : @Eq _
  (fnT F1 [(0, LCr.sp)] 100 Tryd.f6 [ints] [ints] (l, ()))
  (.req ((0 : Int) ≤ (8 : Int) ∧ (8 : Int) ≤ (8 : Int) ∧ (64 : Int) ≤ (140737488355328 : Int) ∧ (8 : Int) ≤ (140737488355328 : Int)) (
 .req ((0 : Int) ≤ (0 : Int) ∧ (0 : Int) ≤ (16 : Int) ∧ 8 = 8 ∧ ∀ (x : Int), x ∈ List.replicate 8 (0 : Int) → (0 : Int) ≤ x ∧ x ≤ (0 : Int)) (
  .req ((0 : Int) = (0 : Int) ∧ List.replicate 8 (0 : Int) = List.replicate 8 (0 : Int) ∧ l = l) (
   .leaf ((Pl.cnF l 16 0 (List.replicate 8 (0 : Int)), ()))))) : Tree (List Int × PUnit)) := by kernel_rfl
def nrF (l : List Int) (p : Int) : Nat → Int → Int
  | 0, _ => 16
  | c + 1, k => if atS l ((p + k) % 16) = atS l p then k else nrF l p c (k + 1)
structure ANr where
  l : List Int
  p : Int
  i : Int
def LNr : LoopC ANr where
  n0 := 1
  det st := match rowS st 0 i64, intS st 1, intS st 5 with | some l, some p, some i0 => some ⟨l, p, i0⟩ | _, _, _ => none
  inv a := ⟨[(5, iv a.i), (0, .one (.row 0)), (1, iv a.p)],
    [(0, .ro i64 a.l)], 1⟩
  ok a := 0 ≤ a.p ∧ a.p < 16 ∧ 1 ≤ a.i ∧ a.i ≤ 16
  mu a := 16 - a.i.toNat
  fin a := .fork (decide (nrF a.l a.p (16 - a.i.toNat) a.i < 16)) (.leaf ⟨1, ⟨[(4, iv (nrF a.l a.p (16 - a.i.toNat) a.i))], [], 1⟩⟩) (.leaf ⟨2, ⟨[], [], 1⟩⟩)
theorem rNr (l : List Int) (p i : Int) : @Eq _
  (LNr.round F1 [] 100 Tryd.f8 0 ⟨l, p, i⟩)
  (.fork (decide (i < (16 : Int))) (
 .req ((16 : Int) ≠ (0 : Int)) (
  .req ((0 : Int) ≤ (IntKind.i64.wrap (p + i)).tmod (16 : Int) ∧ (IntKind.i64.wrap (p + i)).tmod (16 : Int) < (16 : Int)) (
   .req ((0 : Int) ≤ p ∧ p < (16 : Int)) (
    .fork (Pl.atS l ((IntKind.i64.wrap (p + i)).tmod (16 : Int)) == Pl.atS l p) (
     .fork (decide (Pl.nrF l p (16 - i.toNat) i < (16 : Int))) (
      .req (i = Pl.nrF l p (16 - i.toNat) i) (
       .leaf (Option.none))) (
      .req (False) (
       .leaf (Option.none)))) (
     .req (IntKind.i64.wrap (i + (1 : Int)) = IntKind.i64.wrap (i + (1 : Int)) ∧ p = p ∧ l = l) (
      .leaf (Option.some { l := l, p := p, i := IntKind.i64.wrap (i + (1 : Int)) }))))))) (
 .fork (decide (Pl.nrF l p (16 - i.toNat) i < (16 : Int))) (
  .req (False) (
   .leaf (Option.none))) (
  .req (True) (
   .leaf (Option.none)))) : Tree (Option Pl.ANr)) := by kernel_rfl
theorem tNr (l : List Int) (p : Int) : @Eq _
  (fnT F1 [(0, LNr.sp)] 100 Tryd.f8 [ints, i64] [i64] (l, p, ()))
  (.req (decide (p < (0 : Int)) = false → conjP [decide (p ≥ (16 : Int)) = false → conjP [(0 : Int) ≤ p ∧ p < (16 : Int)]]) (
 .fork (decide (p < (0 : Int)) || (decide (p ≥ (16 : Int)) || decide (Pl.atS l p < (0 : Int)))) (
  .leaf (((0 : Int), ()))) (
  .req ((0 : Int) ≤ p ∧ p < (16 : Int) ∧ (1 : Int) ≤ (1 : Int) ∧ (1 : Int) ≤ (16 : Int)) (
   .req ((1 : Int) = (1 : Int) ∧ p = p ∧ l = l) (
    .fork (decide (Pl.nrF l p 15 (1 : Int) < (16 : Int))) (
     .leaf ((Pl.nrF l p 15 (1 : Int), ()))) (
     .leaf (((16 : Int), ()))))))) : Tree (Int × PUnit)) := by kernel_rfl
structure ALr where
  l : List Int
  nd : Int
  q : Int
  o : Int
def LLr : LoopC ALr where
  n0 := 1
  det st := match rowS st 0 i64, intS st 1, intS st 8, intS st 5 with | some l, some p, some i0, some i1 => some ⟨l, p, i0, i1⟩ | _, _, _, _ => none
  inv a := ⟨[(8, iv a.q), (5, iv a.o), (0, .one (.row 0)), (1, iv a.nd)],
    [(0, .ro i64 a.l)], 1⟩
  ok a := 0 ≤ a.q ∧ a.q ≤ 16
  mu a := 16 - a.q.toNat
  fin a := .leaf ⟨2, ⟨[(5, iv (lsF a.l a.nd (16 - a.q.toNat) a.q.toNat a.o))], [], 1⟩⟩
theorem rLr (l : List Int) (nd q o : Int) : @Eq _
  (LLr.round F2 [] 100 Tryd.f10 0 ⟨l, nd, q, o⟩)
  (.fork (decide (q < (16 : Int))) (
 .req (decide (nd ≥ (0 : Int)) = true → conjP ((decide (nd < (8 : Int)) = true → conjP [(0 : Int) ≤ q ∧ q < (16 : Int)]) :: ([] : List Prop))) (
  .fork (decide (nd ≥ (0 : Int)) && (decide (nd < (8 : Int)) && Pl.atS l q == nd)) (
   .req (True) (
    .req (True) (
     .fork (o == (0 : Int) || decide (Pl.nextS l q < o)) (
      .req (IntKind.i64.wrap (q + (1 : Int)) = IntKind.i64.wrap (q + (1 : Int)) ∧ Pl.nextS l q = Pl.nextS l q ∧ nd = nd ∧ l = l) (
       .leaf (Option.some { l := l, nd := nd, q := IntKind.i64.wrap (q + (1 : Int)), o := Pl.nextS l q }))) (
      .req (IntKind.i64.wrap (q + (1 : Int)) = IntKind.i64.wrap (q + (1 : Int)) ∧ o = o ∧ nd = nd ∧ l = l) (
       .leaf (Option.some { l := l, nd := nd, q := IntKind.i64.wrap (q + (1 : Int)), o := o })))))) (
   .req (IntKind.i64.wrap (q + (1 : Int)) = IntKind.i64.wrap (q + (1 : Int)) ∧ o = o ∧ nd = nd ∧ l = l) (
    .leaf (Option.some { l := l, nd := nd, q := IntKind.i64.wrap (q + (1 : Int)), o := o }))))) (
 .req (o = Pl.lsF l nd (16 - q.toNat) q.toNat o) (
  .leaf (Option.none))) : Tree (Option Pl.ALr)) := by kernel_rfl
theorem tLr (l : List Int) (nd : Int) : @Eq _
  (fnT F2 [(0, LLr.sp)] 100 Tryd.f10 [ints, i64] [i64] (l, nd, ()))
  (.req ((0 : Int) ≤ (0 : Int) ∧ (0 : Int) ≤ (16 : Int)) (
 .req ((0 : Int) = (0 : Int) ∧ (0 : Int) = (0 : Int) ∧ nd = nd ∧ l = l) (
  .leaf ((Pl.lsF l nd 16 0 (0 : Int), ())))) : Tree (Int × PUnit)) := by kernel_rfl
def unG (c : List Int) : List Int → Bool → Int → Int → Int × Int
  | [], _, mo, le => (mo, le)
  | n :: r, b, mo, le => if nodeB n then unG c r true (if !b || decide (c.getD n.toNat 0 > mo) then c.getD n.toNat 0 else mo) (if !b || decide (c.getD n.toNat 0 < le) then c.getD n.toNat 0 else le) else unG c r b mo le
structure AUr where
  m : List Int
  c : List Int
  i : Int
  b : Bool
  le : Int
  mo : Int
def LUr : LoopC AUr where
  n0 := 3
  det st := match rowS st 13 i64, rowS st 5 i64, intS st 15, boolS st 8, intS st 7, intS st 6 with | some m, some l0, some i1, some b2, some i3, some i4 => some ⟨m, l0, i1, b2, i3, i4⟩ | _, _, _, _, _, _ => none
  inv a := ⟨[(15, iv a.i), (14, iv (↑a.m.length : Int)), (13, .one (.row 1)), (8, .one (.bool a.b)), (7, iv a.le), (6, iv a.mo), (5, .one (.row 2))],
    [(2, .ro i64 a.c), (1, .ro i64 a.m)], 3⟩
  ok a := 0 ≤ a.i ∧ a.i ≤ a.m.length ∧ (a.m.length : Int) < big ∧ a.c.length = 8
  mu a := a.m.length - a.i.toNat
  fin a := .leaf ⟨2, ⟨[(7, iv (unG a.c (a.m.drop a.i.toNat) a.b a.mo a.le).2), (6, iv (unG a.c (a.m.drop a.i.toNat) a.b a.mo a.le).1)],
    [], 3⟩⟩
theorem rUr (m c : List Int) (i : Int) (b : Bool) (le mo : Int) : @Eq _
  (LUr.round F2 [] 100 Tryd.f12 0 ⟨m, c, i, b, le, mo⟩)
  (.fork (decide (i < (↑m.length : Int))) (
 .req ((0 : Int) ≤ i ∧ i < (↑m.length : Int)) (
  .req ((0 : Int) ≤ i ∧ i < (↑m.length : Int)) (
   .req (True) (
    .fork (!decide (m.getD i.toNat (0 : Int) ≥ (0 : Int)) || !decide (m.getD i.toNat (0 : Int) < (8 : Int))) (
     .req (IntKind.i64.wrap (i + (1 : Int)) = IntKind.i64.wrap (i + (1 : Int)) ∧ (↑m.length : Int) = (↑m.length : Int) ∧ b = b ∧ le = le ∧ mo = mo ∧ c = c ∧ m = m) (
      .leaf (Option.some { m := m, c := c, i := IntKind.i64.wrap (i + (1 : Int)), b := b, le := le, mo := mo }))) (
     .req ((!b) = false → conjP [(0 : Int) ≤ m.getD i.toNat (0 : Int) ∧ m.getD i.toNat (0 : Int) < (↑c.length : Int), (0 : Int) ≤ m.getD i.toNat (0 : Int) ∧ m.getD i.toNat (0 : Int) < (↑c.length : Int)]) (
      .fork (!b || decide (c.getD (m.getD i.toNat (0 : Int)).toNat (0 : Int) > mo)) (
       .req ((0 : Int) ≤ m.getD i.toNat (0 : Int) ∧ m.getD i.toNat (0 : Int) < (↑c.length : Int)) (
        .req ((0 : Int) ≤ m.getD i.toNat (0 : Int) ∧ m.getD i.toNat (0 : Int) < (↑c.length : Int)) (
         .req ((!b) = false → conjP [(0 : Int) ≤ m.getD i.toNat (0 : Int) ∧ m.getD i.toNat (0 : Int) < (↑c.length : Int), (0 : Int) ≤ m.getD i.toNat (0 : Int) ∧ m.getD i.toNat (0 : Int) < (↑c.length : Int)]) (
          .fork (!b || decide (c.getD (m.getD i.toNat (0 : Int)).toNat (0 : Int) < le)) (
           .req ((0 : Int) ≤ m.getD i.toNat (0 : Int) ∧ m.getD i.toNat (0 : Int) < (↑c.length : Int)) (
            .req ((0 : Int) ≤ m.getD i.toNat (0 : Int) ∧ m.getD i.toNat (0 : Int) < (↑c.length : Int)) (
             .req (IntKind.i64.wrap (i + (1 : Int)) = IntKind.i64.wrap (i + (1 : Int)) ∧ (↑m.length : Int) = (↑m.length : Int) ∧ true = true ∧ c.getD (m.getD i.toNat (0 : Int)).toNat (0 : Int) = c.getD (m.getD i.toNat (0 : Int)).toNat (0 : Int) ∧ c.getD (m.getD i.toNat (0 : Int)).toNat (0 : Int) = c.getD (m.getD i.toNat (0 : Int)).toNat (0 : Int) ∧ c = c ∧ m = m) (
              .leaf (Option.some { m := m, c := c, i := IntKind.i64.wrap (i + (1 : Int)), b := true, le := c.getD (m.getD i.toNat (0 : Int)).toNat (0 : Int), mo := c.getD (m.getD i.toNat (0 : Int)).toNat (0 : Int) }))))) (
           .req (IntKind.i64.wrap (i + (1 : Int)) = IntKind.i64.wrap (i + (1 : Int)) ∧ (↑m.length : Int) = (↑m.length : Int) ∧ true = true ∧ le = le ∧ c.getD (m.getD i.toNat (0 : Int)).toNat (0 : Int) = c.getD (m.getD i.toNat (0 : Int)).toNat (0 : Int) ∧ c = c ∧ m = m) (
            .leaf (Option.some { m := m, c := c, i := IntKind.i64.wrap (i + (1 : Int)), b := true, le := le, mo := c.getD (m.getD i.toNat (0 : Int)).toNat (0 : Int) }))))))) (
       .req ((!b) = false → conjP [(0 : Int) ≤ m.getD i.toNat (0 : Int) ∧ m.getD i.toNat (0 : Int) < (↑c.length : Int), (0 : Int) ≤ m.getD i.toNat (0 : Int) ∧ m.getD i.toNat (0 : Int) < (↑c.length : Int)]) (
        .fork (!b || decide (c.getD (m.getD i.toNat (0 : Int)).toNat (0 : Int) < le)) (
         .req ((0 : Int) ≤ m.getD i.toNat (0 : Int) ∧ m.getD i.toNat (0 : Int) < (↑c.length : Int)) (
          .req ((0 : Int) ≤ m.getD i.toNat (0 : Int) ∧ m.getD i.toNat (0 : Int) < (↑c.length : Int)) (
           .req (IntKind.i64.wrap (i + (1 : Int)) = IntKind.i64.wrap (i + (1 : Int)) ∧ (↑m.length : Int) = (↑m.length : Int) ∧ true = true ∧ c.getD (m.getD i.toNat (0 : Int)).toNat (0 : Int) = c.getD (m.getD i.toNat (0 : Int)).toNat (0 : Int) ∧ mo = mo ∧ c = c ∧ m = m) (
            .leaf (Option.some { m := m, c := c, i := IntKind.i64.wrap (i + (1 : Int)), b := true, le := c.getD (m.getD i.toNat (0 : Int)).toNat (0 : Int), mo := mo }))))) (
         .req (IntKind.i64.wrap (i + (1 : Int)) = IntKind.i64.wrap (i + (1 : Int)) ∧ (↑m.length : Int) = (↑m.length : Int) ∧ true = true ∧ le = le ∧ mo = mo ∧ c = c ∧ m = m) (
          .leaf (Option.some { m := m, c := c, i := IntKind.i64.wrap (i + (1 : Int)), b := true, le := le, mo := mo }))))))))))) (
 .req (le = (Pl.unG c (List.drop i.toNat m) b mo le).2 ∧ mo = (Pl.unG c (List.drop i.toNat m) b mo le).1) (
  .leaf (Option.none))) : Tree (Option Pl.AUr)) := by kernel_rfl
theorem tUr (l m : List Int) : @Eq _
  (fnT F2 [(0, LUr.sp)] 100 Tryd.f12 [ints, ints] [i64] (l, m, ()))
  (.req (True) (
 .req ((0 : Int) ≤ (0 : Int) ∧ (0 : Int) ≤ (↑m.length : Int) ∧ (↑m.length : Int) < (4611686018427387904 : Int) ∧ (Pl.countsS l).length = 8) (
  .req ((0 : Int) = (0 : Int) ∧ (↑m.length : Int) = (↑m.length : Int) ∧ false = false ∧ (0 : Int) = (0 : Int) ∧ (0 : Int) = (0 : Int) ∧ Pl.countsS l = Pl.countsS l ∧ m = m) (
   .leaf ((IntKind.i64.wrap ((Pl.unG (Pl.countsS l) m false (0 : Int) (0 : Int)).1 - (Pl.unG (Pl.countsS l) m false (0 : Int) (0 : Int)).2), ()))))) : Tree (Int × PUnit)) := by kernel_rfl
structure ATr where
  l : List Int
  s : ByteArray
  i : Int
def LTr : LoopC ATr where
  n0 := 1
  det st := match rowS st 0 i64, strS st 3, intS st 6 with | some l, some s0, some i1 => some ⟨l, s0, i1⟩ | _, _, _ => none
  inv a := ⟨[(6, iv a.i), (3, .one (.str a.s)), (0, .one (.row 0))],
    [(0, .ro i64 a.l)], 1⟩
  ok a := 0 ≤ a.i ∧ a.i ≤ 16 ∧ a.s = preB a.l a.i
  mu a := 16 - a.i.toNat
  fin a := .leaf ⟨2, ⟨[(3, .one (.str (txtB a.l)))],
    [], 1⟩⟩
theorem rTr (l : List Int) (s : ByteArray) (i : Int) : @Eq _
  (LTr.round F1 [] 100 Tryd.f14 0 ⟨l, s, i⟩)
  (.fork (decide (i < (16 : Int))) (
 .req ((0 : Int) ≤ i ∧ i < (16 : Int)) (
  .fork (decide (Pl.atS l i ≥ (0 : Int))) (
   .req ((0 : Int) ≤ Pl.atS l i ∧ Pl.atS l i < (8 : Int)) (
    .req ((↑(s.size + 1) : Int) ≤ (9223372036854775807 : Int)) (
     .req (IntKind.i64.wrap (i + (1 : Int)) = IntKind.i64.wrap (i + (1 : Int)) ∧ s ++ Pl.chB (Pl.atS l i) = s ++ Pl.chB (Pl.atS l i) ∧ l = l) (
      .leaf (Option.some { l := l, s := s ++ Pl.chB (Pl.atS l i), i := IntKind.i64.wrap (i + (1 : Int)) }))))) (
   .req ((↑(s.size + 1) : Int) ≤ (9223372036854775807 : Int)) (
    .req (IntKind.i64.wrap (i + (1 : Int)) = IntKind.i64.wrap (i + (1 : Int)) ∧ s ++ (ByteArray.mk (Array.mk [45])) = s ++ (ByteArray.mk (Array.mk [45])) ∧ l = l) (
     .leaf (Option.some { l := l, s := s ++ (ByteArray.mk (Array.mk [45])), i := IntKind.i64.wrap (i + (1 : Int)) })))))) (
 .req (s = Pl.txtB l) (
  .leaf (Option.none))) : Tree (Option Pl.ATr)) := by kernel_rfl
theorem tTr (l : List Int) : @Eq _
  (fnT F1 [(0, LTr.sp)] 100 Tryd.f14 [ints] [.str] (l, ()))
  (.req ((0 : Int) ≤ (0 : Int) ∧ (0 : Int) ≤ (16 : Int) ∧ (ByteArray.mk (Array.mk ([] : List UInt8))) = Pl.preB l (0 : Int)) (
 .req ((0 : Int) = (0 : Int) ∧ (ByteArray.mk (Array.mk ([] : List UInt8))) = (ByteArray.mk (Array.mk ([] : List UInt8))) ∧ l = l) (
  .leaf ((Pl.txtB l, ())))) : Tree (ByteArray × PUnit)) := by kernel_rfl
end Pl
