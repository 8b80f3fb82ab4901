import Derived.Test.YtdjgbkmakjhdgaaSpSpE
namespace Pl
open Go Sx Go.Proofs Go.RowKit
theorem bodyNd : Try.f10.body = some (bodyOf Try.f10) := by kernel_rfl
noncomputable abbrev M9 : Ex := mkExM Try.prog [KsT, KAw, KsN, KsL, KsU, KsC, (10, fnI E0 [] 100 Try.f10)]
theorem M9_ok : M9.Sound := mkExM_sound ⟨pureSp_ok text_ok, pureSp_ok aw_ok, pureSp_ok next_ok, pureSp_ok least_ok, pureSp_ok uneven_ok, pureSp_ok counts_ok, fnI_ok (E := E0) E0_ok Try.func10 bodyNd .nil, trivial⟩
def cjS (a : List Int) (p : Int) : Nat → Int
  | 0 => 0
  | t + 1 => cjS a p t + if atS a ((p + (t : Int)) % 16) = atS a p then 1 else 0
def msS (a : List Int) (p : Int) : Nat → Int
  | 0 => 16
  | t + 1 => if atS a ((p + (t : Int)) % 16) = atS a p then (if nextS a ((p + (t : Int)) % 16) < msS a p t then nextS a ((p + (t : Int)) % 16) else msS a p t) else msS a p t
structure ARo where
  a : List Int
  p : Int
  t : Int
  i : Int
  m : Int
  s : Int
  u : Int
def LRo : LoopC ARo where
  n0 := 1
  det st := match rowS st 0 i64, intS st 1, intS st 6, intS st 41, intS st 9, intS st 8, intS st 7 with | some a, some p, some n0, some i1, some i2, some i3, some i4 => some ⟨a, p, n0, i1, i2, i3, i4⟩ | _, _, _, _, _, _, _ => none
  inv a := ⟨[(41, iv a.i), (9, iv a.m), (8, iv a.s), (7, iv a.u), (6, iv a.t), (1, iv a.p), (0, .one (.row 0))],
    [(0, .ro i64 a.a)], 1⟩
  ok a := 0 ≤ a.p ∧ a.p < 16 ∧ atS a.a a.p ≠ -1 ∧ 0 ≤ a.i ∧ a.i ≤ a.u ∧ a.u < 16 ∧ a.t = (a.p + a.u) % 16 ∧ atS a.a a.t = atS a.a a.p ∧ a.s = cjS a.a a.p a.u.toNat ∧ 0 ≤ a.s ∧ a.s ≤ a.u ∧ a.m = msS a.a a.p a.u.toNat
  mu a := 17 - a.i.toNat
  fin a := .leaf ⟨2, ⟨[(8, iv (cjS a.a a.p 16)), (9, iv (msS a.a a.p 16)), (7, iv 16), (1, iv a.p), (0, .one (.row 0))],
    [(0, .ro i64 a.a)], 1⟩⟩
theorem rRo (a : List Int) (p t i m s u : Int) : @Eq _
  (LRo.round M9 [] 100 Try.f4 0 ⟨a, p, t, i, m, s, u⟩)
  (.fork (decide (i < (16 : Int))) (
 .req (True) (
  .req (True) (
   .fork (decide (Pl.nextS a t < (1 : Int)) || decide (Pl.nextS a t > (16 : Int))) (
    .req (False) (
     .leaf (Option.none))) (
    .req ((16 : Int) ≠ (0 : Int)) (
     .req (decide ((IntKind.i64.wrap (t + Pl.nextS a t)).tmod (16 : Int) ≥ (↑a.length : Int)) = false → conjP [(0 : Int) ≤ (IntKind.i64.wrap (t + Pl.nextS a t)).tmod (16 : Int) ∧ (IntKind.i64.wrap (t + Pl.nextS a t)).tmod (16 : Int) < (↑a.length : Int), (0 : Int) ≤ (IntKind.i64.wrap (t + Pl.nextS a t)).tmod (16 : Int) ∧ (IntKind.i64.wrap (t + Pl.nextS a t)).tmod (16 : Int) < (↑a.length : Int), (0 : Int) ≤ p ∧ p < (↑a.length : Int), (0 : Int) ≤ p ∧ p < (↑a.length : Int)]) (
      .fork (decide ((IntKind.i64.wrap (t + Pl.nextS a t)).tmod (16 : Int) ≥ (↑a.length : Int)) || a.getD ((IntKind.i64.wrap (t + Pl.nextS a t)).tmod (16 : Int)).toNat (0 : Int) != a.getD p.toNat (0 : Int)) (
       .req (False) (
        .leaf (Option.none))) (
       .fork ((IntKind.i64.wrap (t + Pl.nextS a t)).tmod (16 : Int) == p) (
        .req (IntKind.i64.wrap (s + (1 : Int)) = Pl.cjS a p 16 ∧ (if Pl.nextS a t < m then Pl.nextS a t else m) = Pl.msS a p 16 ∧ IntKind.i64.wrap (u + Pl.nextS a t) = (16 : Int) ∧ p = p ∧ a = a) (
         .leaf (Option.none))) (
        .req (IntKind.i64.wrap (i + (1 : Int)) = IntKind.i64.wrap (i + (1 : Int)) ∧ ((if Pl.nextS a t < m then Pl.nextS a t else m) = if Pl.nextS a t < m then Pl.nextS a t else m) ∧ IntKind.i64.wrap (s + (1 : Int)) = IntKind.i64.wrap (s + (1 : Int)) ∧ IntKind.i64.wrap (u + Pl.nextS a t) = IntKind.i64.wrap (u + Pl.nextS a t) ∧ (IntKind.i64.wrap (t + Pl.nextS a t)).tmod (16 : Int) = (IntKind.i64.wrap (t + Pl.nextS a t)).tmod (16 : Int) ∧ p = p ∧ a = a) (
         .leaf (Option.some { a := a, p := p, t := (IntKind.i64.wrap (t + Pl.nextS a t)).tmod (16 : Int), i := IntKind.i64.wrap (i + (1 : Int)), m := if Pl.nextS a t < m then Pl.nextS a t else m, s := IntKind.i64.wrap (s + (1 : Int)), u := IntKind.i64.wrap (u + Pl.nextS a t) })))))))))) (
 .req (s = Pl.cjS a p 16 ∧ m = Pl.msS a p 16 ∧ u = (16 : Int) ∧ p = p ∧ a = a) (
  .leaf (Option.none))) : Tree (Option Pl.ARo)) := by kernel_rfl
theorem tRo (a : List Int) (p : Int) : @Eq _
  (fnT M9 [(0, LRo.sp)] 100 Try.f4 [ints, i64] [.bool] (a, p, ()))
  (.fork (decide ((↑a.length : Int) > (100 : Int))) (
 .req (True) (
  .leaf ((true, ())))) (
 .req ((16 : Int) ≠ (0 : Int)) (
  .req (True) (
   .req (decide (IntKind.i64.wrap ((IntKind.u64.wrap p).tmod (16 : Int)) ≥ (↑a.length : Int)) = false → conjP [(0 : Int) ≤ IntKind.i64.wrap ((IntKind.u64.wrap p).tmod (16 : Int)) ∧ IntKind.i64.wrap ((IntKind.u64.wrap p).tmod (16 : Int)) < (↑a.length : Int), (0 : Int) ≤ IntKind.i64.wrap ((IntKind.u64.wrap p).tmod (16 : Int)) ∧ IntKind.i64.wrap ((IntKind.u64.wrap p).tmod (16 : Int)) < (↑a.length : Int)]) (
    .fork (decide (IntKind.i64.wrap ((IntKind.u64.wrap p).tmod (16 : Int)) ≥ (↑a.length : Int)) || (!decide (a.getD (IntKind.i64.wrap ((IntKind.u64.wrap p).tmod (16 : Int))).toNat (0 : Int) ≥ (0 : Int)) || !decide (a.getD (IntKind.i64.wrap ((IntKind.u64.wrap p).tmod (16 : Int))).toNat (0 : Int) < (8 : Int)))) (
     .req ((Pl.nextS a (IntKind.i64.wrap ((IntKind.u64.wrap p).tmod (16 : Int))) == (0 : Int)) = true → conjP [True]) (
      .leaf ((Pl.nextS a (IntKind.i64.wrap ((IntKind.u64.wrap p).tmod (16 : Int))) == (0 : Int) && true, ())))) (
     .req ((0 : Int) ≤ IntKind.i64.wrap ((IntKind.u64.wrap p).tmod (16 : Int)) ∧ IntKind.i64.wrap ((IntKind.u64.wrap p).tmod (16 : Int)) < (16 : Int) ∧ Pl.atS a (IntKind.i64.wrap ((IntKind.u64.wrap p).tmod (16 : Int))) ≠ (-1 : Int) ∧ (0 : Int) ≤ (0 : Int) ∧ (0 : Int) ≤ (0 : Int) ∧ (0 : Int) < (16 : Int) ∧ IntKind.i64.wrap ((IntKind.u64.wrap p).tmod (16 : Int)) = (IntKind.i64.wrap ((IntKind.u64.wrap p).tmod (16 : Int)) + (0 : Int)) % (16 : Int) ∧ Pl.atS a (IntKind.i64.wrap ((IntKind.u64.wrap p).tmod (16 : Int))) = Pl.atS a (IntKind.i64.wrap ((IntKind.u64.wrap p).tmod (16 : Int))) ∧ (0 : Int) = (0 : Int) ∧ (0 : Int) ≤ (0 : Int) ∧ (0 : Int) ≤ (0 : Int) ∧ (16 : Int) = (16 : Int)) (
      .req ((0 : Int) = (0 : Int) ∧ (16 : Int) = (16 : Int) ∧ (0 : Int) = (0 : Int) ∧ (0 : Int) = (0 : Int) ∧ IntKind.i64.wrap ((IntKind.u64.wrap p).tmod (16 : Int)) = IntKind.i64.wrap ((IntKind.u64.wrap p).tmod (16 : Int)) ∧ IntKind.i64.wrap ((IntKind.u64.wrap p).tmod (16 : Int)) = IntKind.i64.wrap ((IntKind.u64.wrap p).tmod (16 : Int)) ∧ a = a) (
       .req (True) (
        .req (((↑(Pl.countsS a).length : Int) == (8 : Int)) = true → conjP ((true = true → conjP [(0 : Int) ≤ IntKind.i64.wrap ((IntKind.u64.wrap p).tmod (16 : Int)) ∧ IntKind.i64.wrap ((IntKind.u64.wrap p).tmod (16 : Int)) < (↑a.length : Int), (0 : Int) ≤ IntKind.i64.wrap ((IntKind.u64.wrap p).tmod (16 : Int)) ∧ IntKind.i64.wrap ((IntKind.u64.wrap p).tmod (16 : Int)) < (↑a.length : Int), (0 : Int) ≤ a.getD (IntKind.i64.wrap ((IntKind.u64.wrap p).tmod (16 : Int))).toNat (0 : Int) ∧ a.getD (IntKind.i64.wrap ((IntKind.u64.wrap p).tmod (16 : Int))).toNat (0 : Int) < (↑(Pl.countsS a).length : Int), (0 : Int) ≤ a.getD (IntKind.i64.wrap ((IntKind.u64.wrap p).tmod (16 : Int))).toNat (0 : Int) ∧ a.getD (IntKind.i64.wrap ((IntKind.u64.wrap p).tmod (16 : Int))).toNat (0 : Int) < (↑(Pl.countsS a).length : Int), (Pl.cjS a (IntKind.i64.wrap ((IntKind.u64.wrap p).tmod (16 : Int))) 16 == (Pl.countsS a).getD (a.getD (IntKind.i64.wrap ((IntKind.u64.wrap p).tmod (16 : Int))).toNat (0 : Int)).toNat (0 : Int)) = true → conjP [(0 : Int) ≤ IntKind.i64.wrap ((IntKind.u64.wrap p).tmod (16 : Int)) ∧ IntKind.i64.wrap ((IntKind.u64.wrap p).tmod (16 : Int)) < (↑a.length : Int), (0 : Int) ≤ IntKind.i64.wrap ((IntKind.u64.wrap p).tmod (16 : Int)) ∧ IntKind.i64.wrap ((IntKind.u64.wrap p).tmod (16 : Int)) < (↑a.length : Int), True, (Pl.leastS a (a.getD (IntKind.i64.wrap ((IntKind.u64.wrap p).tmod (16 : Int))).toNat (0 : Int)) == Pl.msS a (IntKind.i64.wrap ((IntKind.u64.wrap p).tmod (16 : Int))) 16) = true → conjP [True]]]) :: ([] : List Prop))) (
         .leaf (((↑(Pl.countsS a).length : Int) == (8 : Int) && (Pl.cjS a (IntKind.i64.wrap ((IntKind.u64.wrap p).tmod (16 : Int))) 16 == (Pl.countsS a).getD (a.getD (IntKind.i64.wrap ((IntKind.u64.wrap p).tmod (16 : Int))).toNat (0 : Int)).toNat (0 : Int) && (Pl.leastS a (a.getD (IntKind.i64.wrap ((IntKind.u64.wrap p).tmod (16 : Int))).toNat (0 : Int)) == Pl.msS a (IntKind.i64.wrap ((IntKind.u64.wrap p).tmod (16 : Int))) 16 && true)), ()))))))))))) : Tree (Bool × PUnit)) := by kernel_rfl
theorem tTu (a m : List Int) (k n : Int) : @Eq _
  (fnT M9 [] 100 Try.f5 [ints, ints, i64, i64] [.bool] (a, m, k, n, ()))
  (.req (True) (
 .fork ((↑a.length : Int) != (16 : Int) || decide ((↑m.length : Int) > (100 : Int))) (
  .req (True) (
   .leaf ((true, ())))) (
  .req ((16 : Int) ≠ (0 : Int)) (
   .req ((0 : Int) ≤ IntKind.i64.wrap ((IntKind.u64.wrap k).tmod (16 : Int)) ∧ IntKind.i64.wrap ((IntKind.u64.wrap k).tmod (16 : Int)) ≤ (↑a.length : Int) ∧ (↑a.length : Int) ≤ (↑a.length : Int)) (
    .req ((0 + (List.take ((↑a.length : Int).toNat - (IntKind.i64.wrap ((IntKind.u64.wrap k).tmod (16 : Int))).toNat) (List.drop (IntKind.i64.wrap ((IntKind.u64.wrap k).tmod (16 : Int))).toNat a)).length) * 9 ≤ 70368744177664) (
     .req ((0 : Int) ≤ (0 : Int) ∧ (0 : Int) ≤ IntKind.i64.wrap ((IntKind.u64.wrap k).tmod (16 : Int)) ∧ IntKind.i64.wrap ((IntKind.u64.wrap k).tmod (16 : Int)) ≤ (↑a.length : Int)) (
      .req (((([] : List Int) ++ List.take ((↑a.length : Int).toNat - (IntKind.i64.wrap ((IntKind.u64.wrap k).tmod (16 : Int))).toNat) (List.drop (IntKind.i64.wrap ((IntKind.u64.wrap k).tmod (16 : Int))).toNat a)).length + (List.take ((IntKind.i64.wrap ((IntKind.u64.wrap k).tmod (16 : Int))).toNat - 0) a).length) * 9 ≤ 70368744177664) (
       .req (True) (
        .req ((16 : Int) ≠ (0 : Int)) (
         .req (True) (
          .fork (Pl.nextS (([] : List Int) ++ List.take ((↑a.length : Int).toNat - (IntKind.i64.wrap ((IntKind.u64.wrap k).tmod (16 : Int))).toNat) (List.drop (IntKind.i64.wrap ((IntKind.u64.wrap k).tmod (16 : Int))).toNat a) ++ List.take ((IntKind.i64.wrap ((IntKind.u64.wrap k).tmod (16 : Int))).toNat - 0) a) (0 : Int) != Pl.nextS a ((IntKind.i64.wrap ((0 : Int) + IntKind.i64.wrap ((IntKind.u64.wrap k).tmod (16 : Int)))).tmod (16 : Int))) (
           .leaf ((false, ()))) (
           .req (True) (
            .req ((16 : Int) ≠ (0 : Int)) (
             .req (True) (
              .fork (Pl.nextS (([] : List Int) ++ List.take ((↑a.length : Int).toNat - (IntKind.i64.wrap ((IntKind.u64.wrap k).tmod (16 : Int))).toNat) (List.drop (IntKind.i64.wrap ((IntKind.u64.wrap k).tmod (16 : Int))).toNat a) ++ List.take ((IntKind.i64.wrap ((IntKind.u64.wrap k).tmod (16 : Int))).toNat - 0) a) (1 : Int) != Pl.nextS a ((IntKind.i64.wrap ((1 : Int) + IntKind.i64.wrap ((IntKind.u64.wrap k).tmod (16 : Int)))).tmod (16 : Int))) (
               .leaf ((false, ()))) (
               .req (True) (
                .req ((16 : Int) ≠ (0 : Int)) (
                 .req (True) (
                  .fork (Pl.nextS (([] : List Int) ++ List.take ((↑a.length : Int).toNat - (IntKind.i64.wrap ((IntKind.u64.wrap k).tmod (16 : Int))).toNat) (List.drop (IntKind.i64.wrap ((IntKind.u64.wrap k).tmod (16 : Int))).toNat a) ++ List.take ((IntKind.i64.wrap ((IntKind.u64.wrap k).tmod (16 : Int))).toNat - 0) a) (2 : Int) != Pl.nextS a ((IntKind.i64.wrap ((2 : Int) + IntKind.i64.wrap ((IntKind.u64.wrap k).tmod (16 : Int)))).tmod (16 : Int))) (
                   .leaf ((false, ()))) (
                   .req (True) (
                    .req ((16 : Int) ≠ (0 : Int)) (
                     .req (True) (
                      .fork (Pl.nextS (([] : List Int) ++ List.take ((↑a.length : Int).toNat - (IntKind.i64.wrap ((IntKind.u64.wrap k).tmod (16 : Int))).toNat) (List.drop (IntKind.i64.wrap ((IntKind.u64.wrap k).tmod (16 : Int))).toNat a) ++ List.take ((IntKind.i64.wrap ((IntKind.u64.wrap k).tmod (16 : Int))).toNat - 0) a) (3 : Int) != Pl.nextS a ((IntKind.i64.wrap ((3 : Int) + IntKind.i64.wrap ((IntKind.u64.wrap k).tmod (16 : Int)))).tmod (16 : Int))) (
                       .leaf ((false, ()))) (
                       .req (True) (
                        .req ((16 : Int) ≠ (0 : Int)) (
                         .req (True) (
                          .fork (Pl.nextS (([] : List Int) ++ List.take ((↑a.length : Int).toNat - (IntKind.i64.wrap ((IntKind.u64.wrap k).tmod (16 : Int))).toNat) (List.drop (IntKind.i64.wrap ((IntKind.u64.wrap k).tmod (16 : Int))).toNat a) ++ List.take ((IntKind.i64.wrap ((IntKind.u64.wrap k).tmod (16 : Int))).toNat - 0) a) (4 : Int) != Pl.nextS a ((IntKind.i64.wrap ((4 : Int) + IntKind.i64.wrap ((IntKind.u64.wrap k).tmod (16 : Int)))).tmod (16 : Int))) (
                           .leaf ((false, ()))) (
                           .req (True) (
                            .req ((16 : Int) ≠ (0 : Int)) (
                             .req (True) (
                              .fork (Pl.nextS (([] : List Int) ++ List.take ((↑a.length : Int).toNat - (IntKind.i64.wrap ((IntKind.u64.wrap k).tmod (16 : Int))).toNat) (List.drop (IntKind.i64.wrap ((IntKind.u64.wrap k).tmod (16 : Int))).toNat a) ++ List.take ((IntKind.i64.wrap ((IntKind.u64.wrap k).tmod (16 : Int))).toNat - 0) a) (5 : Int) != Pl.nextS a ((IntKind.i64.wrap ((5 : Int) + IntKind.i64.wrap ((IntKind.u64.wrap k).tmod (16 : Int)))).tmod (16 : Int))) (
                               .leaf ((false, ()))) (
                               .req (True) (
                                .req ((16 : Int) ≠ (0 : Int)) (
                                 .req (True) (
                                  .fork (Pl.nextS (([] : List Int) ++ List.take ((↑a.length : Int).toNat - (IntKind.i64.wrap ((IntKind.u64.wrap k).tmod (16 : Int))).toNat) (List.drop (IntKind.i64.wrap ((IntKind.u64.wrap k).tmod (16 : Int))).toNat a) ++ List.take ((IntKind.i64.wrap ((IntKind.u64.wrap k).tmod (16 : Int))).toNat - 0) a) (6 : Int) != Pl.nextS a ((IntKind.i64.wrap ((6 : Int) + IntKind.i64.wrap ((IntKind.u64.wrap k).tmod (16 : Int)))).tmod (16 : Int))) (
                                   .leaf ((false, ()))) (
                                   .req (True) (
                                    .req ((16 : Int) ≠ (0 : Int)) (
                                     .req (True) (
                                      .fork (Pl.nextS (([] : List Int) ++ List.take ((↑a.length : Int).toNat - (IntKind.i64.wrap ((IntKind.u64.wrap k).tmod (16 : Int))).toNat) (List.drop (IntKind.i64.wrap ((IntKind.u64.wrap k).tmod (16 : Int))).toNat a) ++ List.take ((IntKind.i64.wrap ((IntKind.u64.wrap k).tmod (16 : Int))).toNat - 0) a) (7 : Int) != Pl.nextS a ((IntKind.i64.wrap ((7 : Int) + IntKind.i64.wrap ((IntKind.u64.wrap k).tmod (16 : Int)))).tmod (16 : Int))) (
                                       .leaf ((false, ()))) (
                                       .req (True) (
                                        .req ((16 : Int) ≠ (0 : Int)) (
                                         .req (True) (
                                          .fork (Pl.nextS (([] : List Int) ++ List.take ((↑a.length : Int).toNat - (IntKind.i64.wrap ((IntKind.u64.wrap k).tmod (16 : Int))).toNat) (List.drop (IntKind.i64.wrap ((IntKind.u64.wrap k).tmod (16 : Int))).toNat a) ++ List.take ((IntKind.i64.wrap ((IntKind.u64.wrap k).tmod (16 : Int))).toNat - 0) a) (8 : Int) != Pl.nextS a ((IntKind.i64.wrap ((8 : Int) + IntKind.i64.wrap ((IntKind.u64.wrap k).tmod (16 : Int)))).tmod (16 : Int))) (
                                           .leaf ((false, ()))) (
                                           .req (True) (
                                            .req ((16 : Int) ≠ (0 : Int)) (
                                             .req (True) (
                                              .fork (Pl.nextS (([] : List Int) ++ List.take ((↑a.length : Int).toNat - (IntKind.i64.wrap ((IntKind.u64.wrap k).tmod (16 : Int))).toNat) (List.drop (IntKind.i64.wrap ((IntKind.u64.wrap k).tmod (16 : Int))).toNat a) ++ List.take ((IntKind.i64.wrap ((IntKind.u64.wrap k).tmod (16 : Int))).toNat - 0) a) (9 : Int) != Pl.nextS a ((IntKind.i64.wrap ((9 : Int) + IntKind.i64.wrap ((IntKind.u64.wrap k).tmod (16 : Int)))).tmod (16 : Int))) (
                                               .leaf ((false, ()))) (
                                               .req (True) (
                                                .req ((16 : Int) ≠ (0 : Int)) (
                                                 .req (True) (
                                                  .fork (Pl.nextS (([] : List Int) ++ List.take ((↑a.length : Int).toNat - (IntKind.i64.wrap ((IntKind.u64.wrap k).tmod (16 : Int))).toNat) (List.drop (IntKind.i64.wrap ((IntKind.u64.wrap k).tmod (16 : Int))).toNat a) ++ List.take ((IntKind.i64.wrap ((IntKind.u64.wrap k).tmod (16 : Int))).toNat - 0) a) (10 : Int) != Pl.nextS a ((IntKind.i64.wrap ((10 : Int) + IntKind.i64.wrap ((IntKind.u64.wrap k).tmod (16 : Int)))).tmod (16 : Int))) (
                                                   .leaf ((false, ()))) (
                                                   .req (True) (
                                                    .req ((16 : Int) ≠ (0 : Int)) (
                                                     .req (True) (
                                                      .fork (Pl.nextS (([] : List Int) ++ List.take ((↑a.length : Int).toNat - (IntKind.i64.wrap ((IntKind.u64.wrap k).tmod (16 : Int))).toNat) (List.drop (IntKind.i64.wrap ((IntKind.u64.wrap k).tmod (16 : Int))).toNat a) ++ List.take ((IntKind.i64.wrap ((IntKind.u64.wrap k).tmod (16 : Int))).toNat - 0) a) (11 : Int) != Pl.nextS a ((IntKind.i64.wrap ((11 : Int) + IntKind.i64.wrap ((IntKind.u64.wrap k).tmod (16 : Int)))).tmod (16 : Int))) (
                                                       .leaf ((false, ()))) (
                                                       .req (True) (
                                                        .req ((16 : Int) ≠ (0 : Int)) (
                                                         .req (True) (
                                                          .fork (Pl.nextS (([] : List Int) ++ List.take ((↑a.length : Int).toNat - (IntKind.i64.wrap ((IntKind.u64.wrap k).tmod (16 : Int))).toNat) (List.drop (IntKind.i64.wrap ((IntKind.u64.wrap k).tmod (16 : Int))).toNat a) ++ List.take ((IntKind.i64.wrap ((IntKind.u64.wrap k).tmod (16 : Int))).toNat - 0) a) (12 : Int) != Pl.nextS a ((IntKind.i64.wrap ((12 : Int) + IntKind.i64.wrap ((IntKind.u64.wrap k).tmod (16 : Int)))).tmod (16 : Int))) (
                                                           .leaf ((false, ()))) (
                                                           .req (True) (
                                                            .req ((16 : Int) ≠ (0 : Int)) (
                                                             .req (True) (
                                                              .fork (Pl.nextS (([] : List Int) ++ List.take ((↑a.length : Int).toNat - (IntKind.i64.wrap ((IntKind.u64.wrap k).tmod (16 : Int))).toNat) (List.drop (IntKind.i64.wrap ((IntKind.u64.wrap k).tmod (16 : Int))).toNat a) ++ List.take ((IntKind.i64.wrap ((IntKind.u64.wrap k).tmod (16 : Int))).toNat - 0) a) (13 : Int) != Pl.nextS a ((IntKind.i64.wrap ((13 : Int) + IntKind.i64.wrap ((IntKind.u64.wrap k).tmod (16 : Int)))).tmod (16 : Int))) (
                                                               .leaf ((false, ()))) (
                                                               .req (True) (
                                                                .req ((16 : Int) ≠ (0 : Int)) (
                                                                 .req (True) (
                                                                  .fork (Pl.nextS (([] : List Int) ++ List.take ((↑a.length : Int).toNat - (IntKind.i64.wrap ((IntKind.u64.wrap k).tmod (16 : Int))).toNat) (List.drop (IntKind.i64.wrap ((IntKind.u64.wrap k).tmod (16 : Int))).toNat a) ++ List.take ((IntKind.i64.wrap ((IntKind.u64.wrap k).tmod (16 : Int))).toNat - 0) a) (14 : Int) != Pl.nextS a ((IntKind.i64.wrap ((14 : Int) + IntKind.i64.wrap ((IntKind.u64.wrap k).tmod (16 : Int)))).tmod (16 : Int))) (
                                                                   .leaf ((false, ()))) (
                                                                   .req (True) (
                                                                    .req ((16 : Int) ≠ (0 : Int)) (
                                                                     .req (True) (
                                                                      .fork (Pl.nextS (([] : List Int) ++ List.take ((↑a.length : Int).toNat - (IntKind.i64.wrap ((IntKind.u64.wrap k).tmod (16 : Int))).toNat) (List.drop (IntKind.i64.wrap ((IntKind.u64.wrap k).tmod (16 : Int))).toNat a) ++ List.take ((IntKind.i64.wrap ((IntKind.u64.wrap k).tmod (16 : Int))).toNat - 0) a) (15 : Int) != Pl.nextS a ((IntKind.i64.wrap ((15 : Int) + IntKind.i64.wrap ((IntKind.u64.wrap k).tmod (16 : Int)))).tmod (16 : Int))) (
                                                                       .leaf ((false, ()))) (
                                                                       .req (True) (
                                                                        .req (True) (
                                                                         .req (true = true → conjP ((true = true → conjP [(0 : Int) ≤ IntKind.i64.wrap ((IntKind.u64.wrap k).tmod (16 : Int)) ∧ IntKind.i64.wrap ((IntKind.u64.wrap k).tmod (16 : Int)) ≤ (16 : Int) ∧ (16 : Int) ≤ (16 : Int), (0 : Int) ≤ (0 : Int) ∧ (0 : Int) ≤ IntKind.i64.wrap ((IntKind.u64.wrap k).tmod (16 : Int)) ∧ IntKind.i64.wrap ((IntKind.u64.wrap k).tmod (16 : Int)) ≤ (16 : Int), (↑(((Pl.txtB a).extract (IntKind.i64.wrap ((IntKind.u64.wrap k).tmod (16 : Int))).toNat 16).size + ((Pl.txtB a).extract 0 (IntKind.i64.wrap ((IntKind.u64.wrap k).tmod (16 : Int))).toNat).size) : Int) ≤ (9223372036854775807 : Int), ((Pl.txtB (([] : List Int) ++ List.take ((↑a.length : Int).toNat - (IntKind.i64.wrap ((IntKind.u64.wrap k).tmod (16 : Int))).toNat) (List.drop (IntKind.i64.wrap ((IntKind.u64.wrap k).tmod (16 : Int))).toNat a) ++ List.take ((IntKind.i64.wrap ((IntKind.u64.wrap k).tmod (16 : Int))).toNat - 0) a)).toList == ((Pl.txtB a).extract (IntKind.i64.wrap ((IntKind.u64.wrap k).tmod (16 : Int))).toNat 16 ++ (Pl.txtB a).extract 0 (IntKind.i64.wrap ((IntKind.u64.wrap k).tmod (16 : Int))).toNat).toList) = true → conjP [True, True, (Pl.leastS (([] : List Int) ++ List.take ((↑a.length : Int).toNat - (IntKind.i64.wrap ((IntKind.u64.wrap k).tmod (16 : Int))).toNat) (List.drop (IntKind.i64.wrap ((IntKind.u64.wrap k).tmod (16 : Int))).toNat a) ++ List.take ((IntKind.i64.wrap ((IntKind.u64.wrap k).tmod (16 : Int))).toNat - 0) a) n == Pl.leastS a n) = true → conjP [(↑m.length : Int) < (4611686018427387904 : Int), (↑m.length : Int) < (4611686018427387904 : Int), (Pl.unevenS (([] : List Int) ++ List.take ((↑a.length : Int).toNat - (IntKind.i64.wrap ((IntKind.u64.wrap k).tmod (16 : Int))).toNat) (List.drop (IntKind.i64.wrap ((IntKind.u64.wrap k).tmod (16 : Int))).toNat a) ++ List.take ((IntKind.i64.wrap ((IntKind.u64.wrap k).tmod (16 : Int))).toNat - 0) a) m == Pl.unevenS a m) = true → conjP [True]]]]) :: ([] : List Prop))) (
                                                                          .leaf (((Pl.txtB (([] : List Int) ++ List.take ((↑a.length : Int).toNat - (IntKind.i64.wrap ((IntKind.u64.wrap k).tmod (16 : Int))).toNat) (List.drop (IntKind.i64.wrap ((IntKind.u64.wrap k).tmod (16 : Int))).toNat a) ++ List.take ((IntKind.i64.wrap ((IntKind.u64.wrap k).tmod (16 : Int))).toNat - 0) a)).toList == ((Pl.txtB a).extract (IntKind.i64.wrap ((IntKind.u64.wrap k).tmod (16 : Int))).toNat 16 ++ (Pl.txtB a).extract 0 (IntKind.i64.wrap ((IntKind.u64.wrap k).tmod (16 : Int))).toNat).toList && (Pl.leastS (([] : List Int) ++ List.take ((↑a.length : Int).toNat - (IntKind.i64.wrap ((IntKind.u64.wrap k).tmod (16 : Int))).toNat) (List.drop (IntKind.i64.wrap ((IntKind.u64.wrap k).tmod (16 : Int))).toNat a) ++ List.take ((IntKind.i64.wrap ((IntKind.u64.wrap k).tmod (16 : Int))).toNat - 0) a) n == Pl.leastS a n && (Pl.unevenS (([] : List Int) ++ List.take ((↑a.length : Int).toNat - (IntKind.i64.wrap ((IntKind.u64.wrap k).tmod (16 : Int))).toNat) (List.drop (IntKind.i64.wrap ((IntKind.u64.wrap k).tmod (16 : Int))).toNat a) ++ List.take ((IntKind.i64.wrap ((IntKind.u64.wrap k).tmod (16 : Int))).toNat - 0) a) m == Pl.unevenS a m && true)), ())))))))))))))))))))))))))))))))))))))))))))))))))))))))))))))))))))))))))))) : Tree (Bool × PUnit)) := by kernel_rfl
end Pl
namespace Pl
open Go Sx Go.Proofs Go.RowKit
theorem getD_setS (l : List Int) (k i : Nat) (v : Int) (h : k < l.length) : (l.set k v).getD i 0 = if i = k then v else l.getD i 0 := by
  simp only [List.getD_eq_getElem?_getD, List.getElem?_set]
  by_cases e : k = i
  · subst e; simp [h]
  · rw [if_neg e, if_neg (Ne.symm e)]
theorem nxF_spec {a : List Int} {p n : Int} (h0 : 0 ≤ p) (h1 : p < 16) (h2 : atS a p = n) : ∀ (c : Nat) (s : Int), s + c = 17 → 1 ≤ s → 1 ≤ c → s ≤ nxF a n p c s ∧ nxF a n p c s ≤ 16 ∧ atS a ((p + nxF a n p c s) % 16) = n ∧ ∀ j, s ≤ j → j < nxF a n p c s → atS a ((p + j) % 16) ≠ n
  | 0, _, _, _, h => absurd h (by omega)
  | c + 1, s, hc, hs, _ => by
    rw [nxF]
    by_cases e : atS a ((p + s) % 16) = n
    · rw [if_pos e]
      exact ⟨by omega, by omega, e, fun j a1 a2 => by omega⟩
    · rw [if_neg e]
      by_cases c0 : c = 0
      · subst c0
        have : s = 16 := by omega
        subst this
        rw [show (p + 16) % 16 = p by omega] at e
        exact absurd h2 e
      · obtain ⟨k1, k2, k3, k4⟩ := nxF_spec h0 h1 h2 c (s + 1) (by omega) (by omega) (by omega)
        refine ⟨by omega, k2, k3, fun j a1 a2 => ?_⟩
        by_cases ej : j = s
        · subst ej; exact e
        · exact k4 j (by omega) a2
theorem next_spec {a : List Int} {p : Int} (h0 : 0 ≤ p) (h1 : p < 16) (h : atS a p ≠ -1) : 1 ≤ nextS a p ∧ nextS a p ≤ 16 ∧ atS a ((p + nextS a p) % 16) = atS a p ∧ ∀ j, 1 ≤ j → j < nextS a p → atS a ((p + j) % 16) ≠ atS a p := by
  unfold nextS
  rw [if_neg h]
  exact nxF_spec h0 h1 rfl 16 1 (by omega) (by omega) (by omega)
theorem cj_skip (a : List Int) (p : Int) (u : Nat) : ∀ k : Nat, (∀ j : Nat, j < k → atS a ((p + ((u + j : Nat) : Int)) % 16) ≠ atS a p) → cjS a p (u + k) = cjS a p u ∧ msS a p (u + k) = msS a p u
  | 0, _ => ⟨rfl, rfl⟩
  | k + 1, h => by
    obtain ⟨e1, e2⟩ := cj_skip a p u k (fun j hj => h j (by omega))
    rw [show u + (k + 1) = (u + k) + 1 by omega, cjS, msS, if_neg (h k (by omega)), if_neg (h k (by omega)), e1, e2]
    exact ⟨by omega, rfl⟩
theorem cj_step {a : List Int} {p t u : Int} (h0 : 0 ≤ u) (ht : t = (p + u) % 16) (h1 : atS a t = atS a p) (h2 : atS a p ≠ -1) : cjS a p (u + nextS a t).toNat = cjS a p u.toNat + 1 ∧ msS a p (u + nextS a t).toNat = if nextS a t < msS a p u.toNat then nextS a t else msS a p u.toNat := by
  obtain ⟨k1, k2, k3, k4⟩ := next_spec (a := a) (p := t) (by omega) (by omega) (by rw [h1]; exact h2)
  have e : (u + nextS a t).toNat = (u.toNat + 1) + (nextS a t - 1).toNat := by omega
  obtain ⟨s1, s2⟩ := cj_skip a p (u.toNat + 1) (nextS a t - 1).toNat (fun j hj => by
    have := k4 (j + 1) (by omega) (by omega)
    rw [h1] at this
    rw [show (p + ((u.toNat + 1 + j : Nat) : Int)) % 16 = (t + ((j : Int) + 1)) % 16 by omega]
    exact this)
  have hq : (p + ((u.toNat : Nat) : Int)) % 16 = t := by omega
  rw [e, s1, s2, cjS, msS, hq, if_pos h1, if_pos h1]
  exact ⟨rfl, rfl⟩
def vals (f : Int → Int) : List Int := (List.range 16).map (fun q : Nat => f (q : Int))
theorem rot0 (f : Int → Int) : vals (fun j => f ((0 + j) % 16)) = (vals f).drop (Int.toNat 0) ++ (vals f).take (Int.toNat 0) := by kernel_rfl
theorem rot1 (f : Int → Int) : vals (fun j => f ((1 + j) % 16)) = (vals f).drop (Int.toNat 1) ++ (vals f).take (Int.toNat 1) := by kernel_rfl
theorem rot2 (f : Int → Int) : vals (fun j => f ((2 + j) % 16)) = (vals f).drop (Int.toNat 2) ++ (vals f).take (Int.toNat 2) := by kernel_rfl
theorem rot3 (f : Int → Int) : vals (fun j => f ((3 + j) % 16)) = (vals f).drop (Int.toNat 3) ++ (vals f).take (Int.toNat 3) := by kernel_rfl
theorem rot4 (f : Int → Int) : vals (fun j => f ((4 + j) % 16)) = (vals f).drop (Int.toNat 4) ++ (vals f).take (Int.toNat 4) := by kernel_rfl
theorem rot5 (f : Int → Int) : vals (fun j => f ((5 + j) % 16)) = (vals f).drop (Int.toNat 5) ++ (vals f).take (Int.toNat 5) := by kernel_rfl
theorem rot6 (f : Int → Int) : vals (fun j => f ((6 + j) % 16)) = (vals f).drop (Int.toNat 6) ++ (vals f).take (Int.toNat 6) := by kernel_rfl
theorem rot7 (f : Int → Int) : vals (fun j => f ((7 + j) % 16)) = (vals f).drop (Int.toNat 7) ++ (vals f).take (Int.toNat 7) := by kernel_rfl
theorem rot8 (f : Int → Int) : vals (fun j => f ((8 + j) % 16)) = (vals f).drop (Int.toNat 8) ++ (vals f).take (Int.toNat 8) := by kernel_rfl
theorem rot9 (f : Int → Int) : vals (fun j => f ((9 + j) % 16)) = (vals f).drop (Int.toNat 9) ++ (vals f).take (Int.toNat 9) := by kernel_rfl
theorem rot10 (f : Int → Int) : vals (fun j => f ((10 + j) % 16)) = (vals f).drop (Int.toNat 10) ++ (vals f).take (Int.toNat 10) := by kernel_rfl
theorem rot11 (f : Int → Int) : vals (fun j => f ((11 + j) % 16)) = (vals f).drop (Int.toNat 11) ++ (vals f).take (Int.toNat 11) := by kernel_rfl
theorem rot12 (f : Int → Int) : vals (fun j => f ((12 + j) % 16)) = (vals f).drop (Int.toNat 12) ++ (vals f).take (Int.toNat 12) := by kernel_rfl
theorem rot13 (f : Int → Int) : vals (fun j => f ((13 + j) % 16)) = (vals f).drop (Int.toNat 13) ++ (vals f).take (Int.toNat 13) := by kernel_rfl
theorem rot14 (f : Int → Int) : vals (fun j => f ((14 + j) % 16)) = (vals f).drop (Int.toNat 14) ++ (vals f).take (Int.toNat 14) := by kernel_rfl
theorem rot15 (f : Int → Int) : vals (fun j => f ((15 + j) % 16)) = (vals f).drop (Int.toNat 15) ++ (vals f).take (Int.toNat 15) := by kernel_rfl
theorem rot_map (f : Int → Int) {x : Int} (h0 : 0 ≤ x) (h1 : x < 16) : vals (fun j => f ((x + j) % 16)) = (vals f).drop x.toNat ++ (vals f).take x.toNat := by
  have : x = 0 ∨ x = 1 ∨ x = 2 ∨ x = 3 ∨ x = 4 ∨ x = 5 ∨ x = 6 ∨ x = 7 ∨ x = 8 ∨ x = 9 ∨ x = 10 ∨ x = 11 ∨ x = 12 ∨ x = 13 ∨ x = 14 ∨ x = 15 := by omega
  clear h0 h1
  rcases this with rfl | rfl | rfl | rfl | rfl | rfl | rfl | rfl | rfl | rfl | rfl | rfl | rfl | rfl | rfl | rfl
  · exact rot0 f
  · exact rot1 f
  · exact rot2 f
  · exact rot3 f
  · exact rot4 f
  · exact rot5 f
  · exact rot6 f
  · exact rot7 f
  · exact rot8 f
  · exact rot9 f
  · exact rot10 f
  · exact rot11 f
  · exact rot12 f
  · exact rot13 f
  · exact rot14 f
  · exact rot15 f
theorem rot_perm (f : Int → Int) {x : Int} (h0 : 0 ≤ x) (h1 : x < 16) : (vals (fun j => f ((x + j) % 16))).Perm (vals f) := by
  rw [rot_map f h0 h1]
  exact List.perm_append_comm.trans (by rw [List.take_append_drop])
theorem cj_count (a : List Int) (p : Int) : ∀ t : Nat, cjS a p t = (((List.range t).map (fun j : Nat => atS a ((p + (j : Int)) % 16))).count (atS a p) : Nat)
  | 0 => rfl
  | t + 1 => by
    rw [cjS, cj_count a p t, List.range_succ, List.map_append, List.count_append]
    simp only [List.map_cons, List.map_nil, List.count_cons, List.count_nil, beq_iff_eq]
    split <;> omega
theorem cnF_get (l : List Int) {n : Int} (h0 : 0 ≤ n) : ∀ (c q : Nat) (o : List Int), o.length = 8 → (cnF l c q o).getD n.toNat 0 = o.getD n.toNat 0 + (((List.range' q c).map (fun j : Nat => atS l (j : Int))).count n : Nat)
  | 0, _, o, _ => by simp [cnF]
  | c + 1, q, o, h => by
    rw [cnF, cnF_get l h0 c (q + 1) _ (by split <;> simpa using h), List.range'_succ]
    simp only [List.map_cons, List.count_cons, beq_iff_eq]
    by_cases d : atS l q = -1
    · rw [if_pos d, if_neg (by omega)]; omega
    · have ha := atS_at d
      rw [if_neg d, getD_setS _ _ _ _ (by omega)]
      by_cases e : atS l q = n
      · rw [if_pos e, e, if_pos rfl]; omega
      · rw [if_neg e, if_neg (by omega)]; omega
theorem counts_get (l : List Int) {n : Int} (h0 : 0 ≤ n) (h1 : n < 8) : (countsS l).getD n.toNat 0 = ((vals (atS l)).count n : Nat) := by
  unfold countsS vals
  rw [cnF_get l h0 16 0 _ rfl, List.range_eq_range']
  have : (List.replicate 8 (0 : Int)).getD n.toNat 0 = 0 := by
    rw [getD_get 0 (by rw [List.length_replicate]; omega), List.getElem_replicate]
  omega
theorem counts_perm {l m : List Int} (h : (vals (atS l)).Perm (vals (atS m))) : countsS l = countsS m := by
  refine ext_getD 0 (by rw [counts_len, counts_len]) fun k hk => ?_
  rw [counts_len] at hk
  have e1 := counts_get l (n := (k : Int)) (by omega) (by omega)
  have e2 := counts_get m (n := (k : Int)) (by omega) (by omega)
  rw [Int.toNat_natCast] at e1 e2
  rw [e1, e2, h.count_eq]
def IsLeast (a : List Int) (n r : Int) : Prop := (∀ q : Int, 0 ≤ q → q < 16 → atS a q ≠ -1 → atS a q = n → r ≠ 0 ∧ r ≤ nextS a q) ∧ (r = 0 ∨ ∃ q : Int, 0 ≤ q ∧ q < 16 ∧ atS a q ≠ -1 ∧ atS a q = n ∧ nextS a q = r)
theorem isLeast_eq {a : List Int} {n r s : Int} (h : IsLeast a n r) (g : IsLeast a n s) : r = s := by
  obtain ⟨h1, h2⟩ := h
  obtain ⟨g1, g2⟩ := g
  rcases h2 with e | ⟨q, a1, a2, a3, a4, a5⟩
  · rcases g2 with f | ⟨q, a1, a2, a3, a4, a5⟩
    · rw [e, f]
    · exact absurd e (h1 q a1 a2 a3 a4).1
  · rcases g2 with f | ⟨q', b1, b2, b3, b4, b5⟩
    · exact absurd f (g1 q a1 a2 a3 a4).1
    · have := (h1 q' b1 b2 b3 b4).2
      have := (g1 q a1 a2 a3 a4).2
      omega
theorem lsF_is (a : List Int) (n : Int) : ∀ (c q : Nat) (o : Int), (∀ j : Nat, j < q → atS a (j : Int) ≠ -1 → atS a (j : Int) = n → o ≠ 0 ∧ o ≤ nextS a (j : Int)) → (o = 0 ∨ ∃ j : Nat, j < q ∧ atS a (j : Int) ≠ -1 ∧ atS a (j : Int) = n ∧ nextS a (j : Int) = o) → q + c = 16 → IsLeast a n (lsF a n c q o)
  | 0, q, o, h1, h2, h3 => by
    rw [lsF]
    refine ⟨fun z a1 a2 a3 a4 => ?_, ?_⟩
    · have := h1 z.toNat (by omega)
      rw [Int.toNat_of_nonneg a1] at this
      exact this a3 a4
    · rcases h2 with e | ⟨j, b1, b2, b3, b4⟩
      · exact .inl e
      · exact .inr ⟨j, by omega, by omega, b2, b3, b4⟩
  | c + 1, q, o, h1, h2, h3 => by
    rw [lsF]
    refine lsF_is a n c (q + 1) _ (fun j hj b1 b2 => ?_) ?_ (by omega)
    · by_cases e : j = q
      · subst e
        have hn := next_spec (a := a) (p := (j : Int)) (by omega) (by omega) b1
        rw [if_neg (fun g => g.elim b1 (fun c => c b2))]
        by_cases f : o = 0 ∨ nextS a (j : Int) < o
        · rw [if_pos f]; exact ⟨by omega, by omega⟩
        · rw [if_neg f]; exact ⟨fun g => f (.inl g), by omega⟩
      · have := h1 j (by omega) b1 b2
        split
        · exact this
        · rename_i d
          have d1 : atS a (q : Int) ≠ -1 := fun g => d (.inl g)
          have hn := next_spec (a := a) (p := (q : Int)) (by omega) (by omega) d1
          split <;> omega
    · split
      · rcases h2 with e | ⟨j, b1, b2, b3, b4⟩
        · exact .inl e
        · exact .inr ⟨j, by omega, b2, b3, b4⟩
      · rename_i d
        split
        · exact .inr ⟨q, by omega, fun g => d (.inl g), Classical.byContradiction fun g => d (.inr g), rfl⟩
        · rcases h2 with e | ⟨j, b1, b2, b3, b4⟩
          · exact .inl e
          · exact .inr ⟨j, by omega, b2, b3, b4⟩
theorem leastS_is (a : List Int) (n : Int) : IsLeast a n (leastS a n) := lsF_is a n 16 0 0 (fun j h => by omega) (.inl rfl) (by omega)
theorem ms_is {a : List Int} {p : Int} (h0 : 0 ≤ p) (h1 : p < 16) (h2 : atS a p ≠ -1) : ∀ t : Nat, (∀ j : Nat, j < t → atS a ((p + (j : Int)) % 16) = atS a p → msS a p t ≤ nextS a ((p + (j : Int)) % 16)) ∧ 1 ≤ msS a p t ∧ msS a p t ≤ 16 ∧ (msS a p t = 16 ∨ ∃ j : Nat, j < t ∧ atS a ((p + (j : Int)) % 16) = atS a p ∧ nextS a ((p + (j : Int)) % 16) = msS a p t)
  | 0 => ⟨fun j h => by omega, by rw [msS]; omega, by rw [msS]; omega, .inl rfl⟩
  | t + 1 => by
    obtain ⟨g1, g2, g3, g4⟩ := ms_is h0 h1 h2 t
    rw [msS]
    by_cases e : atS a ((p + (t : Int)) % 16) = atS a p
    · have hn := next_spec (a := a) (p := (p + (t : Int)) % 16) (by omega) (by omega) (by rw [e]; exact h2)
      rw [if_pos e]
      by_cases f : nextS a ((p + (t : Int)) % 16) < msS a p t
      · rw [if_pos f]
        refine ⟨fun j hj ha => ?_, by omega, by omega, .inr ⟨t, by omega, e, rfl⟩⟩
        by_cases jt : j = t
        · subst jt; omega
        · have := g1 j (by omega) ha; omega
      · rw [if_neg f]
        refine ⟨fun j hj ha => ?_, g2, g3, ?_⟩
        · by_cases jt : j = t
          · subst jt; omega
          · exact g1 j (by omega) ha
        · rcases g4 with k | ⟨j, b1, b2, b3⟩
          · exact .inl k
          · exact .inr ⟨j, by omega, b2, b3⟩
    · rw [if_neg e]
      refine ⟨fun j hj ha => ?_, g2, g3, ?_⟩
      · by_cases jt : j = t
        · subst jt; exact absurd ha e
        · exact g1 j (by omega) ha
      · rcases g4 with k | ⟨j, b1, b2, b3⟩
        · exact .inl k
        · exact .inr ⟨j, by omega, b2, b3⟩
theorem ms_least {a : List Int} {p : Int} (h0 : 0 ≤ p) (h1 : p < 16) (h2 : atS a p ≠ -1) : IsLeast a (atS a p) (msS a p 16) := by
  obtain ⟨g1, g2, g3, g4⟩ := ms_is h0 h1 h2 16
  refine ⟨fun q a1 a2 a3 a4 => ⟨by omega, ?_⟩, .inr ?_⟩
  · have := g1 ((q - p) % 16).toNat (by omega)
    rw [show (p + ((((q - p) % 16).toNat : Nat) : Int)) % 16 = q by omega] at this
    exact this a4
  · rcases g4 with k | ⟨j, b1, b2, b3⟩
    · refine ⟨p, h0, h1, h2, rfl, ?_⟩
      have := g1 0 (by omega)
      rw [show (p + ((0 : Nat) : Int)) % 16 = p by omega] at this
      have := this rfl
      have := (next_spec (a := a) h0 h1 h2).2.1
      omega
    · exact ⟨(p + (j : Int)) % 16, by omega, by omega, by rw [b2]; exact h2, b2, b3⟩
end Pl
namespace Pl
open Go Sx Go.Proofs Go.RowKit
def chV (n : Int) : Int := if n = -1 then 45 else 48 + n
theorem chV_eq {u v : Int} (hu : -1 ≤ u ∧ u < 8) (hv : -1 ≤ v ∧ v < 8) : (chV u == chV v) = (u == v) := by
  rw [Bool.eq_iff_iff, beq_iff_eq, beq_iff_eq]; unfold chV; split <;> split <;> omega
theorem chV_45 {u : Int} (hu : -1 ≤ u ∧ u < 8) : (chV u == 45) = decide (u < 0) := by
  rw [Bool.eq_iff_iff, beq_iff_eq, decide_eq_true_iff]; unfold chV; split <;> omega
theorem chS_val {n : Int} (h : -1 ≤ n ∧ n < 8) : ((chS n).toNat : Int) = chV n := by
  have : n = -1 ∨ n = 0 ∨ n = 1 ∨ n = 2 ∨ n = 3 ∨ n = 4 ∨ n = 5 ∨ n = 6 ∨ n = 7 := by omega
  rcases this with rfl | rfl | rfl | rfl | rfl | rfl | rfl | rfl | rfl <;> rfl
theorem txtL_len (l : List Int) : (txtL l).length = 16 := by simp [txtL]
theorem txtB_len (l : List Int) : (txtB l).1.1.length = 16 := txtL_len l
theorem txtL_get (l : List Int) {k : Nat} (h : k < 16) : (txtL l).getD k 0 = chS (atS l (k : Int)) := by
  rw [getD_get 0 (by rw [txtL_len]; exact h)]; simp [txtL]
theorem byte_txt (l : List Int) {p : Int} (h0 : 0 ≤ p) (h1 : p < 16) : byteAt (txtB l) p = chV (atS l p) := by
  unfold byteAt txtB
  show (((txtL l).getD p.toNat 0).toNat : Int) = _
  rw [txtL_get l (by omega), Int.toNat_of_nonneg h0, chS_val (atS_range l p)]
theorem atS_eq (l : List Int) {p : Int} (h0 : 0 ≤ p) (h1 : p < 16) : atS l p = if (decide (p < (l.length : Int)) && (decide (l.getD p.toNat 0 ≥ 0) && decide (l.getD p.toNat 0 < 8))) = true then l.getD p.toNat 0 else -1 := by
  unfold atS nodeB
  rw [decide_eq_true h0, decide_eq_true h1, Bool.true_and, Bool.true_and]
theorem lTx : LpsOK Try.prog Try.f3 [(0, LTx.sp)] := by
  refine .cons (LTx.sound M8_ok (lps := []) (n := 100) (inner rfl) (fun _ => rfl) ?_) .nil
  rintro ⟨a, b, x, y, p⟩ ⟨h1, h2, h3, h4⟩
  simp only at h1 h2 h3 h4
  subst h3; subst h4
  rw [rTx]
  simp only [all_leaf, all_fork, all_req, conjP, true_and, and_true]
  refine ⟨fun c => ?_, fun _ => trivial⟩
  have c : p < 16 := of_decide_eq_true c
  have l1 := txtB_len a
  have l2 := txtB_len b
  have i1 : 0 ≤ p ∧ p < ((txtB a).1.1.length : Int) := ⟨h1, by omega⟩
  have i2 : 0 ≤ p ∧ p < ((txtB b).1.1.length : Int) := ⟨h1, by omega⟩
  have nx : LTx.Next ⟨a, b, txtB a, txtB b, p⟩ (some ⟨a, b, txtB a, txtB b, IntKind.i64.wrap (p + 1)⟩) := by
    rw [IntWalk.i64_in (p + 1) (by omega)]
    exact ⟨⟨by dsimp only; omega, by dsimp only; omega, rfl, rfl⟩, by simp only [LTx]; omega, rfl⟩
  have e1 := atS_eq a h1 c
  have e2 := atS_eq b h1 c
  have r1 := atS_range a p
  have r2 := atS_range b p
  rw [byte_txt a h1 c, byte_txt b h1 c]
  have pre : ∀ l : List Int, decide (p < (l.length : Int)) = true → ((0 ≤ p ∧ p < (l.length : Int)) ∧ (0 ≤ p ∧ p < (l.length : Int)) ∧ (decide (l.getD p.toNat 0 ≥ 0) = true → ((0 ≤ p ∧ p < (l.length : Int)) ∧ (0 ≤ p ∧ p < (l.length : Int))))) := fun l h => by
    have h := of_decide_eq_true h
    exact ⟨⟨h1, h⟩, ⟨h1, h⟩, fun _ => ⟨⟨h1, h⟩, ⟨h1, h⟩⟩⟩
  have inb : ∀ l : List Int, (decide (p < (l.length : Int)) && (decide (l.getD p.toNat 0 ≥ 0) && decide (l.getD p.toNat 0 < 8))) = true → 0 ≤ p ∧ p < (l.length : Int) := fun l h => by
    simp only [Bool.and_eq_true, decide_eq_true_eq] at h; exact ⟨h1, h.1⟩
  have fin : ∀ u v : Int, atS a p = u → atS b p = v → ((0 ≤ p ∧ p < ((txtB a).1.1.length : Int)) ∧ (0 ≤ p ∧ p < ((txtB b).1.1.length : Int)) ∧ ((!(chV (atS a p) == chV (atS b p)) == (u == v)) = false → (0 ≤ p ∧ p < ((txtB a).1.1.length : Int)))) ∧ (!(chV (atS a p) == chV (atS b p)) == (u == v) || !(chV (atS a p) == 45) == decide (u < 0)) = false := fun u v hu hv => by
    refine ⟨⟨i1, i2, fun _ => i1⟩, ?_⟩
    rw [chV_eq r1 r2, chV_45 r1, hu, hv]; simp
  refine ⟨pre a, fun d => ?_, fun d => ?_⟩
  · rw [if_pos d] at e1
    refine ⟨inb a d, inb a d, pre b, fun f => ?_, fun f => ?_⟩
    · rw [if_pos f] at e2
      have g := fin _ _ e1 e2
      exact ⟨inb b f, inb b f, g.1, fun z => Bool.noConfusion (z.symm.trans g.2), fun _ => nx⟩
    · rw [if_neg (by rw [f]; decide)] at e2
      have g := fin _ _ e1 e2
      exact ⟨g.1, fun z => Bool.noConfusion (z.symm.trans g.2), fun _ => nx⟩
  · rw [if_neg (by rw [d]; decide)] at e1
    refine ⟨pre b, fun f => ?_, fun f => ?_⟩
    · rw [if_pos f] at e2
      have g := fin _ _ e1 e2
      exact ⟨inb b f, inb b f, g.1, fun z => Bool.noConfusion (z.symm.trans g.2), fun _ => nx⟩
    · rw [if_neg (by rw [f]; decide)] at e2
      have g := fin _ _ e1 e2
      exact ⟨g.1, fun z => Bool.noConfusion (z.symm.trans g.2), fun _ => nx⟩
theorem texts_ok : PureOK Try.prog 3 [ints, ints] [.bool] (fun _ => True) (fun _ => (true, ())) :=
  fn_pure (E := M8) (n := 100) M8_ok Try.func3 (by kernel_rfl) lTx fun x _ => by
    refine Tree.all_eq (tTx x.1 x.2.1) ?_
    show Tree.all (α := Bool × Unit) _ Yes
    simp only [all_leaf, all_fork, all_req, true_and, and_true, yes_t, yes_f, implies_true]
    exact fun _ => ⟨fun h => (by cases h), fun _ => ⟨by omega, by omega⟩⟩
end Pl
namespace Pl
open Go Sx Go.Proofs Go.RowKit
theorem lRo : LpsOK Try.prog Try.f4 [(0, LRo.sp)] := by
  refine .cons (LRo.sound M9_ok (lps := []) (n := 100) (inner rfl) (fun _ => rfl) ?_) .nil
  rintro ⟨a, p, t, i, m, s, u⟩ ⟨h1, h2, h3, h4, h5, h6, h7, h8, h9, h10, h11, h12⟩
  simp only at h1 h2 h3 h4 h5 h6 h7 h8 h9 h10 h11 h12
  obtain ⟨k1, k2, k3, k4⟩ := next_spec (a := a) (p := t) (by omega) (by omega) (by rw [h8]; exact h3)
  obtain ⟨c1, c2⟩ := cj_step (a := a) (p := p) (t := t) (u := u) (by omega) h7 h8 h3
  have hku : nextS a t ≤ 16 - u := by
    by_cases c : 16 - u < nextS a t
    · exact absurd (by rw [show (t + (16 - u)) % 16 = p by omega]; exact h8.symm) (k4 (16 - u) (by omega) c)
    · omega
  have w1 : IntKind.i64.wrap (t + nextS a t) = t + nextS a t := IntWalk.i64_in _ (by omega)
  have w2 : (t + nextS a t).tmod 16 = (t + nextS a t) % 16 := Int.tmod_eq_emod_of_nonneg (by omega)
  have w3 : IntKind.i64.wrap (s + 1) = s + 1 := IntWalk.i64_in _ (by omega)
  have w4 : IntKind.i64.wrap (u + nextS a t) = u + nextS a t := IntWalk.i64_in _ (by omega)
  have w5 : IntKind.i64.wrap (i + 1) = i + 1 := IntWalk.i64_in _ (by omega)
  have q1 := atS_at (l := a) (p := p) h3
  have q2 := atS_at (l := a) (p := (t + nextS a t) % 16) (by rw [k3, h8]; exact h3)
  rw [rRo, w1, w2, w3, w4, w5]
  simp only [all_leaf, all_fork, all_req, conjP, true_and, and_true, decide_eq_true_eq, decide_eq_false_iff_not, Bool.or_eq_true, Bool.or_eq_false_iff, bne_iff_ne, bne_eq_false_iff_eq, beq_iff_eq, beq_eq_false_iff_ne, ne_eq]
  have e1 : a.getD ((t + nextS a t) % 16).toNat 0 = a.getD p.toNat 0 := by rw [← q1.2.2.2.2.2, ← q2.2.2.2.2.2, k3, h8]
  refine ⟨fun c => ⟨fun d => by omega, fun d => ⟨by omega, fun _ => ⟨⟨q2.1, q2.2.2.1⟩, ⟨q2.1, q2.2.2.1⟩, ⟨q1.1, q1.2.2.1⟩, ⟨q1.1, q1.2.2.1⟩⟩, fun d => ?_, fun d => ⟨fun e => ?_, fun e => ?_⟩⟩⟩, fun c => by omega⟩
  · rcases d with d | d
    · omega
    · exact absurd e1 d
  · have hu : u + nextS a t = 16 := by omega
    rw [hu] at c1 c2
    exact ⟨⟨by rw [← h9] at c1; exact c1.symm, by rw [← h12] at c2; exact c2.symm, hu⟩, trivial⟩
  · refine ⟨⟨h1, h2, h3, by dsimp only; omega, by dsimp only; omega, by dsimp only; omega, by dsimp only; omega, by dsimp only; rw [k3, h8], by dsimp only; rw [c1, ← h9], by dsimp only; omega, by dsimp only; omega, by dsimp only; rw [c2, ← h12]⟩, by simp only [LRo]; omega, rfl⟩
theorem round_ok : PureOK Try.prog 4 [ints, i64] [.bool] (fun _ => True) (fun _ => (true, ())) :=
  fn_pure (E := M9) (n := 100) M9_ok Try.func4 (by kernel_rfl) lRo fun x _ => by
    obtain ⟨a, p, _⟩ : List Int × Int × Unit := x
    obtain ⟨x, hx, x0, x1⟩ := umod p 16 (by omega) (by omega)
    refine Tree.all_eq (tRo a p) ?_
    show Tree.all (α := Bool × Unit) _ Yes
    rw [hx]
    simp only [all_leaf, all_fork, all_req, conjP, true_and, and_true, yes_t, yes_iff, decide_eq_true_eq, decide_eq_false_iff_not, Bool.and_eq_true, beq_iff_eq, implies_true, Bool.or_eq_true, Bool.or_eq_false_iff, Bool.not_eq_true', Bool.not_eq_false']
    have hat := atS_eq a x0 x1
    simp only [Bool.and_eq_true, decide_eq_true_eq] at hat
    refine fun _ => ⟨by omega, fun c => ⟨⟨x0, by omega⟩, x0, by omega⟩, fun c => ?_, fun ⟨c1, c2, c3⟩ => ?_⟩
    · rw [if_neg (fun g => by omega)] at hat
      unfold nextS; rw [if_pos hat]
    · rw [if_pos ⟨by omega, c2, c3⟩] at hat
      have hn : atS a x ≠ -1 := by omega
      have hl := counts_len a
      have hc : cjS a x 16 = (countsS a).getD (a.getD x.toNat 0).toNat 0 := by
        rw [counts_get a c2 c3, cj_count, hat]
        have := (rot_perm (atS a) x0 x1).count_eq (a.getD x.toNat 0)
        unfold vals at this
        rw [this]; rfl
      have hm : leastS a (a.getD x.toNat 0) = msS a x 16 := by
        have := ms_least x0 x1 hn
        rw [hat] at this
        exact isLeast_eq (leastS_is a _) this
      have b1 : 0 ≤ x ∧ x < (a.length : Int) := ⟨x0, by omega⟩
      have b2 : 0 ≤ a.getD x.toNat 0 ∧ a.getD x.toNat 0 < ((countsS a).length : Int) := ⟨by omega, by omega⟩
      exact ⟨⟨x0, x1, hn, by omega, by omega, by omega, by omega, by omega, by omega⟩, fun _ _ => ⟨b1, b1, b2, b2, fun _ => ⟨b1, b1⟩⟩, by omega, hc, hm⟩
theorem rot_at {a l : List Int} {x : Int} (h : a.length = 16) (hl : ([] : List Int) ++ List.take ((a.length : Int).toNat - x.toNat) (List.drop x.toNat a) ++ List.take (x.toNat - 0) a = l) (x0 : 0 ≤ x) (x1 : x < 16) : l.length = 16 ∧ ∀ q : Int, 0 ≤ q → q < 16 → atS l q = atS a ((x + q) % 16) := by
  have hl' : l = a.drop x.toNat ++ a.take x.toNat := by
    rw [← hl, List.nil_append, List.take_of_length_le (by rw [List.length_drop]; omega), Nat.sub_zero]
  have hn : l.length = 16 := by rw [hl', List.length_append, List.length_drop, List.length_take]; omega
  refine ⟨hn, fun q q0 q1 => ?_⟩
  have e : l.getD q.toNat 0 = a.getD ((x + q) % 16).toNat 0 := by
    rw [hl']
    simp only [List.getD_eq_getElem?_getD]
    by_cases c : x + q < 16
    · rw [List.getElem?_append_left (by rw [List.length_drop]; omega), List.getElem?_drop, show x.toNat + q.toNat = ((x + q) % 16).toNat by omega]
    · rw [List.getElem?_append_right (by rw [List.length_drop]; omega), List.length_drop, List.getElem?_take_of_lt (by omega), show q.toNat - (a.length - x.toNat) = ((x + q) % 16).toNat by omega]
  rw [atS_eq l q0 q1, atS_eq a (by omega) (by omega), e, hn, h]
  rw [decide_eq_true (by omega : q < ((16 : Nat) : Int)), decide_eq_true (by omega : (x + q) % 16 < ((16 : Nat) : Int))]
theorem rot_next {a l : List Int} {x : Int} (x0 : 0 ≤ x) (x1 : x < 16) (h : ∀ q : Int, 0 ≤ q → q < 16 → atS l q = atS a ((x + q) % 16)) {p : Int} (p0 : 0 ≤ p) (p1 : p < 16) : nextS l p = nextS a ((x + p) % 16) := by
  have key : ∀ (n : Int) (c : Nat) (s : Int), nxF l n p c s = nxF a n ((x + p) % 16) c s := fun n c => by
    induction c with
    | zero => intro s; rfl
    | succ c ih =>
      intro s
      rw [nxF, nxF, h _ (by omega) (by omega), show (x + (p + s) % 16) % 16 = ((x + p) % 16 + s) % 16 by omega, ih]
  unfold nextS
  rw [h p p0 p1, key]
theorem rot_least {a l : List Int} {x : Int} (x0 : 0 ≤ x) (x1 : x < 16) (h : ∀ q : Int, 0 ≤ q → q < 16 → atS l q = atS a ((x + q) % 16)) (n : Int) : leastS l n = leastS a n := by
  refine isLeast_eq (leastS_is l n) ?_
  obtain ⟨g1, g2⟩ := leastS_is a n
  refine ⟨fun q q0 q1 c1 c2 => ?_, ?_⟩
  · rw [h q q0 q1] at c1 c2
    rw [rot_next x0 x1 h q0 q1]
    exact g1 _ (by omega) (by omega) c1 c2
  · rcases g2 with e | ⟨q, q0, q1, c1, c2, c3⟩
    · exact .inl e
    · have e := h ((q - x) % 16) (by omega) (by omega)
      have f := rot_next x0 x1 h (p := (q - x) % 16) (by omega) (by omega)
      rw [show (x + (q - x) % 16) % 16 = q by omega] at e f
      exact .inr ⟨(q - x) % 16, by omega, by omega, by rw [e]; exact c1, by rw [e]; exact c2, by rw [f]; exact c3⟩
theorem rot_vals {a l : List Int} {x : Int} (h : ∀ q : Int, 0 ≤ q → q < 16 → atS l q = atS a ((x + q) % 16)) : vals (atS l) = vals (fun j => atS a ((x + j) % 16)) := by
  unfold vals
  refine List.map_congr_left fun q hq => ?_
  have := List.mem_range.1 hq
  exact h _ (by omega) (by omega)
theorem rot_counts {a l : List Int} {x : Int} (x0 : 0 ≤ x) (x1 : x < 16) (h : ∀ q : Int, 0 ≤ q → q < 16 → atS l q = atS a ((x + q) % 16)) : countsS l = countsS a :=
  counts_perm (by rw [rot_vals h]; exact rot_perm _ x0 x1)
theorem rot_txt {a l : List Int} {x : Int} (x0 : 0 ≤ x) (x1 : x < 16) (h : ∀ q : Int, 0 ≤ q → q < 16 → atS l q = atS a ((x + q) % 16)) : txtB l = (txtB a).extract x.toNat 16 ++ (txtB a).extract 0 x.toNat := by
  have e : ∀ m : List Int, txtL m = (vals (atS m)).map chS := fun m => by unfold txtL vals; rw [List.map_map]; rfl
  have e2 : txtL l = (txtL a).drop x.toNat ++ (txtL a).take x.toNat := by
    rw [e l, rot_vals h, rot_map (atS a) x0 x1, List.map_append, List.map_drop, List.map_take, ← e a]
  have hl := txtL_len a
  apply ByteArray.ext
  rw [ByteArray.data_append, ByteArray.data_extract, ByteArray.data_extract]
  apply Array.toList_inj.1
  rw [Array.toList_append, Array.toList_extract, Array.toList_extract]
  show txtL l = _
  rw [e2, List.extract_eq_take_drop, List.extract_eq_take_drop, List.drop_zero, Nat.sub_zero]
  show _ = List.take (16 - x.toNat) (List.drop x.toNat (txtL a)) ++ List.take x.toNat (txtL a)
  rw [List.take_of_length_le (l := List.drop x.toNat (txtL a)) (by rw [List.length_drop]; omega)]
theorem turned_ok : PureOK Try.prog 5 [ints, ints, i64, i64] [.bool] (fun _ => True) (fun _ => (true, ())) :=
  fn_pure (E := M9) (n := 100) M9_ok Try.func5 (by kernel_rfl) .nil fun x _ => by
    obtain ⟨a, m, k, n, _⟩ : List Int × List Int × Int × Int × Unit := x
    obtain ⟨x, hx, x0, x1⟩ := umod k 16 (by omega) (by omega)
    refine Tree.all_eq (tTu a m k n) ?_
    show Tree.all (α := Bool × Unit) _ Yes
    rw [hx]
    generalize hl : ([] : List Int) ++ List.take ((a.length : Int).toNat - x.toNat) (List.drop x.toNat a) ++ List.take (x.toNat - 0) a = l
    simp only [all_leaf, all_fork, all_req, conjP, true_and, and_true, yes_t, yes_f, yes_iff]
    refine ⟨fun _ => trivial, fun c => ?_⟩
    rw [Bool.or_eq_false_iff, bne_eq_false_iff_eq, decide_eq_false_iff_not] at c
    have ha : a.length = 16 := by omega
    obtain ⟨hn, hat⟩ := rot_at ha hl x0 x1
    have hN : ∀ i : Int, 0 ≤ i → i < 16 → (nextS l i != nextS a ((IntKind.i64.wrap (i + x)).tmod 16)) = false := fun i i0 i1 => by
      rw [IntWalk.i64_in (i + x) (by omega), Int.tmod_eq_emod_of_nonneg (by omega), rot_next x0 x1 hat i0 i1, Int.add_comm x i, bne_self_eq_false]
    have ht := rot_txt x0 x1 hat
    have hs := rot_least x0 x1 hat n
    have hu : unevenS l m = unevenS a m := by unfold unevenS; rw [rot_counts x0 x1 hat]
    have z1 : (List.take ((a.length : Int).toNat - x.toNat) (List.drop x.toNat a)).length ≤ 16 := by rw [List.length_take, List.length_drop]; omega
    have z2 : (List.take (x.toNat - 0) a).length ≤ 16 := by rw [List.length_take]; omega
    refine ⟨by omega, ⟨x0, by omega, by omega⟩, by omega, ⟨by omega, x0, by omega⟩, by rw [List.nil_append]; omega, ?_⟩
    iterate 16 refine ⟨by omega, fun e => Bool.noConfusion (e.symm.trans (hN _ (by omega) (by omega))), fun _ => ?_⟩
    have b1 : (txtB a).size = 16 := txtL_len a
    have b2 : ((txtB a).extract x.toNat 16).size ≤ 16 := by rw [ByteArray.size_extract]; omega
    have b3 : ((txtB a).extract 0 x.toNat).size ≤ 16 := by rw [ByteArray.size_extract]; omega
    exact ⟨fun _ _ => ⟨⟨x0, by omega, by omega⟩, ⟨by omega, x0, by omega⟩, by omega, fun _ _ => ⟨by omega, by omega, fun _ => trivial⟩⟩, by rw [ht, hs, hu]; simp only [BEq.rfl, Bool.and_self]⟩
end Pl
namespace Pl
open Go Sx Go.Proofs Go.RowKit
theorem bodyM64 : Try.f35.body = some (bodyOf Try.f35) := by kernel_rfl
theorem bodyM32 : Try.f34.body = some (bodyOf Try.f34) := by kernel_rfl
theorem bodyMul : Try.f32.body = some (bodyOf Try.f32) := by kernel_rfl
theorem bodyRep : Try.f28.body = some (bodyOf Try.f28) := by kernel_rfl
noncomputable abbrev D1 : Ex := mkEx Try.prog [(35, fnI E0 [] 100 Try.f35), (34, fnI E0 [] 100 Try.f34)]
theorem D1_ok : D1.Sound := mkEx_sound ⟨fnI_ok (E := E0) E0_ok Try.func35 bodyM64 .nil, fnI_ok (E := E0) E0_ok Try.func34 bodyM32 .nil, trivial⟩
noncomputable abbrev D2 : Ex := mkExC Try.prog [(32, fnI D1 [] 100 Try.f32)]
theorem D2_ok : D2.Sound := mkExC_sound ⟨fnI_ok (E := D1) D1_ok Try.func32 bodyMul .nil, trivial⟩
noncomputable def repSp : Sx.Spec := concSp 1 1 8 (fnI D2 [] 100 Try.f28)
theorem repSp_ok : SpecOK Try.prog 28 repSp := concSp_ok (fnI_ok (E := D2) D2_ok Try.func28 bodyRep .nil)
theorem tRp (e n : Int) : @Eq _
  (((repSp [.one (.sub 0 0 1 1), .one (.int .i64 n)] [(0, .blk [.int .i64 e])] 1).getD (.fail "x")).bind fun d => .leaf (d.next))
  (.fork (decide (n = (1 : Int))) (
 .req ((0 : Int) ≤ (32 : Int)) (
  .req ((0 : Int) ≤ (32 : Int)) (
   .req ((0 : Int) ≤ (32 : Int)) (
    .req ((0 : Int) ≤ (32 : Int)) (
     .req ((0 : Int) ≤ (32 : Int)) (
      .leaf (2))))))) (
 .fork (decide (n = (2 : Int))) (
  .req ((0 : Int) ≤ (32 : Int)) (
   .req ((0 : Int) ≤ (32 : Int)) (
    .req ((0 : Int) ≤ (32 : Int)) (
     .req ((0 : Int) ≤ (32 : Int)) (
      .req ((0 : Int) ≤ (32 : Int)) (
       .leaf (2))))))) (
  .fork (decide (n = (3 : Int))) (
   .req ((0 : Int) ≤ (32 : Int)) (
    .req ((0 : Int) ≤ (32 : Int)) (
     .req ((0 : Int) ≤ (32 : Int)) (
      .req ((0 : Int) ≤ (32 : Int)) (
       .req ((0 : Int) ≤ (32 : Int)) (
        .leaf (2))))))) (
   .fork (decide (n = (4 : Int))) (
    .req ((0 : Int) ≤ (32 : Int)) (
     .req ((0 : Int) ≤ (32 : Int)) (
      .req ((0 : Int) ≤ (32 : Int)) (
       .req ((0 : Int) ≤ (32 : Int)) (
        .req ((0 : Int) ≤ (32 : Int)) (
         .leaf (2))))))) (
    .fork (decide (n = (5 : Int))) (
     .req ((0 : Int) ≤ (32 : Int)) (
      .req ((0 : Int) ≤ (32 : Int)) (
       .req ((0 : Int) ≤ (32 : Int)) (
        .req ((0 : Int) ≤ (32 : Int)) (
         .req ((0 : Int) ≤ (32 : Int)) (
          .leaf (2))))))) (
     .fork (decide (n = (6 : Int))) (
      .req ((0 : Int) ≤ (32 : Int)) (
       .req ((0 : Int) ≤ (32 : Int)) (
        .req ((0 : Int) ≤ (32 : Int)) (
         .req ((0 : Int) ≤ (32 : Int)) (
          .req ((0 : Int) ≤ (32 : Int)) (
           .leaf (2))))))) (
      .fork (decide (n = (7 : Int))) (
       .req ((0 : Int) ≤ (32 : Int)) (
        .req ((0 : Int) ≤ (32 : Int)) (
         .req ((0 : Int) ≤ (32 : Int)) (
          .req ((0 : Int) ≤ (32 : Int)) (
           .req ((0 : Int) ≤ (32 : Int)) (
            .leaf (2))))))) (
       .fork (decide (n = (8 : Int))) (
        .req ((0 : Int) ≤ (32 : Int)) (
         .req ((0 : Int) ≤ (32 : Int)) (
          .req ((0 : Int) ≤ (32 : Int)) (
           .req ((0 : Int) ≤ (32 : Int)) (
            .req ((0 : Int) ≤ (32 : Int)) (
             .leaf (2))))))) (
        .fail "no such number")))))))) : Tree (Nat)) := by kernel_rfl
end Pl
