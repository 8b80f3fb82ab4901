import Derived.Test.YtdjgbkmakjhdgaaSpSpE
namespace Pl
open Go Sx Go.Proofs Go.RowKit
theorem bodyNd : Try.f10.body = some (bodyOf Try.f10) := by kernel_rfl
noncomputable abbrev M9 : Ex := mkExM Try.prog [KsT, KAw, KsN, KsL, KsU, KsC, (10, fnI E0 [] 100 Try.f10)]
theorem M9_ok : M9.Sound := mkExM_sound ⟨pureSp_ok text_ok, pureSp_ok aw_ok, pureSp_ok next_ok, pureSp_ok least_ok, pureSp_ok uneven_ok, pureSp_ok counts_ok, fnI_ok (E := E0) E0_ok Try.func10 bodyNd .nil, trivial⟩
def cjS (a : List Int) (p : Int) : Nat → Int
  | 0 => 0
  | t + 1 => cjS a p t + if atS a ((p + (t : Int)) % 16) = atS a p then 1 else 0
def msS (a : List Int) (p : Int) : Nat → Int
  | 0 => 16
  | t + 1 => if atS a ((p + (t : Int)) % 16) = atS a p then (if nextS a ((p + (t : Int)) % 16) < msS a p t then nextS a ((p + (t : Int)) % 16) else msS a p t) else msS a p t
structure ARo where
  a : List Int
  p : Int
  t : Int
  i : Int
  m : Int
  s : Int
  u : Int
def LRo : LoopC ARo where
  n0 := 1
  det st := match rowS st 0 i64, intS st 1, intS st 6, intS st 41, intS st 9, intS st 8, intS st 7 with | some a, some p, some n0, some i1, some i2, some i3, some i4 => some ⟨a, p, n0, i1, i2, i3, i4⟩ | _, _, _, _, _, _, _ => none
  inv a := ⟨[(41, iv a.i), (9, iv a.m), (8, iv a.s), (7, iv a.u), (6, iv a.t), (1, iv a.p), (0, .one (.row 0))],
    [(0, .ro i64 a.a)], 1⟩
  ok a := 0 ≤ a.p ∧ a.p < 16 ∧ atS a.a a.p ≠ -1 ∧ 0 ≤ a.i ∧ a.i ≤ a.u ∧ a.u < 16 ∧ a.t = (a.p + a.u) % 16 ∧ atS a.a a.t = atS a.a a.p ∧ a.s = cjS a.a a.p a.u.toNat ∧ 0 ≤ a.s ∧ a.s ≤ a.u ∧ a.m = msS a.a a.p a.u.toNat
  mu a := 17 - a.i.toNat
  fin a := .leaf ⟨2, ⟨[(8, iv (cjS a.a a.p 16)), (9, iv (msS a.a a.p 16)), (7, iv 16), (1, iv a.p), (0, .one (.row 0))],
    [(0, .ro i64 a.a)], 1⟩⟩
theorem rRo (a : List Int) (p t i m s u : Int) : @Eq _
  (LRo.round M9 [] 100 Try.f4 0 ⟨a, p, t, i, m, s, u⟩)
  (.fork (decide (i < (16 : Int))) (
 .req (True) (
  .req (True) (
   .fork (decide (Pl.nextS a t < (1 : Int)) || decide (Pl.nextS a t > (16 : Int))) (
    .req (False) (
     .leaf (Option.none))) (
    .req ((16 : Int) ≠ (0 : Int)) (
     .req (decide ((IntKind.i64.wrap (t + Pl.nextS a t)).tmod (16 : Int) ≥ (↑a.length : Int)) = false → conjP [(0 : Int) ≤ (IntKind.i64.wrap (t + Pl.nextS a t)).tmod (16 : Int) ∧ (IntKind.i64.wrap (t + Pl.nextS a t)).tmod (16 : Int) < (↑a.length : Int), (0 : Int) ≤ (IntKind.i64.wrap (t + Pl.nextS a t)).tmod (16 : Int) ∧ (IntKind.i64.wrap (t + Pl.nextS a t)).tmod (16 : Int) < (↑a.length : Int), (0 : Int) ≤ p ∧ p < (↑a.length : Int), (0 : Int) ≤ p ∧ p < (↑a.length : Int)]) (
      .fork (decide ((IntKind.i64.wrap (t + Pl.nextS a t)).tmod (16 : Int) ≥ (↑a.length : Int)) || a.getD ((IntKind.i64.wrap (t + Pl.nextS a t)).tmod (16 : Int)).toNat (0 : Int) != a.getD p.toNat (0 : Int)) (
       .req (False) (
        .leaf (Option.none))) (
       .fork ((IntKind.i64.wrap (t + Pl.nextS a t)).tmod (16 : Int) == p) (
        .req (IntKind.i64.wrap (s + (1 : Int)) = Pl.cjS a p 16 ∧ (if Pl.nextS a t < m then Pl.nextS a t else m) = Pl.msS a p 16 ∧ IntKind.i64.wrap (u + Pl.nextS a t) = (16 : Int) ∧ p = p ∧ a = a) (
         .leaf (Option.none))) (
        .req (IntKind.i64.wrap (i + (1 : Int)) = IntKind.i64.wrap (i + (1 : Int)) ∧ ((if Pl.nextS a t < m then Pl.nextS a t else m) = if Pl.nextS a t < m then Pl.nextS a t else m) ∧ IntKind.i64.wrap (s + (1 : Int)) = IntKind.i64.wrap (s + (1 : Int)) ∧ IntKind.i64.wrap (u + Pl.nextS a t) = IntKind.i64.wrap (u + Pl.nextS a t) ∧ (IntKind.i64.wrap (t + Pl.nextS a t)).tmod (16 : Int) = (IntKind.i64.wrap (t + Pl.nextS a t)).tmod (16 : Int) ∧ p = p ∧ a = a) (
         .leaf (Option.some { a := a, p := p, t := (IntKind.i64.wrap (t + Pl.nextS a t)).tmod (16 : Int), i := IntKind.i64.wrap (i + (1 : Int)), m := if Pl.nextS a t < m then Pl.nextS a t else m, s := IntKind.i64.wrap (s + (1 : Int)), u := IntKind.i64.wrap (u + Pl.nextS a t) })))))))))) (
 .req (s = Pl.cjS a p 16 ∧ m = Pl.msS a p 16 ∧ u = (16 : Int) ∧ p = p ∧ a = a) (
  .leaf (Option.none))) : Tree (Option Pl.ARo)) := by kernel_rfl
theorem tRo (a : List Int) (p : Int) : @Eq _
  (fnT M9 [(0, LRo.sp)] 100 Try.f4 [ints, i64] [.bool] (a, p, ()))
  (.fork (decide ((↑a.length : Int) > (100 : Int))) (
 .req (True) (
  .leaf ((true, ())))) (
 .req ((16 : Int) ≠ (0 : Int)) (
  .req (True) (
   .req (decide (IntKind.i64.wrap ((IntKind.u64.wrap p).tmod (16 : Int)) ≥ (↑a.length : Int)) = false → conjP [(0 : Int) ≤ IntKind.i64.wrap ((IntKind.u64.wrap p).tmod (16 : Int)) ∧ IntKind.i64.wrap ((IntKind.u64.wrap p).tmod (16 : Int)) < (↑a.length : Int), (0 : Int) ≤ IntKind.i64.wrap ((IntKind.u64.wrap p).tmod (16 : Int)) ∧ IntKind.i64.wrap ((IntKind.u64.wrap p).tmod (16 : Int)) < (↑a.length : Int)]) (
    .fork (decide (IntKind.i64.wrap ((IntKind.u64.wrap p).tmod (16 : Int)) ≥ (↑a.length : Int)) || (!decide (a.getD (IntKind.i64.wrap ((IntKind.u64.wrap p).tmod (16 : Int))).toNat (0 : Int) ≥ (0 : Int)) || !decide (a.getD (IntKind.i64.wrap ((IntKind.u64.wrap p).tmod (16 : Int))).toNat (0 : Int) < (8 : Int)))) (
     .req ((Pl.nextS a (IntKind.i64.wrap ((IntKind.u64.wrap p).tmod (16 : Int))) == (0 : Int)) = true → conjP [True]) (
      .leaf ((Pl.nextS a (IntKind.i64.wrap ((IntKind.u64.wrap p).tmod (16 : Int))) == (0 : Int) && true, ())))) (
     .req ((0 : Int) ≤ IntKind.i64.wrap ((IntKind.u64.wrap p).tmod (16 : Int)) ∧ IntKind.i64.wrap ((IntKind.u64.wrap p).tmod (16 : Int)) < (16 : Int) ∧ Pl.atS a (IntKind.i64.wrap ((IntKind.u64.wrap p).tmod (16 : Int))) ≠ (-1 : Int) ∧ (0 : Int) ≤ (0 : Int) ∧ (0 : Int) ≤ (0 : Int) ∧ (0 : Int) < (16 : Int) ∧ IntKind.i64.wrap ((IntKind.u64.wrap p).tmod (16 : Int)) = (IntKind.i64.wrap ((IntKind.u64.wrap p).tmod (16 : Int)) + (0 : Int)) % (16 : Int) ∧ Pl.atS a (IntKind.i64.wrap ((IntKind.u64.wrap p).tmod (16 : Int))) = Pl.atS a (IntKind.i64.wrap ((IntKind.u64.wrap p).tmod (16 : Int))) ∧ (0 : Int) = (0 : Int) ∧ (0 : Int) ≤ (0 : Int) ∧ (0 : Int) ≤ (0 : Int) ∧ (16 : Int) = (16 : Int)) (
      .req ((0 : Int) = (0 : Int) ∧ (16 : Int) = (16 : Int) ∧ (0 : Int) = (0 : Int) ∧ (0 : Int) = (0 : Int) ∧ IntKind.i64.wrap ((IntKind.u64.wrap p).tmod (16 : Int)) = IntKind.i64.wrap ((IntKind.u64.wrap p).tmod (16 : Int)) ∧ IntKind.i64.wrap ((IntKind.u64.wrap p).tmod (16 : Int)) = IntKind.i64.wrap ((IntKind.u64.wrap p).tmod (16 : Int)) ∧ a = a) (
       .req (True) (
        .req (((↑(Pl.countsS a).length : Int) == (8 : Int)) = true → conjP ((true = true → conjP [(0 : Int) ≤ IntKind.i64.wrap ((IntKind.u64.wrap p).tmod (16 : Int)) ∧ IntKind.i64.wrap ((IntKind.u64.wrap p).tmod (16 : Int)) < (↑a.length : Int), (0 : Int) ≤ IntKind.i64.wrap ((IntKind.u64.wrap p).tmod (16 : Int)) ∧ IntKind.i64.wrap ((IntKind.u64.wrap p).tmod (16 : Int)) < (↑a.length : Int), (0 : Int) ≤ a.getD (IntKind.i64.wrap ((IntKind.u64.wrap p).tmod (16 : Int))).toNat (0 : Int) ∧ a.getD (IntKind.i64.wrap ((IntKind.u64.wrap p).tmod (16 : Int))).toNat (0 : Int) < (↑(Pl.countsS a).length : Int), (0 : Int) ≤ a.getD (IntKind.i64.wrap ((IntKind.u64.wrap p).tmod (16 : Int))).toNat (0 : Int) ∧ a.getD (IntKind.i64.wrap ((IntKind.u64.wrap p).tmod (16 : Int))).toNat (0 : Int) < (↑(Pl.countsS a).length : Int), (Pl.cjS a (IntKind.i64.wrap ((IntKind.u64.wrap p).tmod (16 : Int))) 16 == (Pl.countsS a).getD (a.getD (IntKind.i64.wrap ((IntKind.u64.wrap p).tmod (16 : Int))).toNat (0 : Int)).toNat (0 : Int)) = true → conjP [(0 : Int) ≤ IntKind.i64.wrap ((IntKind.u64.wrap p).tmod (16 : Int)) ∧ IntKind.i64.wrap ((IntKind.u64.wrap p).tmod (16 : Int)) < (↑a.length : Int), (0 : Int) ≤ IntKind.i64.wrap ((IntKind.u64.wrap p).tmod (16 : Int)) ∧ IntKind.i64.wrap ((IntKind.u64.wrap p).tmod (16 : Int)) < (↑a.length : Int), True, (Pl.leastS a (a.getD (IntKind.i64.wrap ((IntKind.u64.wrap p).tmod (16 : Int))).toNat (0 : Int)) == Pl.msS a (IntKind.i64.wrap ((IntKind.u64.wrap p).tmod (16 : Int))) 16) = true → conjP [True]]]) :: ([] : List Prop))) (
         .leaf (((↑(Pl.countsS a).length : Int) == (8 : Int) && (Pl.cjS a (IntKind.i64.wrap ((IntKind.u64.wrap p).tmod (16 : Int))) 16 == (Pl.countsS a).getD (a.getD (IntKind.i64.wrap ((IntKind.u64.wrap p).tmod (16 : Int))).toNat (0 : Int)).toNat (0 : Int) && (Pl.leastS a (a.getD (IntKind.i64.wrap ((IntKind.u64.wrap p).tmod (16 : Int))).toNat (0 : Int)) == Pl.msS a (IntKind.i64.wrap ((IntKind.u64.wrap p).tmod (16 : Int))) 16 && true)), ()))))))))))) : Tree (Bool × PUnit)) := by kernel_rfl
theorem tTu (a m : List Int) (k n : Int) : @Eq _
  (fnT M9 [] 100 Try.f5 [ints, ints, i64, i64] [.bool] (a, m, k, n, ()))
  (.req (True) (
 .fork ((↑a.length : Int) != (16 : Int) || decide ((↑m.length : Int) > (100 : Int))) (
  .req (True) (
   .leaf ((true, ())))) (
  .req ((16 : Int) ≠ (0 : Int)) (
   .req ((0 : Int) ≤ IntKind.i64.wrap ((IntKind.u64.wrap k).tmod (16 : Int)) ∧ IntKind.i64.wrap ((IntKind.u64.wrap k).tmod (16 : Int)) ≤ (↑a.length : Int) ∧ (↑a.length : Int) ≤ (↑a.length : Int)) (
    .req ((0 + (List.take ((↑a.length : Int).toNat - (IntKind.i64.wrap ((IntKind.u64.wrap k).tmod (16 : Int))).toNat) (List.drop (IntKind.i64.wrap ((IntKind.u64.wrap k).tmod (16 : Int))).toNat a)).length) * 9 ≤ 70368744177664) (
     .req ((0 : Int) ≤ (0 : Int) ∧ (0 : Int) ≤ IntKind.i64.wrap ((IntKind.u64.wrap k).tmod (16 : Int)) ∧ IntKind.i64.wrap ((IntKind.u64.wrap k).tmod (16 : Int)) ≤ (↑a.length : Int)) (
      .req (((([] : List Int) ++ List.take ((↑a.length : Int).toNat - (IntKind.i64.wrap ((IntKind.u64.wrap k).tmod (16 : Int))).toNat) (List.drop (IntKind.i64.wrap ((IntKind.u64.wrap k).tmod (16 : Int))).toNat a)).length + (List.take ((IntKind.i64.wrap ((IntKind.u64.wrap k).tmod (16 : Int))).toNat - 0) a).length) * 9 ≤ 70368744177664) (
       .req (True) (
        .req ((16 : Int) ≠ (0 : Int)) (
         .req (True) (
          .fork (Pl.nextS (([] : List Int) ++ List.take ((↑a.length : Int).toNat - (IntKind.i64.wrap ((IntKind.u64.wrap k).tmod (16 : Int))).toNat) (List.drop (IntKind.i64.wrap ((IntKind.u64.wrap k).tmod (16 : Int))).toNat a) ++ List.take ((IntKind.i64.wrap ((IntKind.u64.wrap k).tmod (16 : Int))).toNat - 0) a) (0 : Int) != Pl.nextS a ((IntKind.i64.wrap ((0 : Int) + IntKind.i64.wrap ((IntKind.u64.wrap k).tmod (16 : Int)))).tmod (16 : Int))) (
           .leaf ((false, ()))) (
           .req (True) (
            .req ((16 : Int) ≠ (0 : Int)) (
             .req (True) (
              .fork (Pl.nextS (([] : List Int) ++ List.take ((↑a.length : Int).toNat - (IntKind.i64.wrap ((IntKind.u64.wrap k).tmod (16 : Int))).toNat) (List.drop (IntKind.i64.wrap ((IntKind.u64.wrap k).tmod (16 : Int))).toNat a) ++ List.take ((IntKind.i64.wrap ((IntKind.u64.wrap k).tmod (16 : Int))).toNat - 0) a) (1 : Int) != Pl.nextS a ((IntKind.i64.wrap ((1 : Int) + IntKind.i64.wrap ((IntKind.u64.wrap k).tmod (16 : Int)))).tmod (16 : Int))) (
               .leaf ((false, ()))) (
               .req (True) (
                .req ((16 : Int) ≠ (0 : Int)) (
                 .req (True) (
                  .fork (Pl.nextS (([] : List Int) ++ List.take ((↑a.length : Int).toNat - (IntKind.i64.wrap ((IntKind.u64.wrap k).tmod (16 : Int))).toNat) (List.drop (IntKind.i64.wrap ((IntKind.u64.wrap k).tmod (16 : Int))).toNat a) ++ List.take ((IntKind.i64.wrap ((IntKind.u64.wrap k).tmod (16 : Int))).toNat - 0) a) (2 : Int) != Pl.nextS a ((IntKind.i64.wrap ((2 : Int) + IntKind.i64.wrap ((IntKind.u64.wrap k).tmod (16 : Int)))).tmod (16 : Int))) (
                   .leaf ((false, ()))) (
                   .req (True) (
                    .req ((16 : Int) ≠ (0 : Int)) (
                     .req (True) (
                      .fork (Pl.nextS (([] : List Int) ++ List.take ((↑a.length : Int).toNat - (IntKind.i64.wrap ((IntKind.u64.wrap k).tmod (16 : Int))).toNat) (List.drop (IntKind.i64.wrap ((IntKind.u64.wrap k).tmod (16 : Int))).toNat a) ++ List.take ((IntKind.i64.wrap ((IntKind.u64.wrap k).tmod (16 : Int))).toNat - 0) a) (3 : Int) != Pl.nextS a ((IntKind.i64.wrap ((3 : Int) + IntKind.i64.wrap ((IntKind.u64.wrap k).tmod (16 : Int)))).tmod (16 : Int))) (
                       .leaf ((false, ()))) (
                       .req (True) (
                        .req ((16 : Int) ≠ (0 : Int)) (
                         .req (True) (
                          .fork (Pl.nextS (([] : List Int) ++ List.take ((↑a.length : Int).toNat - (IntKind.i64.wrap ((IntKind.u64.wrap k).tmod (16 : Int))).toNat) (List.drop (IntKind.i64.wrap ((IntKind.u64.wrap k).tmod (16 : Int))).toNat a) ++ List.take ((IntKind.i64.wrap ((IntKind.u64.wrap k).tmod (16 : Int))).toNat - 0) a) (4 : Int) != Pl.nextS a ((IntKind.i64.wrap ((4 : Int) + IntKind.i64.wrap ((IntKind.u64.wrap k).tmod (16 : Int)))).tmod (16 : Int))) (
                           .leaf ((false, ()))) (
                           .req (True) (
                            .req ((16 : Int) ≠ (0 : Int)) (
                             .req (True) (
                              .fork (Pl.nextS (([] : List Int) ++ List.take ((↑a.length : Int).toNat - (IntKind.i64.wrap ((IntKind.u64.wrap k).tmod (16 : Int))).toNat) (List.drop (IntKind.i64.wrap ((IntKind.u64.wrap k).tmod (16 : Int))).toNat a) ++ List.take ((IntKind.i64.wrap ((IntKind.u64.wrap k).tmod (16 : Int))).toNat - 0) a) (5 : Int) != Pl.nextS a ((IntKind.i64.wrap ((5 : Int) + IntKind.i64.wrap ((IntKind.u64.wrap k).tmod (16 : Int)))).tmod (16 : Int))) (
                               .leaf ((false, ()))) (
                               .req (True) (
                                .req ((16 : Int) ≠ (0 : Int)) (
                                 .req (True) (
                                  .fork (Pl.nextS (([] : List Int) ++ List.take ((↑a.length : Int).toNat - (IntKind.i64.wrap ((IntKind.u64.wrap k).tmod (16 : Int))).toNat) (List.drop (IntKind.i64.wrap ((IntKind.u64.wrap k).tmod (16 : Int))).toNat a) ++ List.take ((IntKind.i64.wrap ((IntKind.u64.wrap k).tmod (16 : Int))).toNat - 0) a) (6 : Int) != Pl.nextS a ((IntKind.i64.wrap ((6 : Int) + IntKind.i64.wrap ((IntKind.u64.wrap k).tmod (16 : Int)))).tmod (16 : Int))) (
                                   .leaf ((false, ()))) (
                                   .req (True) (
                                    .req ((16 : Int) ≠ (0 : Int)) (
                                     .req (True) (
                                      .fork (Pl.nextS (([] : List Int) ++ List.take ((↑a.length : Int).toNat - (IntKind.i64.wrap ((IntKind.u64.wrap k).tmod (16 : Int))).toNat) (List.drop (IntKind.i64.wrap ((IntKind.u64.wrap k).tmod (16 : Int))).toNat a) ++ List.take ((IntKind.i64.wrap ((IntKind.u64.wrap k).tmod (16 : Int))).toNat - 0) a) (7 : Int) != Pl.nextS a ((IntKind.i64.wrap ((7 : Int) + IntKind.i64.wrap ((IntKind.u64.wrap k).tmod (16 : Int)))).tmod (16 : Int))) (
                                       .leaf ((false, ()))) (
                                       .req (True) (
                                        .req ((16 : Int) ≠ (0 : Int)) (
                                         .req (True) (
                                          .fork (Pl.nextS (([] : List Int) ++ List.take ((↑a.length : Int).toNat - (IntKind.i64.wrap ((IntKind.u64.wrap k).tmod (16 : Int))).toNat) (List.drop (IntKind.i64.wrap ((IntKind.u64.wrap k).tmod (16 : Int))).toNat a) ++ List.take ((IntKind.i64.wrap ((IntKind.u64.wrap k).tmod (16 : Int))).toNat - 0) a) (8 : Int) != Pl.nextS a ((IntKind.i64.wrap ((8 : Int) + IntKind.i64.wrap ((IntKind.u64.wrap k).tmod (16 : Int)))).tmod (16 : Int))) (
                                           .leaf ((false, ()))) (
                                           .req (True) (
                                            .req ((16 : Int) ≠ (0 : Int)) (
                                             .req (True) (
                                              .fork (Pl.nextS (([] : List Int) ++ List.take ((↑a.length : Int).toNat - (IntKind.i64.wrap ((IntKind.u64.wrap k).tmod (16 : Int))).toNat) (List.drop (IntKind.i64.wrap ((IntKind.u64.wrap k).tmod (16 : Int))).toNat a) ++ List.take ((IntKind.i64.wrap ((IntKind.u64.wrap k).tmod (16 : Int))).toNat - 0) a) (9 : Int) != Pl.nextS a ((IntKind.i64.wrap ((9 : Int) + IntKind.i64.wrap ((IntKind.u64.wrap k).tmod (16 : Int)))).tmod (16 : Int))) (
                                               .leaf ((false, ()))) (
                                               .req (True) (
                                                .req ((16 : Int) ≠ (0 : Int)) (
                                                 .req (True) (
                                                  .fork (Pl.nextS (([] : List Int) ++ List.take ((↑a.length : Int).toNat - (IntKind.i64.wrap ((IntKind.u64.wrap k).tmod (16 : Int))).toNat) (List.drop (IntKind.i64.wrap ((IntKind.u64.wrap k).tmod (16 : Int))).toNat a) ++ List.take ((IntKind.i64.wrap ((IntKind.u64.wrap k).tmod (16 : Int))).toNat - 0) a) (10 : Int) != Pl.nextS a ((IntKind.i64.wrap ((10 : Int) + IntKind.i64.wrap ((IntKind.u64.wrap k).tmod (16 : Int)))).tmod (16 : Int))) (
                                                   .leaf ((false, ()))) (
                                                   .req (True) (
                                                    .req ((16 : Int) ≠ (0 : Int)) (
                                                     .req (True) (
                                                      .fork (Pl.nextS (([] : List Int) ++ List.take ((↑a.length : Int).toNat - (IntKind.i64.wrap ((IntKind.u64.wrap k).tmod (16 : Int))).toNat) (List.drop (IntKind.i64.wrap ((IntKind.u64.wrap k).tmod (16 : Int))).toNat a) ++ List.take ((IntKind.i64.wrap ((IntKind.u64.wrap k).tmod (16 : Int))).toNat - 0) a) (11 : Int) != Pl.nextS a ((IntKind.i64.wrap ((11 : Int) + IntKind.i64.wrap ((IntKind.u64.wrap k).tmod (16 : Int)))).tmod (16 : Int))) (
                                                       .leaf ((false, ()))) (
                                                       .req (True) (
                                                        .req ((16 : Int) ≠ (0 : Int)) (
                                                         .req (True) (
                                                          .fork (Pl.nextS (([] : List Int) ++ List.take ((↑a.length : Int).toNat - (IntKind.i64.wrap ((IntKind.u64.wrap k).tmod (16 : Int))).toNat) (List.drop (IntKind.i64.wrap ((IntKind.u64.wrap k).tmod (16 : Int))).toNat a) ++ List.take ((IntKind.i64.wrap ((IntKind.u64.wrap k).tmod (16 : Int))).toNat - 0) a) (12 : Int) != Pl.nextS a ((IntKind.i64.wrap ((12 : Int) + IntKind.i64.wrap ((IntKind.u64.wrap k).tmod (16 : Int)))).tmod (16 : Int))) (
                                                           .leaf ((false, ()))) (
                                                           .req (True) (
                                                            .req ((16 : Int) ≠ (0 : Int)) (
                                                             .req (True) (
                                                              .fork (Pl.nextS (([] : List Int) ++ List.take ((↑a.length : Int).toNat - (IntKind.i64.wrap ((IntKind.u64.wrap k).tmod (16 : Int))).toNat) (List.drop (IntKind.i64.wrap ((IntKind.u64.wrap k).tmod (16 : Int))).toNat a) ++ List.take ((IntKind.i64.wrap ((IntKind.u64.wrap k).tmod (16 : Int))).toNat - 0) a) (13 : Int) != Pl.nextS a ((IntKind.i64.wrap ((13 : Int) + IntKind.i64.wrap ((IntKind.u64.wrap k).tmod (16 : Int)))).tmod (16 : Int))) (
                                                               .leaf ((false, ()))) (
                                                               .req (True) (
                                                                .req ((16 : Int) ≠ (0 : Int)) (
                                                                 .req (True) (
                                                                  .fork (Pl.nextS (([] : List Int) ++ List.take ((↑a.length : Int).toNat - (IntKind.i64.wrap ((IntKind.u64.wrap k).tmod (16 : Int))).toNat) (List.drop (IntKind.i64.wrap ((IntKind.u64.wrap k).tmod (16 : Int))).toNat a) ++ List.take ((IntKind.i64.wrap ((IntKind.u64.wrap k).tmod (16 : Int))).toNat - 0) a) (14 : Int) != Pl.nextS a ((IntKind.i64.wrap ((14 : Int) + IntKind.i64.wrap ((IntKind.u64.wrap k).tmod (16 : Int)))).tmod (16 : Int))) (
                                                                   .leaf ((false, ()))) (
                                                                   .req (True) (
                                                                    .req ((16 : Int) ≠ (0 : Int)) (
                                                                     .req (True) (
                                                                      .fork (Pl.nextS (([] : List Int) ++ List.take ((↑a.length : Int).toNat - (IntKind.i64.wrap ((IntKind.u64.wrap k).tmod (16 : Int))).toNat) (List.drop (IntKind.i64.wrap ((IntKind.u64.wrap k).tmod (16 : Int))).toNat a) ++ List.take ((IntKind.i64.wrap ((IntKind.u64.wrap k).tmod (16 : Int))).toNat - 0) a) (15 : Int) != Pl.nextS a ((IntKind.i64.wrap ((15 : Int) + IntKind.i64.wrap ((IntKind.u64.wrap k).tmod (16 : Int)))).tmod (16 : Int))) (
                                                                       .leaf ((false, ()))) (
                                                                       .req (True) (
                                                                        .req (True) (
                                                                         .req (true = true → conjP ((true = true → conjP [(0 : Int) ≤ IntKind.i64.wrap ((IntKind.u64.wrap k).tmod (16 : Int)) ∧ IntKind.i64.wrap ((IntKind.u64.wrap k).tmod (16 : Int)) ≤ (16 : Int) ∧ (16 : Int) ≤ (16 : Int), (0 : Int) ≤ (0 : Int) ∧ (0 : Int) ≤ IntKind.i64.wrap ((IntKind.u64.wrap k).tmod (16 : Int)) ∧ IntKind.i64.wrap ((IntKind.u64.wrap k).tmod (16 : Int)) ≤ (16 : Int), (↑(((Pl.txtB a).extract (IntKind.i64.wrap ((IntKind.u64.wrap k).tmod (16 : Int))).toNat 16).size + ((Pl.txtB a).extract 0 (IntKind.i64.wrap ((IntKind.u64.wrap k).tmod (16 : Int))).toNat).size) : Int) ≤ (9223372036854775807 : Int), ((Pl.txtB (([] : List Int) ++ List.take ((↑a.length : Int).toNat - (IntKind.i64.wrap ((IntKind.u64.wrap k).tmod (16 : Int))).toNat) (List.drop (IntKind.i64.wrap ((IntKind.u64.wrap k).tmod (16 : Int))).toNat a) ++ List.take ((IntKind.i64.wrap ((IntKind.u64.wrap k).tmod (16 : Int))).toNat - 0) a)).toList == ((Pl.txtB a).extract (IntKind.i64.wrap ((IntKind.u64.wrap k).tmod (16 : Int))).toNat 16 ++ (Pl.txtB a).extract 0 (IntKind.i64.wrap ((IntKind.u64.wrap k).tmod (16 : Int))).toNat).toList) = true → conjP [True, True, (Pl.leastS (([] : List Int) ++ List.take ((↑a.length : Int).toNat - (IntKind.i64.wrap ((IntKind.u64.wrap k).tmod (16 : Int))).toNat) (List.drop (IntKind.i64.wrap ((IntKind.u64.wrap k).tmod (16 : Int))).toNat a) ++ List.take ((IntKind.i64.wrap ((IntKind.u64.wrap k).tmod (16 : Int))).toNat - 0) a) n == Pl.leastS a n) = true → conjP [(↑m.length : Int) < (4611686018427387904 : Int), (↑m.length : Int) < (4611686018427387904 : Int), (Pl.unevenS (([] : List Int) ++ List.take ((↑a.length : Int).toNat - (IntKind.i64.wrap ((IntKind.u64.wrap k).tmod (16 : Int))).toNat) (List.drop (IntKind.i64.wrap ((IntKind.u64.wrap k).tmod (16 : Int))).toNat a) ++ List.take ((IntKind.i64.wrap ((IntKind.u64.wrap k).tmod (16 : Int))).toNat - 0) a) m == Pl.unevenS a m) = true → conjP [True]]]]) :: ([] : List Prop))) (
                                                                          .leaf (((Pl.txtB (([] : List Int) ++ List.take ((↑a.length : Int).toNat - (IntKind.i64.wrap ((IntKind.u64.wrap k).tmod (16 : Int))).toNat) (List.drop (IntKind.i64.wrap ((IntKind.u64.wrap k).tmod (16 : Int))).toNat a) ++ List.take ((IntKind.i64.wrap ((IntKind.u64.wrap k).tmod (16 : Int))).toNat - 0) a)).toList == ((Pl.txtB a).extract (IntKind.i64.wrap ((IntKind.u64.wrap k).tmod (16 : Int))).toNat 16 ++ (Pl.txtB a).extract 0 (IntKind.i64.wrap ((IntKind.u64.wrap k).tmod (16 : Int))).toNat).toList && (Pl.leastS (([] : List Int) ++ List.take ((↑a.length : Int).toNat - (IntKind.i64.wrap ((IntKind.u64.wrap k).tmod (16 : Int))).toNat) (List.drop (IntKind.i64.wrap ((IntKind.u64.wrap k).tmod (16 : Int))).toNat a) ++ List.take ((IntKind.i64.wrap ((IntKind.u64.wrap k).tmod (16 : Int))).toNat - 0) a) n == Pl.leastS a n && (Pl.unevenS (([] : List Int) ++ List.take ((↑a.length : Int).toNat - (IntKind.i64.wrap ((IntKind.u64.wrap k).tmod (16 : Int))).toNat) (List.drop (IntKind.i64.wrap ((IntKind.u64.wrap k).tmod (16 : Int))).toNat a) ++ List.take ((IntKind.i64.wrap ((IntKind.u64.wrap k).tmod (16 : Int))).toNat - 0) a) m == Pl.unevenS a m && true)), ())))))))))))))))))))))))))))))))))))))))))))))))))))))))))))))))))))))))))))) : Tree (Bool × PUnit)) := by kernel_rfl
end Pl
