import Derived.Test.YtdjgbkmakjhdgaaSpPlC
namespace Pl
open Go Sx Go.Proofs Go.RowKit
abbrev KQo : Nat × Sx.Spec := (16, ownSp [ints, ints] [ints] (fun x => (List.length (α := Int) x.2.1 : Int) < big) (fun x => (quotaL x.1 x.2.1, ())))
abbrev KClo : Nat × Sx.Spec := (27, ownSp [ints] [ints] (fun x => (List.length (α := Int) x.1 : Int) < 17592186044416) (fun x => (x.1, ())))
noncomputable abbrev W2 : Ex := mkExM Try.prog [KMe, KQo, KAt, KIx, KBe, KClo, (25, fnI W0 [] 100 Try.f25)]
def asg0 (now m : List Int) : Nat → Nat → List Int → List Int → List Int × List Int
  | 0, _, to, la => (to, la)
  | c + 1, p, to, la => if decide (indexF m (atL now (p : Int)) ≥ 0) && decide (la.getD (indexF m (atL now (p : Int))).toNat 0 > 0) then asg0 now m c (p + 1) (to.set p (m.getD (indexF m (atL now (p : Int))).toNat 0)) (la.set (indexF m (atL now (p : Int))).toNat (la.getD (indexF m (atL now (p : Int))).toNat 0 - 1)) else asg0 now m c (p + 1) (to.set p (-1)) la
structure AA0 where
  now : List Int
  la : List Int
  m : List Int
  p : Int
  to : List Int
def LA0 : LoopC AA0 where
  n0 := 5
  det st := match rowS st 0 i64, rowC st 4 1 i64, rowC st 4 0 i64, intS st 24, datG st 4 2 (.rep 16 i64) with | some now, some l0, some l1, some i2, some to => some ⟨now, l0, l1, i2, to⟩ | _, _, _, _, _ => none
  inv a := ⟨[(24, iv a.p), (5, .one (.ptr 4 0)), (0, .one (.row 0))],
    [(4, .blk [.row 2, .row 3, .int .i64 (a.to.getD 0 (0 : Int)), .int .i64 (a.to.getD 1 (0 : Int)), .int .i64 (a.to.getD 2 (0 : Int)), .int .i64 (a.to.getD 3 (0 : Int)), .int .i64 (a.to.getD 4 (0 : Int)), .int .i64 (a.to.getD 5 (0 : Int)), .int .i64 (a.to.getD 6 (0 : Int)), .int .i64 (a.to.getD 7 (0 : Int)), .int .i64 (a.to.getD 8 (0 : Int)), .int .i64 (a.to.getD 9 (0 : Int)), .int .i64 (a.to.getD 10 (0 : Int)), .int .i64 (a.to.getD 11 (0 : Int)), .int .i64 (a.to.getD 12 (0 : Int)), .int .i64 (a.to.getD 13 (0 : Int)), .int .i64 (a.to.getD 14 (0 : Int)), .int .i64 (a.to.getD 15 (0 : Int))]), (3, .own i64 a.la), (2, .ro i64 a.m), (0, .ro i64 a.now)], 5⟩
  ok a := a.to.length = 16 ∧ a.la.length = a.m.length ∧ a.m.length ≤ 8 ∧ 0 ≤ a.p ∧ a.p ≤ 16 ∧ ∀ x ∈ a.la, 0 ≤ x ∧ x ≤ 40
  mu a := 16 - a.p.toNat
  fin a := .leaf ⟨2, ⟨[(5, .one (.ptr 4 0))],
    [(4, .blk [.row 2, .row 3, .int .i64 ((asg0 a.now a.m (16 - a.p.toNat) a.p.toNat a.to a.la).1.getD 0 (0 : Int)), .int .i64 ((asg0 a.now a.m (16 - a.p.toNat) a.p.toNat a.to a.la).1.getD 1 (0 : Int)), .int .i64 ((asg0 a.now a.m (16 - a.p.toNat) a.p.toNat a.to a.la).1.getD 2 (0 : Int)), .int .i64 ((asg0 a.now a.m (16 - a.p.toNat) a.p.toNat a.to a.la).1.getD 3 (0 : Int)), .int .i64 ((asg0 a.now a.m (16 - a.p.toNat) a.p.toNat a.to a.la).1.getD 4 (0 : Int)), .int .i64 ((asg0 a.now a.m (16 - a.p.toNat) a.p.toNat a.to a.la).1.getD 5 (0 : Int)), .int .i64 ((asg0 a.now a.m (16 - a.p.toNat) a.p.toNat a.to a.la).1.getD 6 (0 : Int)), .int .i64 ((asg0 a.now a.m (16 - a.p.toNat) a.p.toNat a.to a.la).1.getD 7 (0 : Int)), .int .i64 ((asg0 a.now a.m (16 - a.p.toNat) a.p.toNat a.to a.la).1.getD 8 (0 : Int)), .int .i64 ((asg0 a.now a.m (16 - a.p.toNat) a.p.toNat a.to a.la).1.getD 9 (0 : Int)), .int .i64 ((asg0 a.now a.m (16 - a.p.toNat) a.p.toNat a.to a.la).1.getD 10 (0 : Int)), .int .i64 ((asg0 a.now a.m (16 - a.p.toNat) a.p.toNat a.to a.la).1.getD 11 (0 : Int)), .int .i64 ((asg0 a.now a.m (16 - a.p.toNat) a.p.toNat a.to a.la).1.getD 12 (0 : Int)), .int .i64 ((asg0 a.now a.m (16 - a.p.toNat) a.p.toNat a.to a.la).1.getD 13 (0 : Int)), .int .i64 ((asg0 a.now a.m (16 - a.p.toNat) a.p.toNat a.to a.la).1.getD 14 (0 : Int)), .int .i64 ((asg0 a.now a.m (16 - a.p.toNat) a.p.toNat a.to a.la).1.getD 15 (0 : Int))]), (3, .own i64 (asg0 a.now a.m (16 - a.p.toNat) a.p.toNat a.to a.la).2), (2, .ro i64 a.m)], 5⟩⟩
theorem bclo : PureOwnOK Try.prog 27 [ints] [ints] (fun x => (List.length (α := Int) x.1 : Int) < 17592186044416) (fun x => (x.1, ())) := clone_fok.own
theorem W2_ok : W2.Sound := mkExM_sound ⟨pureSp_ok mem_ok, ownSp_ok quotas_own, pureSp_ok at_ok, pureSp_ok index_ok, pureSp_ok best_ok, ownSp_ok bclo, fnI_ok (E := W0) W0_ok Try.func25 bodyGi .nil, trivial⟩
theorem rA0 (now la m : List Int) (p : Int) (to : List Int) : @Eq _
  (LA0.round W2 [] 100 Try.f14 0 ⟨now, la, m, p, to⟩)
  (.fork (decide (p < (16 : Int))) (
 .req ((0 : Int) ≤ p ∧ p < (16 : Int)) (
  .req ((0 : Int) ≤ p ∧ p < (16 : Int)) (
   .req ((0 : Int) ≤ p) (
    .req ((↑m.length : Int) < (4611686018427387904 : Int)) (
     .req (decide (Pl.indexF m (Pl.atL now p) ≥ (0 : Int)) = true → conjP [(0 : Int) ≤ Pl.indexF m (Pl.atL now p) ∧ Pl.indexF m (Pl.atL now p) < (↑la.length : Int), (0 : Int) ≤ Pl.indexF m (Pl.atL now p) ∧ Pl.indexF m (Pl.atL now p) < (↑la.length : Int)]) (
      .fork (decide (Pl.indexF m (Pl.atL now p) ≥ (0 : Int)) && decide (la.getD (Pl.indexF m (Pl.atL now p)).toNat (0 : Int) > (0 : Int))) (
       .req ((0 : Int) ≤ Pl.indexF m (Pl.atL now p) ∧ Pl.indexF m (Pl.atL now p) < (↑m.length : Int)) (
        .req ((0 : Int) ≤ Pl.indexF m (Pl.atL now p) ∧ Pl.indexF m (Pl.atL now p) < (↑m.length : Int)) (
         .req ((0 : Int) ≤ p ∧ p < (16 : Int)) (
          .req ((0 : Int) ≤ p ∧ p < (16 : Int)) (
           .req ((0 : Int) ≤ Pl.indexF m (Pl.atL now p) ∧ Pl.indexF m (Pl.atL now p) < (↑la.length : Int)) (
            .req ((0 : Int) ≤ Pl.indexF m (Pl.atL now p) ∧ Pl.indexF m (Pl.atL now p) < (↑la.length : Int)) (
             .req ((0 : Int) ≤ Pl.indexF m (Pl.atL now p) ∧ Pl.indexF m (Pl.atL now p) < (↑la.length : Int)) (
              .req ((0 : Int) ≤ Pl.indexF m (Pl.atL now p) ∧ Pl.indexF m (Pl.atL now p) < (↑la.length : Int)) (
               .req (IntKind.i64.wrap (p + (1 : Int)) = IntKind.i64.wrap (p + (1 : Int)) ∧ (bif decide (p = (0 : Int)) then m.getD (Pl.indexF m (Pl.atL now p)).toNat (0 : Int) else bif decide (p = (0 : Int)) then (-1 : Int) else to.getD 0 (0 : Int)) = (tabL 16 fun j => bif decide (p = j) then m.getD (Pl.indexF m (Pl.atL now p)).toNat (0 : Int) else bif decide (p = j) then (-1 : Int) else to.getD j (0 : Int)).getD 0 (0 : Int) ∧ (bif decide (p = (1 : Int)) then m.getD (Pl.indexF m (Pl.atL now p)).toNat (0 : Int) else bif decide (p = (1 : Int)) then (-1 : Int) else to.getD 1 (0 : Int)) = (tabL 16 fun j => bif decide (p = j) then m.getD (Pl.indexF m (Pl.atL now p)).toNat (0 : Int) else bif decide (p = j) then (-1 : Int) else to.getD j (0 : Int)).getD 1 (0 : Int) ∧ (bif decide (p = (2 : Int)) then m.getD (Pl.indexF m (Pl.atL now p)).toNat (0 : Int) else bif decide (p = (2 : Int)) then (-1 : Int) else to.getD 2 (0 : Int)) = (tabL 16 fun j => bif decide (p = j) then m.getD (Pl.indexF m (Pl.atL now p)).toNat (0 : Int) else bif decide (p = j) then (-1 : Int) else to.getD j (0 : Int)).getD 2 (0 : Int) ∧ (bif decide (p = (3 : Int)) then m.getD (Pl.indexF m (Pl.atL now p)).toNat (0 : Int) else bif decide (p = (3 : Int)) then (-1 : Int) else to.getD 3 (0 : Int)) = (tabL 16 fun j => bif decide (p = j) then m.getD (Pl.indexF m (Pl.atL now p)).toNat (0 : Int) else bif decide (p = j) then (-1 : Int) else to.getD j (0 : Int)).getD 3 (0 : Int) ∧ (bif decide (p = (4 : Int)) then m.getD (Pl.indexF m (Pl.atL now p)).toNat (0 : Int) else bif decide (p = (4 : Int)) then (-1 : Int) else to.getD 4 (0 : Int)) = (tabL 16 fun j => bif decide (p = j) then m.getD (Pl.indexF m (Pl.atL now p)).toNat (0 : Int) else bif decide (p = j) then (-1 : Int) else to.getD j (0 : Int)).getD 4 (0 : Int) ∧ (bif decide (p = (5 : Int)) then m.getD (Pl.indexF m (Pl.atL now p)).toNat (0 : Int) else bif decide (p = (5 : Int)) then (-1 : Int) else to.getD 5 (0 : Int)) = (tabL 16 fun j => bif decide (p = j) then m.getD (Pl.indexF m (Pl.atL now p)).toNat (0 : Int) else bif decide (p = j) then (-1 : Int) else to.getD j (0 : Int)).getD 5 (0 : Int) ∧ (bif decide (p = (6 : Int)) then m.getD (Pl.indexF m (Pl.atL now p)).toNat (0 : Int) else bif decide (p = (6 : Int)) then (-1 : Int) else to.getD 6 (0 : Int)) = (tabL 16 fun j => bif decide (p = j) then m.getD (Pl.indexF m (Pl.atL now p)).toNat (0 : Int) else bif decide (p = j) then (-1 : Int) else to.getD j (0 : Int)).getD 6 (0 : Int) ∧ (bif decide (p = (7 : Int)) then m.getD (Pl.indexF m (Pl.atL now p)).toNat (0 : Int) else bif decide (p = (7 : Int)) then (-1 : Int) else to.getD 7 (0 : Int)) = (tabL 16 fun j => bif decide (p = j) then m.getD (Pl.indexF m (Pl.atL now p)).toNat (0 : Int) else bif decide (p = j) then (-1 : Int) else to.getD j (0 : Int)).getD 7 (0 : Int) ∧ (bif decide (p = (8 : Int)) then m.getD (Pl.indexF m (Pl.atL now p)).toNat (0 : Int) else bif decide (p = (8 : Int)) then (-1 : Int) else to.getD 8 (0 : Int)) = (tabL 16 fun j => bif decide (p = j) then m.getD (Pl.indexF m (Pl.atL now p)).toNat (0 : Int) else bif decide (p = j) then (-1 : Int) else to.getD j (0 : Int)).getD 8 (0 : Int) ∧ (bif decide (p = (9 : Int)) then m.getD (Pl.indexF m (Pl.atL now p)).toNat (0 : Int) else bif decide (p = (9 : Int)) then (-1 : Int) else to.getD 9 (0 : Int)) = (tabL 16 fun j => bif decide (p = j) then m.getD (Pl.indexF m (Pl.atL now p)).toNat (0 : Int) else bif decide (p = j) then (-1 : Int) else to.getD j (0 : Int)).getD 9 (0 : Int) ∧ (bif decide (p = (10 : Int)) then m.getD (Pl.indexF m (Pl.atL now p)).toNat (0 : Int) else bif decide (p = (10 : Int)) then (-1 : Int) else to.getD 10 (0 : Int)) = (tabL 16 fun j => bif decide (p = j) then m.getD (Pl.indexF m (Pl.atL now p)).toNat (0 : Int) else bif decide (p = j) then (-1 : Int) else to.getD j (0 : Int)).getD 10 (0 : Int) ∧ (bif decide (p = (11 : Int)) then m.getD (Pl.indexF m (Pl.atL now p)).toNat (0 : Int) else bif decide (p = (11 : Int)) then (-1 : Int) else to.getD 11 (0 : Int)) = (tabL 16 fun j => bif decide (p = j) then m.getD (Pl.indexF m (Pl.atL now p)).toNat (0 : Int) else bif decide (p = j) then (-1 : Int) else to.getD j (0 : Int)).getD 11 (0 : Int) ∧ (bif decide (p = (12 : Int)) then m.getD (Pl.indexF m (Pl.atL now p)).toNat (0 : Int) else bif decide (p = (12 : Int)) then (-1 : Int) else to.getD 12 (0 : Int)) = (tabL 16 fun j => bif decide (p = j) then m.getD (Pl.indexF m (Pl.atL now p)).toNat (0 : Int) else bif decide (p = j) then (-1 : Int) else to.getD j (0 : Int)).getD 12 (0 : Int) ∧ (bif decide (p = (13 : Int)) then m.getD (Pl.indexF m (Pl.atL now p)).toNat (0 : Int) else bif decide (p = (13 : Int)) then (-1 : Int) else to.getD 13 (0 : Int)) = (tabL 16 fun j => bif decide (p = j) then m.getD (Pl.indexF m (Pl.atL now p)).toNat (0 : Int) else bif decide (p = j) then (-1 : Int) else to.getD j (0 : Int)).getD 13 (0 : Int) ∧ (bif decide (p = (14 : Int)) then m.getD (Pl.indexF m (Pl.atL now p)).toNat (0 : Int) else bif decide (p = (14 : Int)) then (-1 : Int) else to.getD 14 (0 : Int)) = (tabL 16 fun j => bif decide (p = j) then m.getD (Pl.indexF m (Pl.atL now p)).toNat (0 : Int) else bif decide (p = j) then (-1 : Int) else to.getD j (0 : Int)).getD 14 (0 : Int) ∧ (bif decide (p = (15 : Int)) then m.getD (Pl.indexF m (Pl.atL now p)).toNat (0 : Int) else bif decide (p = (15 : Int)) then (-1 : Int) else to.getD 15 (0 : Int)) = (tabL 16 fun j => bif decide (p = j) then m.getD (Pl.indexF m (Pl.atL now p)).toNat (0 : Int) else bif decide (p = j) then (-1 : Int) else to.getD j (0 : Int)).getD 15 (0 : Int) ∧ la.set (Pl.indexF m (Pl.atL now p)).toNat (IntKind.i64.wrap (la.getD (Pl.indexF m (Pl.atL now p)).toNat (0 : Int) - (1 : Int))) = la.set (Pl.indexF m (Pl.atL now p)).toNat (IntKind.i64.wrap (la.getD (Pl.indexF m (Pl.atL now p)).toNat (0 : Int) - (1 : Int))) ∧ m = m ∧ now = now) (
                .leaf (Option.some { now := now, la := la.set (Pl.indexF m (Pl.atL now p)).toNat (IntKind.i64.wrap (la.getD (Pl.indexF m (Pl.atL now p)).toNat (0 : Int) - (1 : Int))), m := m, p := IntKind.i64.wrap (p + (1 : Int)), to := tabL 16 fun j => bif decide (p = j) then m.getD (Pl.indexF m (Pl.atL now p)).toNat (0 : Int) else bif decide (p = j) then (-1 : Int) else to.getD j (0 : Int) }))))))))))) (
       .req (IntKind.i64.wrap (p + (1 : Int)) = IntKind.i64.wrap (p + (1 : Int)) ∧ (bif decide (p = (0 : Int)) then (-1 : Int) else to.getD 0 (0 : Int)) = (tabL 16 fun j => bif decide (p = j) then (-1 : Int) else to.getD j (0 : Int)).getD 0 (0 : Int) ∧ (bif decide (p = (1 : Int)) then (-1 : Int) else to.getD 1 (0 : Int)) = (tabL 16 fun j => bif decide (p = j) then (-1 : Int) else to.getD j (0 : Int)).getD 1 (0 : Int) ∧ (bif decide (p = (2 : Int)) then (-1 : Int) else to.getD 2 (0 : Int)) = (tabL 16 fun j => bif decide (p = j) then (-1 : Int) else to.getD j (0 : Int)).getD 2 (0 : Int) ∧ (bif decide (p = (3 : Int)) then (-1 : Int) else to.getD 3 (0 : Int)) = (tabL 16 fun j => bif decide (p = j) then (-1 : Int) else to.getD j (0 : Int)).getD 3 (0 : Int) ∧ (bif decide (p = (4 : Int)) then (-1 : Int) else to.getD 4 (0 : Int)) = (tabL 16 fun j => bif decide (p = j) then (-1 : Int) else to.getD j (0 : Int)).getD 4 (0 : Int) ∧ (bif decide (p = (5 : Int)) then (-1 : Int) else to.getD 5 (0 : Int)) = (tabL 16 fun j => bif decide (p = j) then (-1 : Int) else to.getD j (0 : Int)).getD 5 (0 : Int) ∧ (bif decide (p = (6 : Int)) then (-1 : Int) else to.getD 6 (0 : Int)) = (tabL 16 fun j => bif decide (p = j) then (-1 : Int) else to.getD j (0 : Int)).getD 6 (0 : Int) ∧ (bif decide (p = (7 : Int)) then (-1 : Int) else to.getD 7 (0 : Int)) = (tabL 16 fun j => bif decide (p = j) then (-1 : Int) else to.getD j (0 : Int)).getD 7 (0 : Int) ∧ (bif decide (p = (8 : Int)) then (-1 : Int) else to.getD 8 (0 : Int)) = (tabL 16 fun j => bif decide (p = j) then (-1 : Int) else to.getD j (0 : Int)).getD 8 (0 : Int) ∧ (bif decide (p = (9 : Int)) then (-1 : Int) else to.getD 9 (0 : Int)) = (tabL 16 fun j => bif decide (p = j) then (-1 : Int) else to.getD j (0 : Int)).getD 9 (0 : Int) ∧ (bif decide (p = (10 : Int)) then (-1 : Int) else to.getD 10 (0 : Int)) = (tabL 16 fun j => bif decide (p = j) then (-1 : Int) else to.getD j (0 : Int)).getD 10 (0 : Int) ∧ (bif decide (p = (11 : Int)) then (-1 : Int) else to.getD 11 (0 : Int)) = (tabL 16 fun j => bif decide (p = j) then (-1 : Int) else to.getD j (0 : Int)).getD 11 (0 : Int) ∧ (bif decide (p = (12 : Int)) then (-1 : Int) else to.getD 12 (0 : Int)) = (tabL 16 fun j => bif decide (p = j) then (-1 : Int) else to.getD j (0 : Int)).getD 12 (0 : Int) ∧ (bif decide (p = (13 : Int)) then (-1 : Int) else to.getD 13 (0 : Int)) = (tabL 16 fun j => bif decide (p = j) then (-1 : Int) else to.getD j (0 : Int)).getD 13 (0 : Int) ∧ (bif decide (p = (14 : Int)) then (-1 : Int) else to.getD 14 (0 : Int)) = (tabL 16 fun j => bif decide (p = j) then (-1 : Int) else to.getD j (0 : Int)).getD 14 (0 : Int) ∧ (bif decide (p = (15 : Int)) then (-1 : Int) else to.getD 15 (0 : Int)) = (tabL 16 fun j => bif decide (p = j) then (-1 : Int) else to.getD j (0 : Int)).getD 15 (0 : Int) ∧ la = la ∧ m = m ∧ now = now) (
        .leaf (Option.some { now := now, la := la, m := m, p := IntKind.i64.wrap (p + (1 : Int)), to := tabL 16 fun j => bif decide (p = j) then (-1 : Int) else to.getD j (0 : Int) }))))))))) (
 .req (to.getD 0 (0 : Int) = (Pl.asg0 now m (16 - p.toNat) p.toNat to la).1.getD 0 (0 : Int) ∧ to.getD 1 (0 : Int) = (Pl.asg0 now m (16 - p.toNat) p.toNat to la).1.getD 1 (0 : Int) ∧ to.getD 2 (0 : Int) = (Pl.asg0 now m (16 - p.toNat) p.toNat to la).1.getD 2 (0 : Int) ∧ to.getD 3 (0 : Int) = (Pl.asg0 now m (16 - p.toNat) p.toNat to la).1.getD 3 (0 : Int) ∧ to.getD 4 (0 : Int) = (Pl.asg0 now m (16 - p.toNat) p.toNat to la).1.getD 4 (0 : Int) ∧ to.getD 5 (0 : Int) = (Pl.asg0 now m (16 - p.toNat) p.toNat to la).1.getD 5 (0 : Int) ∧ to.getD 6 (0 : Int) = (Pl.asg0 now m (16 - p.toNat) p.toNat to la).1.getD 6 (0 : Int) ∧ to.getD 7 (0 : Int) = (Pl.asg0 now m (16 - p.toNat) p.toNat to la).1.getD 7 (0 : Int) ∧ to.getD 8 (0 : Int) = (Pl.asg0 now m (16 - p.toNat) p.toNat to la).1.getD 8 (0 : Int) ∧ to.getD 9 (0 : Int) = (Pl.asg0 now m (16 - p.toNat) p.toNat to la).1.getD 9 (0 : Int) ∧ to.getD 10 (0 : Int) = (Pl.asg0 now m (16 - p.toNat) p.toNat to la).1.getD 10 (0 : Int) ∧ to.getD 11 (0 : Int) = (Pl.asg0 now m (16 - p.toNat) p.toNat to la).1.getD 11 (0 : Int) ∧ to.getD 12 (0 : Int) = (Pl.asg0 now m (16 - p.toNat) p.toNat to la).1.getD 12 (0 : Int) ∧ to.getD 13 (0 : Int) = (Pl.asg0 now m (16 - p.toNat) p.toNat to la).1.getD 13 (0 : Int) ∧ to.getD 14 (0 : Int) = (Pl.asg0 now m (16 - p.toNat) p.toNat to la).1.getD 14 (0 : Int) ∧ to.getD 15 (0 : Int) = (Pl.asg0 now m (16 - p.toNat) p.toNat to la).1.getD 15 (0 : Int) ∧ la = (Pl.asg0 now m (16 - p.toNat) p.toNat to la).2 ∧ m = m) (
  .leaf (Option.none))) : Tree (Option Pl.AA0)) := by kernel_rfl
def pick (m la to : List Int) (p : Int) : Int := if decide (bstL (m, la, to) p true < 0) then bstL (m, la, to) p false else bstL (m, la, to) p true
def asg1 (m to0 : List Int) : Nat → Nat → List Int → List Int → List Int × List Int
  | 0, _, to, la => (to, la)
  | c + 1, p, to, la => if to0.getD p 0 == -1 then asg1 m to0 c (p + 1) (to.set p (m.getD (pick m la to (p : Int)).toNat 0)) (la.set (pick m la to (p : Int)).toNat (la.getD (pick m la to (p : Int)).toNat 0 - 1)) else asg1 m to0 c (p + 1) to la
structure AA1 where
  la : List Int
  m : List Int
  to0 : List Int
  p : Int
  to : List Int
def LA1 : LoopC AA1 where
  n0 := 5
  det st := match rowC st 4 1 i64, rowC st 4 0 i64, datA st 60 (.rep 16 i64), intS st 61, datG st 4 2 (.rep 16 i64) with | some l0, some l1, some t0, some i2, some to => some ⟨l0, l1, t0, i2, to⟩ | _, _, _, _, _ => none
  inv a := ⟨[(61, iv a.p), (60, Tv.agg [.int .i64 (a.to0.getD 0 (0 : Int)), .int .i64 (a.to0.getD 1 (0 : Int)), .int .i64 (a.to0.getD 2 (0 : Int)), .int .i64 (a.to0.getD 3 (0 : Int)), .int .i64 (a.to0.getD 4 (0 : Int)), .int .i64 (a.to0.getD 5 (0 : Int)), .int .i64 (a.to0.getD 6 (0 : Int)), .int .i64 (a.to0.getD 7 (0 : Int)), .int .i64 (a.to0.getD 8 (0 : Int)), .int .i64 (a.to0.getD 9 (0 : Int)), .int .i64 (a.to0.getD 10 (0 : Int)), .int .i64 (a.to0.getD 11 (0 : Int)), .int .i64 (a.to0.getD 12 (0 : Int)), .int .i64 (a.to0.getD 13 (0 : Int)), .int .i64 (a.to0.getD 14 (0 : Int)), .int .i64 (a.to0.getD 15 (0 : Int))]), (5, .one (.ptr 4 0))],
    [(4, .blk [.row 2, .row 3, .int .i64 (a.to.getD 0 (0 : Int)), .int .i64 (a.to.getD 1 (0 : Int)), .int .i64 (a.to.getD 2 (0 : Int)), .int .i64 (a.to.getD 3 (0 : Int)), .int .i64 (a.to.getD 4 (0 : Int)), .int .i64 (a.to.getD 5 (0 : Int)), .int .i64 (a.to.getD 6 (0 : Int)), .int .i64 (a.to.getD 7 (0 : Int)), .int .i64 (a.to.getD 8 (0 : Int)), .int .i64 (a.to.getD 9 (0 : Int)), .int .i64 (a.to.getD 10 (0 : Int)), .int .i64 (a.to.getD 11 (0 : Int)), .int .i64 (a.to.getD 12 (0 : Int)), .int .i64 (a.to.getD 13 (0 : Int)), .int .i64 (a.to.getD 14 (0 : Int)), .int .i64 (a.to.getD 15 (0 : Int))]), (3, .own i64 a.la), (2, .ro i64 a.m)], 5⟩
  ok a := a.to.length = 16 ∧ a.to0.length = 16 ∧ a.la.length = a.m.length ∧ a.m.length ≤ 8 ∧ 0 ≤ a.p ∧ a.p ≤ 16 ∧ (∀ x ∈ a.la, 0 ≤ x ∧ x ≤ 40) ∧ ((a.to0.drop a.p.toNat).count (-1) : Int) ≤ a.la.sum
  mu a := 16 - a.p.toNat
  fin a := .leaf ⟨4, ⟨[(5, .one (.ptr 4 0))],
    [(4, .blk [.row 2, .row 3, .int .i64 ((asg1 a.m a.to0 (16 - a.p.toNat) a.p.toNat a.to a.la).1.getD 0 (0 : Int)), .int .i64 ((asg1 a.m a.to0 (16 - a.p.toNat) a.p.toNat a.to a.la).1.getD 1 (0 : Int)), .int .i64 ((asg1 a.m a.to0 (16 - a.p.toNat) a.p.toNat a.to a.la).1.getD 2 (0 : Int)), .int .i64 ((asg1 a.m a.to0 (16 - a.p.toNat) a.p.toNat a.to a.la).1.getD 3 (0 : Int)), .int .i64 ((asg1 a.m a.to0 (16 - a.p.toNat) a.p.toNat a.to a.la).1.getD 4 (0 : Int)), .int .i64 ((asg1 a.m a.to0 (16 - a.p.toNat) a.p.toNat a.to a.la).1.getD 5 (0 : Int)), .int .i64 ((asg1 a.m a.to0 (16 - a.p.toNat) a.p.toNat a.to a.la).1.getD 6 (0 : Int)), .int .i64 ((asg1 a.m a.to0 (16 - a.p.toNat) a.p.toNat a.to a.la).1.getD 7 (0 : Int)), .int .i64 ((asg1 a.m a.to0 (16 - a.p.toNat) a.p.toNat a.to a.la).1.getD 8 (0 : Int)), .int .i64 ((asg1 a.m a.to0 (16 - a.p.toNat) a.p.toNat a.to a.la).1.getD 9 (0 : Int)), .int .i64 ((asg1 a.m a.to0 (16 - a.p.toNat) a.p.toNat a.to a.la).1.getD 10 (0 : Int)), .int .i64 ((asg1 a.m a.to0 (16 - a.p.toNat) a.p.toNat a.to a.la).1.getD 11 (0 : Int)), .int .i64 ((asg1 a.m a.to0 (16 - a.p.toNat) a.p.toNat a.to a.la).1.getD 12 (0 : Int)), .int .i64 ((asg1 a.m a.to0 (16 - a.p.toNat) a.p.toNat a.to a.la).1.getD 13 (0 : Int)), .int .i64 ((asg1 a.m a.to0 (16 - a.p.toNat) a.p.toNat a.to a.la).1.getD 14 (0 : Int)), .int .i64 ((asg1 a.m a.to0 (16 - a.p.toNat) a.p.toNat a.to a.la).1.getD 15 (0 : Int))]), (3, .own i64 (asg1 a.m a.to0 (16 - a.p.toNat) a.p.toNat a.to a.la).2), (2, .ro i64 a.m)], 5⟩⟩
theorem rA1 (la m to0 : List Int) (p : Int) (to : List Int) : @Eq _
  (LA1.round W2 [] 100 Try.f14 1 ⟨la, m, to0, p, to⟩)
  (.fork (decide (p < (16 : Int))) (
 .req ((0 : Int) ≤ p ∧ p < (16 : Int)) (
  .fork ((tab 16 to0 (0 : Int)).getD p.toNat (0 : Int) != (-1 : Int)) (
   .req (IntKind.i64.wrap (p + (1 : Int)) = IntKind.i64.wrap (p + (1 : Int)) ∧ to0.getD 0 (0 : Int) = (tab 16 to0 (0 : Int)).getD 0 (0 : Int) ∧ to0.getD 1 (0 : Int) = (tab 16 to0 (0 : Int)).getD 1 (0 : Int) ∧ to0.getD 2 (0 : Int) = (tab 16 to0 (0 : Int)).getD 2 (0 : Int) ∧ to0.getD 3 (0 : Int) = (tab 16 to0 (0 : Int)).getD 3 (0 : Int) ∧ to0.getD 4 (0 : Int) = (tab 16 to0 (0 : Int)).getD 4 (0 : Int) ∧ to0.getD 5 (0 : Int) = (tab 16 to0 (0 : Int)).getD 5 (0 : Int) ∧ to0.getD 6 (0 : Int) = (tab 16 to0 (0 : Int)).getD 6 (0 : Int) ∧ to0.getD 7 (0 : Int) = (tab 16 to0 (0 : Int)).getD 7 (0 : Int) ∧ to0.getD 8 (0 : Int) = (tab 16 to0 (0 : Int)).getD 8 (0 : Int) ∧ to0.getD 9 (0 : Int) = (tab 16 to0 (0 : Int)).getD 9 (0 : Int) ∧ to0.getD 10 (0 : Int) = (tab 16 to0 (0 : Int)).getD 10 (0 : Int) ∧ to0.getD 11 (0 : Int) = (tab 16 to0 (0 : Int)).getD 11 (0 : Int) ∧ to0.getD 12 (0 : Int) = (tab 16 to0 (0 : Int)).getD 12 (0 : Int) ∧ to0.getD 13 (0 : Int) = (tab 16 to0 (0 : Int)).getD 13 (0 : Int) ∧ to0.getD 14 (0 : Int) = (tab 16 to0 (0 : Int)).getD 14 (0 : Int) ∧ to0.getD 15 (0 : Int) = (tab 16 to0 (0 : Int)).getD 15 (0 : Int) ∧ to.getD 0 (0 : Int) = (tab 16 to (0 : Int)).getD 0 (0 : Int) ∧ to.getD 1 (0 : Int) = (tab 16 to (0 : Int)).getD 1 (0 : Int) ∧ to.getD 2 (0 : Int) = (tab 16 to (0 : Int)).getD 2 (0 : Int) ∧ to.getD 3 (0 : Int) = (tab 16 to (0 : Int)).getD 3 (0 : Int) ∧ to.getD 4 (0 : Int) = (tab 16 to (0 : Int)).getD 4 (0 : Int) ∧ to.getD 5 (0 : Int) = (tab 16 to (0 : Int)).getD 5 (0 : Int) ∧ to.getD 6 (0 : Int) = (tab 16 to (0 : Int)).getD 6 (0 : Int) ∧ to.getD 7 (0 : Int) = (tab 16 to (0 : Int)).getD 7 (0 : Int) ∧ to.getD 8 (0 : Int) = (tab 16 to (0 : Int)).getD 8 (0 : Int) ∧ to.getD 9 (0 : Int) = (tab 16 to (0 : Int)).getD 9 (0 : Int) ∧ to.getD 10 (0 : Int) = (tab 16 to (0 : Int)).getD 10 (0 : Int) ∧ to.getD 11 (0 : Int) = (tab 16 to (0 : Int)).getD 11 (0 : Int) ∧ to.getD 12 (0 : Int) = (tab 16 to (0 : Int)).getD 12 (0 : Int) ∧ to.getD 13 (0 : Int) = (tab 16 to (0 : Int)).getD 13 (0 : Int) ∧ to.getD 14 (0 : Int) = (tab 16 to (0 : Int)).getD 14 (0 : Int) ∧ to.getD 15 (0 : Int) = (tab 16 to (0 : Int)).getD 15 (0 : Int) ∧ la = la ∧ m = m) (
    .leaf (Option.some { la := la, m := m, to0 := tab 16 to0 (0 : Int), p := IntKind.i64.wrap (p + (1 : Int)), to := tab 16 to (0 : Int) }))) (
   .req (16 = 16 ∧ la.length = m.length ∧ m.length ≤ 8 ∧ (0 : Int) ≤ p ∧ p < (16 : Int)) (
    .fork (decide (Pl.bstL (m, la, tab 16 to (0 : Int)) p true < (0 : Int))) (
     .req (16 = 16 ∧ la.length = m.length ∧ m.length ≤ 8 ∧ (0 : Int) ≤ p ∧ p < (16 : Int)) (
      .req ((0 : Int) ≤ Pl.bstL (m, la, tab 16 to (0 : Int)) p false ∧ Pl.bstL (m, la, tab 16 to (0 : Int)) p false < (↑m.length : Int)) (
       .req ((0 : Int) ≤ Pl.bstL (m, la, tab 16 to (0 : Int)) p false ∧ Pl.bstL (m, la, tab 16 to (0 : Int)) p false < (↑m.length : Int)) (
        .req ((0 : Int) ≤ p ∧ p < (16 : Int)) (
         .req ((0 : Int) ≤ p ∧ p < (16 : Int)) (
          .req ((0 : Int) ≤ Pl.bstL (m, la, tab 16 to (0 : Int)) p false ∧ Pl.bstL (m, la, tab 16 to (0 : Int)) p false < (↑la.length : Int)) (
           .req ((0 : Int) ≤ Pl.bstL (m, la, tab 16 to (0 : Int)) p false ∧ Pl.bstL (m, la, tab 16 to (0 : Int)) p false < (↑la.length : Int)) (
            .req ((0 : Int) ≤ Pl.bstL (m, la, tab 16 to (0 : Int)) p false ∧ Pl.bstL (m, la, tab 16 to (0 : Int)) p false < (↑la.length : Int)) (
             .req ((0 : Int) ≤ Pl.bstL (m, la, tab 16 to (0 : Int)) p false ∧ Pl.bstL (m, la, tab 16 to (0 : Int)) p false < (↑la.length : Int)) (
              .req (IntKind.i64.wrap (p + (1 : Int)) = IntKind.i64.wrap (p + (1 : Int)) ∧ to0.getD 0 (0 : Int) = (tab 16 to0 (0 : Int)).getD 0 (0 : Int) ∧ to0.getD 1 (0 : Int) = (tab 16 to0 (0 : Int)).getD 1 (0 : Int) ∧ to0.getD 2 (0 : Int) = (tab 16 to0 (0 : Int)).getD 2 (0 : Int) ∧ to0.getD 3 (0 : Int) = (tab 16 to0 (0 : Int)).getD 3 (0 : Int) ∧ to0.getD 4 (0 : Int) = (tab 16 to0 (0 : Int)).getD 4 (0 : Int) ∧ to0.getD 5 (0 : Int) = (tab 16 to0 (0 : Int)).getD 5 (0 : Int) ∧ to0.getD 6 (0 : Int) = (tab 16 to0 (0 : Int)).getD 6 (0 : Int) ∧ to0.getD 7 (0 : Int) = (tab 16 to0 (0 : Int)).getD 7 (0 : Int) ∧ to0.getD 8 (0 : Int) = (tab 16 to0 (0 : Int)).getD 8 (0 : Int) ∧ to0.getD 9 (0 : Int) = (tab 16 to0 (0 : Int)).getD 9 (0 : Int) ∧ to0.getD 10 (0 : Int) = (tab 16 to0 (0 : Int)).getD 10 (0 : Int) ∧ to0.getD 11 (0 : Int) = (tab 16 to0 (0 : Int)).getD 11 (0 : Int) ∧ to0.getD 12 (0 : Int) = (tab 16 to0 (0 : Int)).getD 12 (0 : Int) ∧ to0.getD 13 (0 : Int) = (tab 16 to0 (0 : Int)).getD 13 (0 : Int) ∧ to0.getD 14 (0 : Int) = (tab 16 to0 (0 : Int)).getD 14 (0 : Int) ∧ to0.getD 15 (0 : Int) = (tab 16 to0 (0 : Int)).getD 15 (0 : Int) ∧ (bif decide (p = (0 : Int)) then m.getD (Pl.bstL (m, la, tab 16 to (0 : Int)) p false).toNat (0 : Int) else to.getD 0 (0 : Int)) = (tabL 16 fun j => bif decide (p = j) then m.getD (Pl.bstL (m, la, tab 16 to (0 : Int)) p false).toNat (0 : Int) else to.getD j (0 : Int)).getD 0 (0 : Int) ∧ (bif decide (p = (1 : Int)) then m.getD (Pl.bstL (m, la, tab 16 to (0 : Int)) p false).toNat (0 : Int) else to.getD 1 (0 : Int)) = (tabL 16 fun j => bif decide (p = j) then m.getD (Pl.bstL (m, la, tab 16 to (0 : Int)) p false).toNat (0 : Int) else to.getD j (0 : Int)).getD 1 (0 : Int) ∧ (bif decide (p = (2 : Int)) then m.getD (Pl.bstL (m, la, tab 16 to (0 : Int)) p false).toNat (0 : Int) else to.getD 2 (0 : Int)) = (tabL 16 fun j => bif decide (p = j) then m.getD (Pl.bstL (m, la, tab 16 to (0 : Int)) p false).toNat (0 : Int) else to.getD j (0 : Int)).getD 2 (0 : Int) ∧ (bif decide (p = (3 : Int)) then m.getD (Pl.bstL (m, la, tab 16 to (0 : Int)) p false).toNat (0 : Int) else to.getD 3 (0 : Int)) = (tabL 16 fun j => bif decide (p = j) then m.getD (Pl.bstL (m, la, tab 16 to (0 : Int)) p false).toNat (0 : Int) else to.getD j (0 : Int)).getD 3 (0 : Int) ∧ (bif decide (p = (4 : Int)) then m.getD (Pl.bstL (m, la, tab 16 to (0 : Int)) p false).toNat (0 : Int) else to.getD 4 (0 : Int)) = (tabL 16 fun j => bif decide (p = j) then m.getD (Pl.bstL (m, la, tab 16 to (0 : Int)) p false).toNat (0 : Int) else to.getD j (0 : Int)).getD 4 (0 : Int) ∧ (bif decide (p = (5 : Int)) then m.getD (Pl.bstL (m, la, tab 16 to (0 : Int)) p false).toNat (0 : Int) else to.getD 5 (0 : Int)) = (tabL 16 fun j => bif decide (p = j) then m.getD (Pl.bstL (m, la, tab 16 to (0 : Int)) p false).toNat (0 : Int) else to.getD j (0 : Int)).getD 5 (0 : Int) ∧ (bif decide (p = (6 : Int)) then m.getD (Pl.bstL (m, la, tab 16 to (0 : Int)) p false).toNat (0 : Int) else to.getD 6 (0 : Int)) = (tabL 16 fun j => bif decide (p = j) then m.getD (Pl.bstL (m, la, tab 16 to (0 : Int)) p false).toNat (0 : Int) else to.getD j (0 : Int)).getD 6 (0 : Int) ∧ (bif decide (p = (7 : Int)) then m.getD (Pl.bstL (m, la, tab 16 to (0 : Int)) p false).toNat (0 : Int) else to.getD 7 (0 : Int)) = (tabL 16 fun j => bif decide (p = j) then m.getD (Pl.bstL (m, la, tab 16 to (0 : Int)) p false).toNat (0 : Int) else to.getD j (0 : Int)).getD 7 (0 : Int) ∧ (bif decide (p = (8 : Int)) then m.getD (Pl.bstL (m, la, tab 16 to (0 : Int)) p false).toNat (0 : Int) else to.getD 8 (0 : Int)) = (tabL 16 fun j => bif decide (p = j) then m.getD (Pl.bstL (m, la, tab 16 to (0 : Int)) p false).toNat (0 : Int) else to.getD j (0 : Int)).getD 8 (0 : Int) ∧ (bif decide (p = (9 : Int)) then m.getD (Pl.bstL (m, la, tab 16 to (0 : Int)) p false).toNat (0 : Int) else to.getD 9 (0 : Int)) = (tabL 16 fun j => bif decide (p = j) then m.getD (Pl.bstL (m, la, tab 16 to (0 : Int)) p false).toNat (0 : Int) else to.getD j (0 : Int)).getD 9 (0 : Int) ∧ (bif decide (p = (10 : Int)) then m.getD (Pl.bstL (m, la, tab 16 to (0 : Int)) p false).toNat (0 : Int) else to.getD 10 (0 : Int)) = (tabL 16 fun j => bif decide (p = j) then m.getD (Pl.bstL (m, la, tab 16 to (0 : Int)) p false).toNat (0 : Int) else to.getD j (0 : Int)).getD 10 (0 : Int) ∧ (bif decide (p = (11 : Int)) then m.getD (Pl.bstL (m, la, tab 16 to (0 : Int)) p false).toNat (0 : Int) else to.getD 11 (0 : Int)) = (tabL 16 fun j => bif decide (p = j) then m.getD (Pl.bstL (m, la, tab 16 to (0 : Int)) p false).toNat (0 : Int) else to.getD j (0 : Int)).getD 11 (0 : Int) ∧ (bif decide (p = (12 : Int)) then m.getD (Pl.bstL (m, la, tab 16 to (0 : Int)) p false).toNat (0 : Int) else to.getD 12 (0 : Int)) = (tabL 16 fun j => bif decide (p = j) then m.getD (Pl.bstL (m, la, tab 16 to (0 : Int)) p false).toNat (0 : Int) else to.getD j (0 : Int)).getD 12 (0 : Int) ∧ (bif decide (p = (13 : Int)) then m.getD (Pl.bstL (m, la, tab 16 to (0 : Int)) p false).toNat (0 : Int) else to.getD 13 (0 : Int)) = (tabL 16 fun j => bif decide (p = j) then m.getD (Pl.bstL (m, la, tab 16 to (0 : Int)) p false).toNat (0 : Int) else to.getD j (0 : Int)).getD 13 (0 : Int) ∧ (bif decide (p = (14 : Int)) then m.getD (Pl.bstL (m, la, tab 16 to (0 : Int)) p false).toNat (0 : Int) else to.getD 14 (0 : Int)) = (tabL 16 fun j => bif decide (p = j) then m.getD (Pl.bstL (m, la, tab 16 to (0 : Int)) p false).toNat (0 : Int) else to.getD j (0 : Int)).getD 14 (0 : Int) ∧ (bif decide (p = (15 : Int)) then m.getD (Pl.bstL (m, la, tab 16 to (0 : Int)) p false).toNat (0 : Int) else to.getD 15 (0 : Int)) = (tabL 16 fun j => bif decide (p = j) then m.getD (Pl.bstL (m, la, tab 16 to (0 : Int)) p false).toNat (0 : Int) else to.getD j (0 : Int)).getD 15 (0 : Int) ∧ la.set (Pl.bstL (m, la, tab 16 to (0 : Int)) p false).toNat (IntKind.i64.wrap (la.getD (Pl.bstL (m, la, tab 16 to (0 : Int)) p false).toNat (0 : Int) - (1 : Int))) = la.set (Pl.bstL (m, la, tab 16 to (0 : Int)) p false).toNat (IntKind.i64.wrap (la.getD (Pl.bstL (m, la, tab 16 to (0 : Int)) p false).toNat (0 : Int) - (1 : Int))) ∧ m = m) (
               .leaf (Option.some { la := la.set (Pl.bstL (m, la, tab 16 to (0 : Int)) p false).toNat (IntKind.i64.wrap (la.getD (Pl.bstL (m, la, tab 16 to (0 : Int)) p false).toNat (0 : Int) - (1 : Int))), m := m, to0 := tab 16 to0 (0 : Int), p := IntKind.i64.wrap (p + (1 : Int)), to := tabL 16 fun j => bif decide (p = j) then m.getD (Pl.bstL (m, la, tab 16 to (0 : Int)) p false).toNat (0 : Int) else to.getD j (0 : Int) })))))))))))) (
     .req ((0 : Int) ≤ Pl.bstL (m, la, tab 16 to (0 : Int)) p true ∧ Pl.bstL (m, la, tab 16 to (0 : Int)) p true < (↑m.length : Int)) (
      .req ((0 : Int) ≤ Pl.bstL (m, la, tab 16 to (0 : Int)) p true ∧ Pl.bstL (m, la, tab 16 to (0 : Int)) p true < (↑m.length : Int)) (
       .req ((0 : Int) ≤ p ∧ p < (16 : Int)) (
        .req ((0 : Int) ≤ p ∧ p < (16 : Int)) (
         .req ((0 : Int) ≤ Pl.bstL (m, la, tab 16 to (0 : Int)) p true ∧ Pl.bstL (m, la, tab 16 to (0 : Int)) p true < (↑la.length : Int)) (
          .req ((0 : Int) ≤ Pl.bstL (m, la, tab 16 to (0 : Int)) p true ∧ Pl.bstL (m, la, tab 16 to (0 : Int)) p true < (↑la.length : Int)) (
           .req ((0 : Int) ≤ Pl.bstL (m, la, tab 16 to (0 : Int)) p true ∧ Pl.bstL (m, la, tab 16 to (0 : Int)) p true < (↑la.length : Int)) (
            .req ((0 : Int) ≤ Pl.bstL (m, la, tab 16 to (0 : Int)) p true ∧ Pl.bstL (m, la, tab 16 to (0 : Int)) p true < (↑la.length : Int)) (
             .req (IntKind.i64.wrap (p + (1 : Int)) = IntKind.i64.wrap (p + (1 : Int)) ∧ to0.getD 0 (0 : Int) = (tab 16 to0 (0 : Int)).getD 0 (0 : Int) ∧ to0.getD 1 (0 : Int) = (tab 16 to0 (0 : Int)).getD 1 (0 : Int) ∧ to0.getD 2 (0 : Int) = (tab 16 to0 (0 : Int)).getD 2 (0 : Int) ∧ to0.getD 3 (0 : Int) = (tab 16 to0 (0 : Int)).getD 3 (0 : Int) ∧ to0.getD 4 (0 : Int) = (tab 16 to0 (0 : Int)).getD 4 (0 : Int) ∧ to0.getD 5 (0 : Int) = (tab 16 to0 (0 : Int)).getD 5 (0 : Int) ∧ to0.getD 6 (0 : Int) = (tab 16 to0 (0 : Int)).getD 6 (0 : Int) ∧ to0.getD 7 (0 : Int) = (tab 16 to0 (0 : Int)).getD 7 (0 : Int) ∧ to0.getD 8 (0 : Int) = (tab 16 to0 (0 : Int)).getD 8 (0 : Int) ∧ to0.getD 9 (0 : Int) = (tab 16 to0 (0 : Int)).getD 9 (0 : Int) ∧ to0.getD 10 (0 : Int) = (tab 16 to0 (0 : Int)).getD 10 (0 : Int) ∧ to0.getD 11 (0 : Int) = (tab 16 to0 (0 : Int)).getD 11 (0 : Int) ∧ to0.getD 12 (0 : Int) = (tab 16 to0 (0 : Int)).getD 12 (0 : Int) ∧ to0.getD 13 (0 : Int) = (tab 16 to0 (0 : Int)).getD 13 (0 : Int) ∧ to0.getD 14 (0 : Int) = (tab 16 to0 (0 : Int)).getD 14 (0 : Int) ∧ to0.getD 15 (0 : Int) = (tab 16 to0 (0 : Int)).getD 15 (0 : Int) ∧ (bif decide (p = (0 : Int)) then m.getD (Pl.bstL (m, la, tab 16 to (0 : Int)) p true).toNat (0 : Int) else to.getD 0 (0 : Int)) = (tabL 16 fun j => bif decide (p = j) then m.getD (Pl.bstL (m, la, tab 16 to (0 : Int)) p true).toNat (0 : Int) else to.getD j (0 : Int)).getD 0 (0 : Int) ∧ (bif decide (p = (1 : Int)) then m.getD (Pl.bstL (m, la, tab 16 to (0 : Int)) p true).toNat (0 : Int) else to.getD 1 (0 : Int)) = (tabL 16 fun j => bif decide (p = j) then m.getD (Pl.bstL (m, la, tab 16 to (0 : Int)) p true).toNat (0 : Int) else to.getD j (0 : Int)).getD 1 (0 : Int) ∧ (bif decide (p = (2 : Int)) then m.getD (Pl.bstL (m, la, tab 16 to (0 : Int)) p true).toNat (0 : Int) else to.getD 2 (0 : Int)) = (tabL 16 fun j => bif decide (p = j) then m.getD (Pl.bstL (m, la, tab 16 to (0 : Int)) p true).toNat (0 : Int) else to.getD j (0 : Int)).getD 2 (0 : Int) ∧ (bif decide (p = (3 : Int)) then m.getD (Pl.bstL (m, la, tab 16 to (0 : Int)) p true).toNat (0 : Int) else to.getD 3 (0 : Int)) = (tabL 16 fun j => bif decide (p = j) then m.getD (Pl.bstL (m, la, tab 16 to (0 : Int)) p true).toNat (0 : Int) else to.getD j (0 : Int)).getD 3 (0 : Int) ∧ (bif decide (p = (4 : Int)) then m.getD (Pl.bstL (m, la, tab 16 to (0 : Int)) p true).toNat (0 : Int) else to.getD 4 (0 : Int)) = (tabL 16 fun j => bif decide (p = j) then m.getD (Pl.bstL (m, la, tab 16 to (0 : Int)) p true).toNat (0 : Int) else to.getD j (0 : Int)).getD 4 (0 : Int) ∧ (bif decide (p = (5 : Int)) then m.getD (Pl.bstL (m, la, tab 16 to (0 : Int)) p true).toNat (0 : Int) else to.getD 5 (0 : Int)) = (tabL 16 fun j => bif decide (p = j) then m.getD (Pl.bstL (m, la, tab 16 to (0 : Int)) p true).toNat (0 : Int) else to.getD j (0 : Int)).getD 5 (0 : Int) ∧ (bif decide (p = (6 : Int)) then m.getD (Pl.bstL (m, la, tab 16 to (0 : Int)) p true).toNat (0 : Int) else to.getD 6 (0 : Int)) = (tabL 16 fun j => bif decide (p = j) then m.getD (Pl.bstL (m, la, tab 16 to (0 : Int)) p true).toNat (0 : Int) else to.getD j (0 : Int)).getD 6 (0 : Int) ∧ (bif decide (p = (7 : Int)) then m.getD (Pl.bstL (m, la, tab 16 to (0 : Int)) p true).toNat (0 : Int) else to.getD 7 (0 : Int)) = (tabL 16 fun j => bif decide (p = j) then m.getD (Pl.bstL (m, la, tab 16 to (0 : Int)) p true).toNat (0 : Int) else to.getD j (0 : Int)).getD 7 (0 : Int) ∧ (bif decide (p = (8 : Int)) then m.getD (Pl.bstL (m, la, tab 16 to (0 : Int)) p true).toNat (0 : Int) else to.getD 8 (0 : Int)) = (tabL 16 fun j => bif decide (p = j) then m.getD (Pl.bstL (m, la, tab 16 to (0 : Int)) p true).toNat (0 : Int) else to.getD j (0 : Int)).getD 8 (0 : Int) ∧ (bif decide (p = (9 : Int)) then m.getD (Pl.bstL (m, la, tab 16 to (0 : Int)) p true).toNat (0 : Int) else to.getD 9 (0 : Int)) = (tabL 16 fun j => bif decide (p = j) then m.getD (Pl.bstL (m, la, tab 16 to (0 : Int)) p true).toNat (0 : Int) else to.getD j (0 : Int)).getD 9 (0 : Int) ∧ (bif decide (p = (10 : Int)) then m.getD (Pl.bstL (m, la, tab 16 to (0 : Int)) p true).toNat (0 : Int) else to.getD 10 (0 : Int)) = (tabL 16 fun j => bif decide (p = j) then m.getD (Pl.bstL (m, la, tab 16 to (0 : Int)) p true).toNat (0 : Int) else to.getD j (0 : Int)).getD 10 (0 : Int) ∧ (bif decide (p = (11 : Int)) then m.getD (Pl.bstL (m, la, tab 16 to (0 : Int)) p true).toNat (0 : Int) else to.getD 11 (0 : Int)) = (tabL 16 fun j => bif decide (p = j) then m.getD (Pl.bstL (m, la, tab 16 to (0 : Int)) p true).toNat (0 : Int) else to.getD j (0 : Int)).getD 11 (0 : Int) ∧ (bif decide (p = (12 : Int)) then m.getD (Pl.bstL (m, la, tab 16 to (0 : Int)) p true).toNat (0 : Int) else to.getD 12 (0 : Int)) = (tabL 16 fun j => bif decide (p = j) then m.getD (Pl.bstL (m, la, tab 16 to (0 : Int)) p true).toNat (0 : Int) else to.getD j (0 : Int)).getD 12 (0 : Int) ∧ (bif decide (p = (13 : Int)) then m.getD (Pl.bstL (m, la, tab 16 to (0 : Int)) p true).toNat (0 : Int) else to.getD 13 (0 : Int)) = (tabL 16 fun j => bif decide (p = j) then m.getD (Pl.bstL (m, la, tab 16 to (0 : Int)) p true).toNat (0 : Int) else to.getD j (0 : Int)).getD 13 (0 : Int) ∧ (bif decide (p = (14 : Int)) then m.getD (Pl.bstL (m, la, tab 16 to (0 : Int)) p true).toNat (0 : Int) else to.getD 14 (0 : Int)) = (tabL 16 fun j => bif decide (p = j) then m.getD (Pl.bstL (m, la, tab 16 to (0 : Int)) p true).toNat (0 : Int) else to.getD j (0 : Int)).getD 14 (0 : Int) ∧ (bif decide (p = (15 : Int)) then m.getD (Pl.bstL (m, la, tab 16 to (0 : Int)) p true).toNat (0 : Int) else to.getD 15 (0 : Int)) = (tabL 16 fun j => bif decide (p = j) then m.getD (Pl.bstL (m, la, tab 16 to (0 : Int)) p true).toNat (0 : Int) else to.getD j (0 : Int)).getD 15 (0 : Int) ∧ la.set (Pl.bstL (m, la, tab 16 to (0 : Int)) p true).toNat (IntKind.i64.wrap (la.getD (Pl.bstL (m, la, tab 16 to (0 : Int)) p true).toNat (0 : Int) - (1 : Int))) = la.set (Pl.bstL (m, la, tab 16 to (0 : Int)) p true).toNat (IntKind.i64.wrap (la.getD (Pl.bstL (m, la, tab 16 to (0 : Int)) p true).toNat (0 : Int) - (1 : Int))) ∧ m = m) (
              .leaf (Option.some { la := la.set (Pl.bstL (m, la, tab 16 to (0 : Int)) p true).toNat (IntKind.i64.wrap (la.getD (Pl.bstL (m, la, tab 16 to (0 : Int)) p true).toNat (0 : Int) - (1 : Int))), m := m, to0 := tab 16 to0 (0 : Int), p := IntKind.i64.wrap (p + (1 : Int)), to := tabL 16 fun j => bif decide (p = j) then m.getD (Pl.bstL (m, la, tab 16 to (0 : Int)) p true).toNat (0 : Int) else to.getD j (0 : Int) }))))))))))))))) (
 .req (to.getD 0 (0 : Int) = (Pl.asg1 m to0 (16 - p.toNat) p.toNat to la).1.getD 0 (0 : Int) ∧ to.getD 1 (0 : Int) = (Pl.asg1 m to0 (16 - p.toNat) p.toNat to la).1.getD 1 (0 : Int) ∧ to.getD 2 (0 : Int) = (Pl.asg1 m to0 (16 - p.toNat) p.toNat to la).1.getD 2 (0 : Int) ∧ to.getD 3 (0 : Int) = (Pl.asg1 m to0 (16 - p.toNat) p.toNat to la).1.getD 3 (0 : Int) ∧ to.getD 4 (0 : Int) = (Pl.asg1 m to0 (16 - p.toNat) p.toNat to la).1.getD 4 (0 : Int) ∧ to.getD 5 (0 : Int) = (Pl.asg1 m to0 (16 - p.toNat) p.toNat to la).1.getD 5 (0 : Int) ∧ to.getD 6 (0 : Int) = (Pl.asg1 m to0 (16 - p.toNat) p.toNat to la).1.getD 6 (0 : Int) ∧ to.getD 7 (0 : Int) = (Pl.asg1 m to0 (16 - p.toNat) p.toNat to la).1.getD 7 (0 : Int) ∧ to.getD 8 (0 : Int) = (Pl.asg1 m to0 (16 - p.toNat) p.toNat to la).1.getD 8 (0 : Int) ∧ to.getD 9 (0 : Int) = (Pl.asg1 m to0 (16 - p.toNat) p.toNat to la).1.getD 9 (0 : Int) ∧ to.getD 10 (0 : Int) = (Pl.asg1 m to0 (16 - p.toNat) p.toNat to la).1.getD 10 (0 : Int) ∧ to.getD 11 (0 : Int) = (Pl.asg1 m to0 (16 - p.toNat) p.toNat to la).1.getD 11 (0 : Int) ∧ to.getD 12 (0 : Int) = (Pl.asg1 m to0 (16 - p.toNat) p.toNat to la).1.getD 12 (0 : Int) ∧ to.getD 13 (0 : Int) = (Pl.asg1 m to0 (16 - p.toNat) p.toNat to la).1.getD 13 (0 : Int) ∧ to.getD 14 (0 : Int) = (Pl.asg1 m to0 (16 - p.toNat) p.toNat to la).1.getD 14 (0 : Int) ∧ to.getD 15 (0 : Int) = (Pl.asg1 m to0 (16 - p.toNat) p.toNat to la).1.getD 15 (0 : Int) ∧ la = (Pl.asg1 m to0 (16 - p.toNat) p.toNat to la).2 ∧ m = m) (
  .leaf (Option.none))) : Tree (Option Pl.AA1)) := by kernel_rfl
theorem tAs (now ms : List Int) : @Eq _
  (fnO W2 [(0, LA0.sp), (1, LA1.sp)] 100 Try.f14 [ints, ints] [ints] (now, ms, ()))
  (.req ((↑ms.length : Int) < (4611686018427387904 : Int)) (
 .req ((↑ms.length : Int) < (4611686018427387904 : Int)) (
  .fork ((↑(Pl.memL ms).length : Int) == (0 : Int)) (
   .leaf ((([] : List Int), ()))) (
   .req (16 = 16 ∧ (Pl.quotaL now ms).length = (Pl.memL ms).length ∧ (Pl.memL ms).length ≤ 8 ∧ (0 : Int) ≤ (0 : Int) ∧ (0 : Int) ≤ (16 : Int) ∧ ∀ (x : Int), x ∈ Pl.quotaL now ms → (0 : Int) ≤ x ∧ x ≤ (40 : Int)) (
    .req ((0 : Int) = (0 : Int) ∧ (0 : Int) = (0 : Int) ∧ (0 : Int) = (0 : Int) ∧ (0 : Int) = (0 : Int) ∧ (0 : Int) = (0 : Int) ∧ (0 : Int) = (0 : Int) ∧ (0 : Int) = (0 : Int) ∧ (0 : Int) = (0 : Int) ∧ (0 : Int) = (0 : Int) ∧ (0 : Int) = (0 : Int) ∧ (0 : Int) = (0 : Int) ∧ (0 : Int) = (0 : Int) ∧ (0 : Int) = (0 : Int) ∧ (0 : Int) = (0 : Int) ∧ (0 : Int) = (0 : Int) ∧ (0 : Int) = (0 : Int) ∧ (0 : Int) = (0 : Int) ∧ Pl.quotaL now ms = Pl.quotaL now ms ∧ Pl.memL ms = Pl.memL ms ∧ now = now) (
     .req (16 = 16 ∧ 16 = 16 ∧ (Pl.asg0 now (Pl.memL ms) 16 0 (List.replicate 16 (0 : Int)) (Pl.quotaL now ms)).2.length = (Pl.memL ms).length ∧ (Pl.memL ms).length ≤ 8 ∧ (0 : Int) ≤ (0 : Int) ∧ (0 : Int) ≤ (16 : Int) ∧ (∀ (x : Int), x ∈ (Pl.asg0 now (Pl.memL ms) 16 0 (List.replicate 16 (0 : Int)) (Pl.quotaL now ms)).2 → (0 : Int) ≤ x ∧ x ≤ (40 : Int)) ∧ (↑(List.count (-1 : Int) (tab 16 (Pl.asg0 now (Pl.memL ms) 16 0 (List.replicate 16 (0 : Int)) (Pl.quotaL now ms)).1 (0 : Int))) : Int) ≤ (Pl.asg0 now (Pl.memL ms) 16 0 (List.replicate 16 (0 : Int)) (Pl.quotaL now ms)).2.sum) (
      .req ((0 : Int) = (0 : Int) ∧ (Pl.asg0 now (Pl.memL ms) 16 0 (List.replicate 16 (0 : Int)) (Pl.quotaL now ms)).1.getD 0 (0 : Int) = (tab 16 (Pl.asg0 now (Pl.memL ms) 16 0 (List.replicate 16 (0 : Int)) (Pl.quotaL now ms)).1 (0 : Int)).getD 0 (0 : Int) ∧ (Pl.asg0 now (Pl.memL ms) 16 0 (List.replicate 16 (0 : Int)) (Pl.quotaL now ms)).1.getD 1 (0 : Int) = (tab 16 (Pl.asg0 now (Pl.memL ms) 16 0 (List.replicate 16 (0 : Int)) (Pl.quotaL now ms)).1 (0 : Int)).getD 1 (0 : Int) ∧ (Pl.asg0 now (Pl.memL ms) 16 0 (List.replicate 16 (0 : Int)) (Pl.quotaL now ms)).1.getD 2 (0 : Int) = (tab 16 (Pl.asg0 now (Pl.memL ms) 16 0 (List.replicate 16 (0 : Int)) (Pl.quotaL now ms)).1 (0 : Int)).getD 2 (0 : Int) ∧ (Pl.asg0 now (Pl.memL ms) 16 0 (List.replicate 16 (0 : Int)) (Pl.quotaL now ms)).1.getD 3 (0 : Int) = (tab 16 (Pl.asg0 now (Pl.memL ms) 16 0 (List.replicate 16 (0 : Int)) (Pl.quotaL now ms)).1 (0 : Int)).getD 3 (0 : Int) ∧ (Pl.asg0 now (Pl.memL ms) 16 0 (List.replicate 16 (0 : Int)) (Pl.quotaL now ms)).1.getD 4 (0 : Int) = (tab 16 (Pl.asg0 now (Pl.memL ms) 16 0 (List.replicate 16 (0 : Int)) (Pl.quotaL now ms)).1 (0 : Int)).getD 4 (0 : Int) ∧ (Pl.asg0 now (Pl.memL ms) 16 0 (List.replicate 16 (0 : Int)) (Pl.quotaL now ms)).1.getD 5 (0 : Int) = (tab 16 (Pl.asg0 now (Pl.memL ms) 16 0 (List.replicate 16 (0 : Int)) (Pl.quotaL now ms)).1 (0 : Int)).getD 5 (0 : Int) ∧ (Pl.asg0 now (Pl.memL ms) 16 0 (List.replicate 16 (0 : Int)) (Pl.quotaL now ms)).1.getD 6 (0 : Int) = (tab 16 (Pl.asg0 now (Pl.memL ms) 16 0 (List.replicate 16 (0 : Int)) (Pl.quotaL now ms)).1 (0 : Int)).getD 6 (0 : Int) ∧ (Pl.asg0 now (Pl.memL ms) 16 0 (List.replicate 16 (0 : Int)) (Pl.quotaL now ms)).1.getD 7 (0 : Int) = (tab 16 (Pl.asg0 now (Pl.memL ms) 16 0 (List.replicate 16 (0 : Int)) (Pl.quotaL now ms)).1 (0 : Int)).getD 7 (0 : Int) ∧ (Pl.asg0 now (Pl.memL ms) 16 0 (List.replicate 16 (0 : Int)) (Pl.quotaL now ms)).1.getD 8 (0 : Int) = (tab 16 (Pl.asg0 now (Pl.memL ms) 16 0 (List.replicate 16 (0 : Int)) (Pl.quotaL now ms)).1 (0 : Int)).getD 8 (0 : Int) ∧ (Pl.asg0 now (Pl.memL ms) 16 0 (List.replicate 16 (0 : Int)) (Pl.quotaL now ms)).1.getD 9 (0 : Int) = (tab 16 (Pl.asg0 now (Pl.memL ms) 16 0 (List.replicate 16 (0 : Int)) (Pl.quotaL now ms)).1 (0 : Int)).getD 9 (0 : Int) ∧ (Pl.asg0 now (Pl.memL ms) 16 0 (List.replicate 16 (0 : Int)) (Pl.quotaL now ms)).1.getD 10 (0 : Int) = (tab 16 (Pl.asg0 now (Pl.memL ms) 16 0 (List.replicate 16 (0 : Int)) (Pl.quotaL now ms)).1 (0 : Int)).getD 10 (0 : Int) ∧ (Pl.asg0 now (Pl.memL ms) 16 0 (List.replicate 16 (0 : Int)) (Pl.quotaL now ms)).1.getD 11 (0 : Int) = (tab 16 (Pl.asg0 now (Pl.memL ms) 16 0 (List.replicate 16 (0 : Int)) (Pl.quotaL now ms)).1 (0 : Int)).getD 11 (0 : Int) ∧ (Pl.asg0 now (Pl.memL ms) 16 0 (List.replicate 16 (0 : Int)) (Pl.quotaL now ms)).1.getD 12 (0 : Int) = (tab 16 (Pl.asg0 now (Pl.memL ms) 16 0 (List.replicate 16 (0 : Int)) (Pl.quotaL now ms)).1 (0 : Int)).getD 12 (0 : Int) ∧ (Pl.asg0 now (Pl.memL ms) 16 0 (List.replicate 16 (0 : Int)) (Pl.quotaL now ms)).1.getD 13 (0 : Int) = (tab 16 (Pl.asg0 now (Pl.memL ms) 16 0 (List.replicate 16 (0 : Int)) (Pl.quotaL now ms)).1 (0 : Int)).getD 13 (0 : Int) ∧ (Pl.asg0 now (Pl.memL ms) 16 0 (List.replicate 16 (0 : Int)) (Pl.quotaL now ms)).1.getD 14 (0 : Int) = (tab 16 (Pl.asg0 now (Pl.memL ms) 16 0 (List.replicate 16 (0 : Int)) (Pl.quotaL now ms)).1 (0 : Int)).getD 14 (0 : Int) ∧ (Pl.asg0 now (Pl.memL ms) 16 0 (List.replicate 16 (0 : Int)) (Pl.quotaL now ms)).1.getD 15 (0 : Int) = (tab 16 (Pl.asg0 now (Pl.memL ms) 16 0 (List.replicate 16 (0 : Int)) (Pl.quotaL now ms)).1 (0 : Int)).getD 15 (0 : Int) ∧ (Pl.asg0 now (Pl.memL ms) 16 0 (List.replicate 16 (0 : Int)) (Pl.quotaL now ms)).1.getD 0 (0 : Int) = (tab 16 (Pl.asg0 now (Pl.memL ms) 16 0 (List.replicate 16 (0 : Int)) (Pl.quotaL now ms)).1 (0 : Int)).getD 0 (0 : Int) ∧ (Pl.asg0 now (Pl.memL ms) 16 0 (List.replicate 16 (0 : Int)) (Pl.quotaL now ms)).1.getD 1 (0 : Int) = (tab 16 (Pl.asg0 now (Pl.memL ms) 16 0 (List.replicate 16 (0 : Int)) (Pl.quotaL now ms)).1 (0 : Int)).getD 1 (0 : Int) ∧ (Pl.asg0 now (Pl.memL ms) 16 0 (List.replicate 16 (0 : Int)) (Pl.quotaL now ms)).1.getD 2 (0 : Int) = (tab 16 (Pl.asg0 now (Pl.memL ms) 16 0 (List.replicate 16 (0 : Int)) (Pl.quotaL now ms)).1 (0 : Int)).getD 2 (0 : Int) ∧ (Pl.asg0 now (Pl.memL ms) 16 0 (List.replicate 16 (0 : Int)) (Pl.quotaL now ms)).1.getD 3 (0 : Int) = (tab 16 (Pl.asg0 now (Pl.memL ms) 16 0 (List.replicate 16 (0 : Int)) (Pl.quotaL now ms)).1 (0 : Int)).getD 3 (0 : Int) ∧ (Pl.asg0 now (Pl.memL ms) 16 0 (List.replicate 16 (0 : Int)) (Pl.quotaL now ms)).1.getD 4 (0 : Int) = (tab 16 (Pl.asg0 now (Pl.memL ms) 16 0 (List.replicate 16 (0 : Int)) (Pl.quotaL now ms)).1 (0 : Int)).getD 4 (0 : Int) ∧ (Pl.asg0 now (Pl.memL ms) 16 0 (List.replicate 16 (0 : Int)) (Pl.quotaL now ms)).1.getD 5 (0 : Int) = (tab 16 (Pl.asg0 now (Pl.memL ms) 16 0 (List.replicate 16 (0 : Int)) (Pl.quotaL now ms)).1 (0 : Int)).getD 5 (0 : Int) ∧ (Pl.asg0 now (Pl.memL ms) 16 0 (List.replicate 16 (0 : Int)) (Pl.quotaL now ms)).1.getD 6 (0 : Int) = (tab 16 (Pl.asg0 now (Pl.memL ms) 16 0 (List.replicate 16 (0 : Int)) (Pl.quotaL now ms)).1 (0 : Int)).getD 6 (0 : Int) ∧ (Pl.asg0 now (Pl.memL ms) 16 0 (List.replicate 16 (0 : Int)) (Pl.quotaL now ms)).1.getD 7 (0 : Int) = (tab 16 (Pl.asg0 now (Pl.memL ms) 16 0 (List.replicate 16 (0 : Int)) (Pl.quotaL now ms)).1 (0 : Int)).getD 7 (0 : Int) ∧ (Pl.asg0 now (Pl.memL ms) 16 0 (List.replicate 16 (0 : Int)) (Pl.quotaL now ms)).1.getD 8 (0 : Int) = (tab 16 (Pl.asg0 now (Pl.memL ms) 16 0 (List.replicate 16 (0 : Int)) (Pl.quotaL now ms)).1 (0 : Int)).getD 8 (0 : Int) ∧ (Pl.asg0 now (Pl.memL ms) 16 0 (List.replicate 16 (0 : Int)) (Pl.quotaL now ms)).1.getD 9 (0 : Int) = (tab 16 (Pl.asg0 now (Pl.memL ms) 16 0 (List.replicate 16 (0 : Int)) (Pl.quotaL now ms)).1 (0 : Int)).getD 9 (0 : Int) ∧ (Pl.asg0 now (Pl.memL ms) 16 0 (List.replicate 16 (0 : Int)) (Pl.quotaL now ms)).1.getD 10 (0 : Int) = (tab 16 (Pl.asg0 now (Pl.memL ms) 16 0 (List.replicate 16 (0 : Int)) (Pl.quotaL now ms)).1 (0 : Int)).getD 10 (0 : Int) ∧ (Pl.asg0 now (Pl.memL ms) 16 0 (List.replicate 16 (0 : Int)) (Pl.quotaL now ms)).1.getD 11 (0 : Int) = (tab 16 (Pl.asg0 now (Pl.memL ms) 16 0 (List.replicate 16 (0 : Int)) (Pl.quotaL now ms)).1 (0 : Int)).getD 11 (0 : Int) ∧ (Pl.asg0 now (Pl.memL ms) 16 0 (List.replicate 16 (0 : Int)) (Pl.quotaL now ms)).1.getD 12 (0 : Int) = (tab 16 (Pl.asg0 now (Pl.memL ms) 16 0 (List.replicate 16 (0 : Int)) (Pl.quotaL now ms)).1 (0 : Int)).getD 12 (0 : Int) ∧ (Pl.asg0 now (Pl.memL ms) 16 0 (List.replicate 16 (0 : Int)) (Pl.quotaL now ms)).1.getD 13 (0 : Int) = (tab 16 (Pl.asg0 now (Pl.memL ms) 16 0 (List.replicate 16 (0 : Int)) (Pl.quotaL now ms)).1 (0 : Int)).getD 13 (0 : Int) ∧ (Pl.asg0 now (Pl.memL ms) 16 0 (List.replicate 16 (0 : Int)) (Pl.quotaL now ms)).1.getD 14 (0 : Int) = (tab 16 (Pl.asg0 now (Pl.memL ms) 16 0 (List.replicate 16 (0 : Int)) (Pl.quotaL now ms)).1 (0 : Int)).getD 14 (0 : Int) ∧ (Pl.asg0 now (Pl.memL ms) 16 0 (List.replicate 16 (0 : Int)) (Pl.quotaL now ms)).1.getD 15 (0 : Int) = (tab 16 (Pl.asg0 now (Pl.memL ms) 16 0 (List.replicate 16 (0 : Int)) (Pl.quotaL now ms)).1 (0 : Int)).getD 15 (0 : Int) ∧ (Pl.asg0 now (Pl.memL ms) 16 0 (List.replicate 16 (0 : Int)) (Pl.quotaL now ms)).2 = (Pl.asg0 now (Pl.memL ms) 16 0 (List.replicate 16 (0 : Int)) (Pl.quotaL now ms)).2 ∧ Pl.memL ms = Pl.memL ms) (
       .req ((16 : Int) < (17592186044416 : Int)) (
        .leaf ((tab 16 (Pl.asg1 (Pl.memL ms) (tab 16 (Pl.asg0 now (Pl.memL ms) 16 0 (List.replicate 16 (0 : Int)) (Pl.quotaL now ms)).1 (0 : Int)) 16 0 (tab 16 (Pl.asg0 now (Pl.memL ms) 16 0 (List.replicate 16 (0 : Int)) (Pl.quotaL now ms)).1 (0 : Int)) (Pl.asg0 now (Pl.memL ms) 16 0 (List.replicate 16 (0 : Int)) (Pl.quotaL now ms)).2).1 (0 : Int), ())))))))))) : Tree (List Int × PUnit)) := by kernel_rfl
end Pl
namespace Pl
open Go Sx Go.Proofs Go.RowKit
theorem indexF_range (l : List Int) (v : Int) : -1 ≤ indexF l v ∧ indexF l v < l.length ∧ (0 ≤ indexF l v → l.getD (indexF l v).toNat 0 = v) := by
  unfold indexF
  split
  · rename_i h
    obtain ⟨a, b, c, d⟩ := idxF_ge v l 0 (by omega) h
    refine ⟨by omega, by omega, fun _ => ?_⟩
    rw [Int.sub_zero] at d; exact d
  · exact ⟨by omega, by omega, fun h => by omega⟩
theorem set_mem {l : List Int} {k : Nat} {v x : Int} (h : x ∈ l.set k v) : x ∈ l ∨ x = v := List.mem_or_eq_of_mem_set h
theorem sum_set (v : Int) : ∀ (l : List Int) (k : Nat), k < l.length → (l.set k v).sum = l.sum - l.getD k 0 + v
  | [], _, h => by simp at h
  | a :: l, 0, _ => by simp; omega
  | a :: l, k + 1, h => by
    have := sum_set v l k (by simpa using h)
    simp only [List.set_cons_succ, List.sum_cons, List.getD_cons_succ, this]; omega
theorem tabL_put2 {xs : List Int} {z s t : Int} {n : Nat} {i : Int} (h : xs.length = n) (h0 : 0 ≤ i) : tabL n (fun j => bif decide (i = (j : Int)) then s else bif decide (i = (j : Int)) then t else xs.getD j z) = xs.set i.toNat s := by
  rw [← tabL_put h h0 (z := z) (s := s)]
  exact congrArg (tabL n) (funext fun j => by cases decide (i = (j : Int)) <;> rfl)
theorem asg0_step (now m : List Int) (p : Int) (to la : List Int) (h0 : 0 ≤ p) (h1 : p < 16) : asg0 now m (16 - p.toNat) p.toNat to la = if decide (indexF m (atL now p) ≥ 0) && decide (la.getD (indexF m (atL now p)).toNat 0 > 0) then asg0 now m (16 - (p + 1).toNat) (p + 1).toNat (to.set p.toNat (m.getD (indexF m (atL now p)).toNat 0)) (la.set (indexF m (atL now p)).toNat (la.getD (indexF m (atL now p)).toNat 0 - 1)) else asg0 now m (16 - (p + 1).toNat) (p + 1).toNat (to.set p.toNat (-1)) la := by
  have e1 : 16 - p.toNat = (16 - (p + 1).toNat) + 1 := by omega
  have e2 : (p.toNat : Int) = p := by omega
  have e3 : p.toNat + 1 = (p + 1).toNat := by omega
  rw [e1, asg0, e2, e3]
theorem lA0 : LpsOK Try.prog Try.f14 [(0, LA0.sp)] := by
  refine .cons (LA0.sound W2_ok (lps := []) (n := 100) (inner rfl) (fun _ => rfl) ?_) .nil
  rintro ⟨now, la, m, p, to⟩ ⟨h16, hl, h8, h0, h1, hx⟩
  simp only at h16 hl h8 h0 h1 hx
  rw [rA0]
  obtain ⟨i1, i2, i3⟩ := indexF_range m (atL now p)
  simp only [all_leaf, all_fork, all_req, conjP, and_true, decide_eq_true_eq, decide_eq_false_iff_not]
  have hii : indexF m (atL now p) ≥ 0 → 0 ≤ indexF m (atL now p) ∧ indexF m (atL now p) < (la.length : Int) := fun c => ⟨c, by omega⟩
  refine ⟨fun c => ⟨⟨h0, c⟩, ⟨h0, c⟩, h0, by omega, fun c' => ⟨hii c', hii c'⟩, fun t => ?_, fun t => ?_⟩, fun c => ⟨?_, trivial⟩⟩
  · have t' := t
    simp only [Bool.and_eq_true, decide_eq_true_eq] at t
    have hlt : (indexF m (atL now p)).toNat < la.length := by omega
    have hg : la.getD (indexF m (atL now p)).toNat 0 ∈ la := by rw [getD_get 0 hlt]; exact List.getElem_mem hlt
    have hb := hx _ hg
    refine ⟨⟨t.1, by omega⟩, ⟨t.1, by omega⟩, ⟨h0, c⟩, ⟨h0, c⟩, hii t.1, hii t.1, hii t.1, hii t.1, by repeat' (first | exact trivial | rfl | apply And.intro), ?_⟩
    rw [tabL_put2 h16 h0, IntWalk.i64_in (p + 1) (by omega), IntWalk.i64_in _ (by omega)]
    refine ⟨⟨by simp [h16], by simp [hl], h8, by dsimp only; omega, by dsimp only; omega, fun x h => ?_⟩, by simp only [LA0]; omega, ?_⟩
    · rcases set_mem h with h | h
      · exact hx x h
      · omega
    · simp only [LA0]
      rw [asg0_step now m p to la h0 c, if_pos t']
  · refine ⟨by repeat' (first | exact trivial | rfl | apply And.intro), ?_⟩
    rw [tabL_put h16 h0, IntWalk.i64_in (p + 1) (by omega)]
    refine ⟨⟨by simp [h16], hl, h8, by dsimp only; omega, by dsimp only; omega, hx⟩, by simp only [LA0]; omega, ?_⟩
    simp only [LA0]
    rw [asg0_step now m p to la h0 c, if_neg (by rw [t]; decide)]
  · have e : 16 - p.toNat = 0 := by omega
    rw [e, asg0]; repeat' (first | exact trivial | rfl | apply And.intro)
end Pl
namespace Pl
open Go Sx Go.Proofs Go.RowKit
theorem qLoop_sum (now : List Int) (e : Int) (b : Bool) : ∀ (l : List Int) (i : Int) (out : List Int) (m : Int), 0 ≤ i → i + l.length ≤ out.length → (qLoop now e b l i out m).1.sum + (qLoop now e b l i out m).2 = out.sum + m
  | [], _, _, _, _, _ => rfl
  | x :: r, i, out, m, h0, h1 => by
    simp only [List.length_cons, Int.natCast_add] at h1
    simp only [qLoop]
    split
    · rw [qLoop_sum now e b r (i + 1) _ _ (by omega) (by simp only [List.length_set]; omega), sum_set _ _ _ (by omega)]; omega
    · rw [qLoop_sum now e b r (i + 1) _ _ (by omega) (by omega)]
def rch (now : List Int) (e : Int) (b : Bool) : List Int → Int
  | [] => 0
  | m :: r => (if decide (hasL now m > e) == b then 1 else 0) + rch now e b r
theorem rch_nn (now : List Int) (e : Int) (b : Bool) : ∀ l : List Int, 0 ≤ rch now e b l
  | [] => by simp [rch]
  | m :: r => by have := rch_nn now e b r; simp only [rch]; split <;> omega
theorem rch_both (now : List Int) (e : Int) : ∀ l : List Int, rch now e true l + rch now e false l = l.length
  | [] => by simp [rch]
  | m :: r => by
    have := rch_both now e r
    simp only [rch, List.length_cons]
    cases decide (hasL now m > e) <;> simp <;> omega
theorem qLoop_more (now : List Int) (e : Int) (b : Bool) : ∀ (l : List Int) (i : Int) (out : List Int) (m : Int), 0 ≤ m → (qLoop now e b l i out m).2 = max (m - rch now e b l) 0
  | [], _, _, m, h => by simp only [qLoop, rch]; omega
  | x :: r, i, out, m, h => by
    have hn := rch_nn now e b r
    simp only [qLoop, rch]
    by_cases c : (decide (hasL now x > e) == b) = true
    · by_cases d : m > 0
      · rw [if_pos (by rw [c]; simpa using d), if_pos c, qLoop_more now e b r _ _ _ (by omega)]; omega
      · rw [if_neg (by simp [d]), if_pos c, qLoop_more now e b r _ _ _ (by omega)]; omega
    · rw [if_neg (by simp only [Bool.and_eq_true]; exact fun z => c z.2), if_neg c, qLoop_more now e b r _ _ _ (by omega)]; omega
theorem sum_rep (k : Nat) (v : Int) : (List.replicate k v).sum = k * v := by
  induction k with
  | zero => simp
  | succ k ih => rw [List.replicate_succ, List.sum_cons, ih, Int.natCast_succ, Int.add_mul]; omega
theorem quotaM_all (now l : List Int) (h1 : 1 ≤ l.length) (h8 : l.length ≤ 8) : (quotaM now l).sum = 16 ∧ (quotaM now l).length = l.length ∧ ∀ x ∈ quotaM now l, 0 ≤ x ∧ x ≤ 40 := by
  have hn := qNum (n := (l.length : Int)) (by omega) (by omega)
  have hk := okQ0 (n := (l.length : Int)) (by omega) (by omega) l.length
  have hl1 := qLoop_len now (qEach (l.length : Int)) true l 0 (List.replicate l.length (qEach (l.length : Int))) (Int.tmod 16 (l.length : Int))
  have hs1 := qLoop_sum now (qEach (l.length : Int)) true l 0 (List.replicate l.length (qEach (l.length : Int))) (Int.tmod 16 (l.length : Int)) (by omega) (by simp)
  have hm1 := qLoop_more now (qEach (l.length : Int)) true l 0 (List.replicate l.length (qEach (l.length : Int))) (Int.tmod 16 (l.length : Int)) hn.2.2.1
  have ho1 := qLoop_ok now (qEach (l.length : Int)) true l 0 (List.replicate l.length (qEach (l.length : Int))) (Int.tmod 16 (l.length : Int)) (by omega) (by simp) hk
  have e : quotaM now l = (qLoop now (qEach (l.length : Int)) false l 0 (qLoop now (qEach (l.length : Int)) true l 0 (List.replicate l.length (qEach (l.length : Int))) (Int.tmod 16 (l.length : Int))).1 (qLoop now (qEach (l.length : Int)) true l 0 (List.replicate l.length (qEach (l.length : Int))) (Int.tmod 16 (l.length : Int))).2).1 := rfl
  rw [e]
  generalize hr : qLoop now (qEach (l.length : Int)) true l 0 (List.replicate l.length (qEach (l.length : Int))) (Int.tmod 16 (l.length : Int)) = r at *
  rw [List.length_replicate] at hl1
  have hs2 := qLoop_sum now (qEach (l.length : Int)) false l 0 r.1 r.2 (by omega) (by omega)
  have hm2 := qLoop_more now (qEach (l.length : Int)) false l 0 r.1 r.2 ho1.1
  have ho2 := qLoop_ok now (qEach (l.length : Int)) false l 0 r.1 r.2 (by omega) (by omega) ho1
  have hl2 := qLoop_len now (qEach (l.length : Int)) false l 0 r.1 r.2
  have hb := rch_both now (qEach (l.length : Int)) l
  have hrn := rch_nn now (qEach (l.length : Int)) true l
  have hrf := rch_nn now (qEach (l.length : Int)) false l
  have h16 : (l.length : Int) * qEach (l.length : Int) + Int.tmod 16 (l.length : Int) = 16 := by
    have : l.length = 1 ∨ l.length = 2 ∨ l.length = 3 ∨ l.length = 4 ∨ l.length = 5 ∨ l.length = 6 ∨ l.length = 7 ∨ l.length = 8 := by omega
    rcases this with h | h | h | h | h | h | h | h <;> rw [h] <;> decide
  rw [sum_rep, h16] at hs1
  refine ⟨by omega, by omega, fun x hx => ?_⟩
  have h2 := ho2.2 x hx
  have h3 := ho2.1
  omega
theorem memL_nn (ms : List Int) : ∀ x ∈ memL ms, 0 ≤ x ∧ x < 8 := by
  intro x hx
  obtain ⟨k, _, h2, _, h3⟩ := (fltB_mem _ _ _ _).1 hx
  omega
theorem asg0_all (now m : List Int) (hm : ∀ x ∈ m, 0 ≤ x) : ∀ (c p : Nat) (to la : List Int), p + c = 16 → to.length = 16 → la.length = m.length → (∀ x ∈ la, 0 ≤ x ∧ x ≤ 40) → ((to.take p).count (-1) : Int) + c ≤ la.sum →
    (asg0 now m c p to la).1.length = 16 ∧ (asg0 now m c p to la).2.length = m.length ∧ (∀ x ∈ (asg0 now m c p to la).2, 0 ≤ x ∧ x ≤ 40) ∧ ((asg0 now m c p to la).1.count (-1) : Int) ≤ (asg0 now m c p to la).2.sum
  | 0, p, to, la, hp, ht, hl, hx, hs => by
    rw [List.take_of_length_le (by omega)] at hs
    exact ⟨ht, hl, hx, by simpa [asg0] using hs⟩
  | c + 1, p, to, la, hp, ht, hl, hx, hs => by
    obtain ⟨i1, i2, i3⟩ := indexF_range m (atL now (p : Int))
    simp only [asg0]
    split
    · rename_i t
      simp only [Bool.and_eq_true, decide_eq_true_eq] at t
      have hlt : (indexF m (atL now (p : Int))).toNat < la.length := by omega
      have hg : la.getD (indexF m (atL now (p : Int))).toNat 0 ∈ la := by rw [getD_get 0 hlt]; exact List.getElem_mem hlt
      have hb := hx _ hg
      have hv : m.getD (indexF m (atL now (p : Int))).toNat 0 ∈ m := getD_mem 0 t.1 i2
      have hv0 := hm _ hv
      refine asg0_all now m hm c (p + 1) _ _ (by omega) (by simp [ht]) (by simp [hl]) (fun x h => ?_) ?_
      · rcases set_mem h with h | h
        · exact hx x h
        · omega
      · rw [set_take_succ _ (by omega), sum_set _ _ _ hlt, List.count_append, List.count_singleton, if_neg (fun z => by have := eq_of_beq z; omega)]
        omega
    · refine asg0_all now m hm c (p + 1) _ _ (by omega) (by simp [ht]) hl hx ?_
      rw [set_take_succ _ (by omega), List.count_append, List.count_singleton, if_pos (by simp)]
      omega
theorem bstC_pos (to la : List Int) (p : Int) (ap : Bool) : ∀ (l : List Int) (i out : Int), out < 0 ∨ la.getD out.toNat 0 > 0 → bstC to la p ap l i out < 0 ∨ la.getD (bstC to la p ap l i out).toNat 0 > 0
  | [], _, _, h => h
  | n :: r, i, out, h => by
    simp only [bstC]
    refine bstC_pos to la p ap r (i + 1) _ ?_
    split
    · rename_i t
      simp only [Bool.and_eq_true, decide_eq_true_eq] at t
      exact .inr t.1.1
    · exact h
theorem bstC_ge (to la : List Int) (p : Int) : ∀ (l : List Int) (i out : Int), 0 ≤ i → (0 ≤ out ∨ ∃ k : Nat, i.toNat ≤ k ∧ k < i.toNat + l.length ∧ la.getD k 0 > 0) → 0 ≤ bstC to la p false l i out
  | [], i, out, _, h => by
    rcases h with h | ⟨k, h1, h2, _⟩
    · exact h
    · simp only [List.length_nil] at h2; omega
  | n :: r, i, out, h0, h => by
    simp only [bstC]
    refine bstC_ge to la p r (i + 1) _ (by omega) ?_
    split
    · exact .inl h0
    · rename_i t
      rcases h with h | ⟨k, h1, h2, h3⟩
      · exact .inl h
      · simp only [List.length_cons] at h2
        by_cases e : k = i.toNat
        · subst e
          by_cases ho : out < 0
          · exact absurd (by simp only [Bool.and_eq_true, Bool.or_eq_true, decide_eq_true_eq]; exact ⟨⟨h3, rfl⟩, .inl ho⟩) t
          · exact .inl (by omega)
        · exact .inr ⟨k, by omega, by omega, h3⟩
theorem sum_pos : ∀ (l : List Int), 1 ≤ l.sum → ∃ k, k < l.length ∧ l.getD k 0 > 0
  | [], h => by simp at h
  | a :: l, h => by
    by_cases c : a > 0
    · exact ⟨0, by simp, by simpa using c⟩
    · obtain ⟨k, h1, h2⟩ := sum_pos l (by simp only [List.sum_cons] at h; omega)
      exact ⟨k + 1, by simpa using h1, by simpa using h2⟩
theorem bst_range (m la to : List Int) (p : Int) (ap : Bool) (hl : la.length = m.length) : -1 ≤ bstL (m, la, to) p ap ∧ bstL (m, la, to) p ap < m.length ∧ (bstL (m, la, to) p ap < 0 ∨ la.getD (bstL (m, la, to) p ap).toNat 0 > 0) := by
  by_cases h : m.length = 0
  · have : m = [] := List.eq_nil_of_length_eq_zero h
    subst this
    have e : bstL ([], la, to) p ap = -1 := rfl
    rw [e]
    exact ⟨by omega, by simp, .inl (by omega)⟩
  · have := bstC_range to la p ap m.length m 0 (-1) (by omega) (by omega) (by omega) (by omega)
    exact ⟨this.1, this.2, bstC_pos to la p ap m 0 (-1) (.inl (by omega))⟩
theorem bst_false (m la to : List Int) (p : Int) (hl : la.length = m.length) (hs : 1 ≤ la.sum) : 0 ≤ bstL (m, la, to) p false := by
  obtain ⟨k, h1, h2⟩ := sum_pos la hs
  exact bstC_ge to la p m 0 (-1) (by omega) (.inr ⟨k, by omega, by simp; omega, h2⟩)
theorem pick_range (m la to : List Int) (p : Int) (hl : la.length = m.length) (hs : 1 ≤ la.sum) : 0 ≤ pick m la to p ∧ pick m la to p < m.length ∧ la.getD (pick m la to p).toNat 0 > 0 := by
  have h1 := bst_range m la to p true hl
  have h2 := bst_range m la to p false hl
  have h3 := bst_false m la to p hl hs
  unfold pick
  split
  · exact ⟨h3, h2.2.1, h2.2.2.resolve_left (by omega)⟩
  · rename_i h
    simp only [decide_eq_true_eq] at h
    exact ⟨by omega, h1.2.1, h1.2.2.resolve_left h⟩
theorem asg1_step (m to0 : List Int) (p : Int) (to la : List Int) (h0 : 0 ≤ p) (h1 : p < 16) : asg1 m to0 (16 - p.toNat) p.toNat to la = if to0.getD p.toNat 0 == -1 then asg1 m to0 (16 - (p + 1).toNat) (p + 1).toNat (to.set p.toNat (m.getD (pick m la to p).toNat 0)) (la.set (pick m la to p).toNat (la.getD (pick m la to p).toNat 0 - 1)) else asg1 m to0 (16 - (p + 1).toNat) (p + 1).toNat to la := by
  have e1 : 16 - p.toNat = (16 - (p + 1).toNat) + 1 := by omega
  have e2 : (p.toNat : Int) = p := by omega
  have e3 : p.toNat + 1 = (p + 1).toNat := by omega
  rw [e1, asg1, e2, e3]
theorem lA1 : ∀ st out, (LA1.sp st).reach out → CodeOK Try.prog Try.f14.ntmps (.loop (loopAt (bodyOf Try.f14) 1)) st out := by
  refine LA1.sound W2_ok (lps := []) (n := 100) (inner rfl) (fun _ => rfl) ?_
  rintro ⟨la, m, t0, p, to⟩ ⟨h16, hz, hl, h8, h0, h1, hx, hs⟩
  simp only at h16 hz hl h8 h0 h1 hx hs
  rw [rA1]
  simp only [tab_eq h16, tab_eq hz]
  simp only [all_leaf, all_fork, all_req, conjP, and_true, decide_eq_true_eq, decide_eq_false_iff_not]
  refine ⟨fun c => ⟨⟨h0, c⟩, fun t => ⟨by repeat' (first | exact trivial | rfl | apply And.intro), ?_⟩, fun t => ?_⟩, fun c => ⟨?_, trivial⟩⟩
  · rw [IntWalk.i64_in (p + 1) (by omega)]
    have hd := drop_cons (l := t0) 0 h0 (by omega)
    rw [hd, List.count_cons] at hs
    refine ⟨⟨h16, hz, hl, h8, by dsimp only; omega, by dsimp only; omega, hx, by dsimp only; omega⟩, by simp only [LA1]; omega, ?_⟩
    simp only [LA1]
    rw [asg1_step m t0 p to la h0 c, if_neg (by simpa using t)]
  · have t' : t0.getD p.toNat 0 = -1 := by simpa using t
    have hd := drop_cons (l := t0) 0 h0 (by omega)
    rw [hd, List.count_cons, if_pos (by rw [t']; rfl)] at hs
    have hp := pick_range m la to p hl (by omega)
    have r1 := bst_range m la to p true hl
    have fin : ∀ v : Int, v = pick m la to p → LA1.Next ⟨la, m, t0, p, to⟩ (some ⟨la.set v.toNat (IntKind.i64.wrap (la.getD v.toNat 0 - 1)), m, t0, IntKind.i64.wrap (p + 1), to.set p.toNat (m.getD v.toNat 0)⟩) := by
      intro v hv
      subst hv
      have hlt : (pick m la to p).toNat < la.length := by omega
      have hg : la.getD (pick m la to p).toNat 0 ∈ la := by rw [getD_get 0 hlt]; exact List.getElem_mem hlt
      have hb := hx _ hg
      rw [IntWalk.i64_in (p + 1) (by omega), IntWalk.i64_in _ (by omega)]
      refine ⟨⟨by simp [h16], hz, by simp [hl], h8, by dsimp only; omega, by dsimp only; omega, fun x h => ?_, ?_⟩, by simp only [LA1]; omega, ?_⟩
      · rcases set_mem h with h | h
        · exact hx x h
        · omega
      · dsimp only; rw [sum_set _ _ _ hlt]; omega
      · simp only [LA1]
        rw [asg1_step m t0 p to la h0 c, if_pos (by rw [t']; rfl)]
    have eF : bstL (m, la, to) p true < 0 → pick m la to p = bstL (m, la, to) p false := fun d => by unfold pick; rw [if_pos (by simpa using d)]
    have eT : ¬ bstL (m, la, to) p true < 0 → pick m la to p = bstL (m, la, to) p true := fun d => by unfold pick; rw [if_neg (by simpa using d)]
    have pre : la.length = m.length ∧ m.length ≤ 8 ∧ 0 ≤ p ∧ p < 16 := ⟨hl, h8, h0, c⟩
    refine ⟨⟨trivial, pre⟩, fun d => ?_, fun d => ?_⟩
    · have e := eF d
      rw [e] at hp
      have q1 : 0 ≤ bstL (m, la, to) p false ∧ bstL (m, la, to) p false < (m.length : Int) := ⟨hp.1, hp.2.1⟩
      have q2 : 0 ≤ bstL (m, la, to) p false ∧ bstL (m, la, to) p false < (la.length : Int) := ⟨hp.1, by omega⟩
      refine ⟨⟨trivial, pre⟩, q1, q1, ⟨h0, c⟩, ⟨h0, c⟩, q2, q2, q2, q2, by repeat' (first | exact trivial | rfl | apply And.intro), ?_⟩
      rw [tabL_put h16 h0]
      exact fin _ e.symm
    · have e := eT d
      rw [e] at hp
      have q1 : 0 ≤ bstL (m, la, to) p true ∧ bstL (m, la, to) p true < (m.length : Int) := ⟨hp.1, hp.2.1⟩
      have q2 : 0 ≤ bstL (m, la, to) p true ∧ bstL (m, la, to) p true < (la.length : Int) := ⟨hp.1, by omega⟩
      refine ⟨q1, q1, ⟨h0, c⟩, ⟨h0, c⟩, q2, q2, q2, q2, by repeat' (first | exact trivial | rfl | apply And.intro), ?_⟩
      rw [tabL_put h16 h0]
      exact fin _ e.symm
  · have e : 16 - p.toNat = 0 := by omega
    rw [e, asg1]; repeat' (first | exact trivial | rfl | apply And.intro)
end Pl
namespace Pl
open Go Sx Go.Proofs Go.RowKit
def asgM (now m q : List Int) : List Int := (asg1 m (asg0 now m 16 0 (List.replicate 16 0) q).1 16 0 (asg0 now m 16 0 (List.replicate 16 0) q).1 (asg0 now m 16 0 (List.replicate 16 0) q).2).1
def asgL (now ms : List Int) : List Int := if (memL ms).length = 0 then [] else asgM now (memL ms) (quotaL now ms)
theorem asg1_len (m t0 : List Int) : ∀ (c p : Nat) (to la : List Int), (asg1 m t0 c p to la).1.length = to.length
  | 0, _, _, _ => rfl
  | c + 1, p, to, la => by simp only [asg1]; split <;> rw [asg1_len m t0 c] <;> simp
theorem quotaL_all (now ms : List Int) (h : (memL ms).length ≠ 0) : (quotaL now ms).sum = 16 ∧ (quotaL now ms).length = (memL ms).length ∧ ∀ x ∈ quotaL now ms, 0 ≤ x ∧ x ≤ 40 := by
  unfold quotaL
  rw [if_neg h]
  exact quotaM_all now (memL ms) (by omega) (memL_len ms)
theorem assign_t (now ms : List Int) (h : (ms.length : Int) < big) : (fnO W2 [(0, LA0.sp), (1, LA1.sp)] 100 Try.f14 [ints, ints] [ints] (now, ms, ())).all fun y => y = (asgL now ms, ()) := by
  rw [tAs]
  show Tree.all (α := List Int × Unit) _ (fun y => y = (asgL now ms, ()))
  simp only [all_leaf, all_fork, all_req, beq_iff_eq, beq_eq_false_iff_ne, ne_eq]
  refine ⟨h, h, fun c => by unfold asgL; rw [if_pos (by omega)], fun c => ?_⟩
  have hc : (memL ms).length ≠ 0 := by omega
  obtain ⟨q1, q2, q3⟩ := quotaL_all now ms hc
  obtain ⟨a1, a2, a3, a4⟩ := asg0_all now (memL ms) (fun x hx => (memL_nn ms x hx).1) 16 0 (List.replicate 16 0) (quotaL now ms) (by omega) (by simp) q2 q3 (by simp; omega)
  have h8 := memL_len ms
  rw [tab_eq a1]
  rw [tab_eq ((asg1_len _ _ _ _ _ _).trans a1)]
  refine ⟨⟨?_, q2, h8, by omega, by omega, q3⟩, ?_⟩
  · repeat' (first | exact trivial | rfl | apply And.intro)
  refine ⟨by repeat' (first | exact trivial | rfl | apply And.intro), ⟨?_, ?_, a2, h8, by omega, by omega, a3, ?_⟩, by repeat' (first | exact trivial | rfl | apply And.intro), ?_, ?_⟩
  all_goals first | exact a4 | omega | (unfold asgL; rw [if_neg hc]; rfl) | repeat' (first | exact trivial | rfl | apply And.intro)
theorem assign_own : PureOwnOK Try.prog 14 [ints, ints] [ints] (fun x => (List.length (α := Int) x.2.1 : Int) < big) (fun x => (asgL x.1 x.2.1, ())) :=
  fn_own (E := W2) (n := 100) W2_ok Try.func14 bodyAs (LpsOK.cons (lA0 0 LA0.sp rfl) (.cons lA1 .nil)) fun x h => assign_t x.1 x.2.1 h
theorem assign_ok : PureOK Try.prog 14 [ints, ints] [ints] (fun x => (List.length (α := Int) x.2.1 : Int) < big) (fun x => (asgL x.1 x.2.1, ())) := assign_own.pure
abbrev KAs : Nat × Sx.Spec := (14, pureSp [ints, ints] [ints] (fun x => (List.length (α := Int) x.2.1 : Int) < big) (fun x => (asgL x.1 x.2.1, ())))
abbrev KQu : Nat × Sx.Spec := (16, pureSp [ints, ints] [ints] (fun x => (List.length (α := Int) x.2.1 : Int) < big) (fun x => (quotaL x.1 x.2.1, ())))
end Pl
namespace Pl
open Go Sx Go.Proofs Go.RowKit
theorem fltB_congr (f g : Nat → Bool) : ∀ (c j : Nat), (∀ k, j ≤ k → k < j + c → f k = g k) → fltB f c j = fltB g c j
  | 0, _, _ => rfl
  | c + 1, j, h => by
    simp only [fltB]
    rw [h j (by omega) (by omega), fltB_congr f g c (j + 1) (fun k a b => h k (by omega) (by omega))]
theorem memL_congr {a b : List Int} (h : ∀ k : Nat, k < 8 → ((k : Int) ∈ a ↔ (k : Int) ∈ b)) : memL a = memL b := by
  unfold memL
  refine fltB_congr _ _ _ _ fun k _ h2 => ?_
  have := h k (by omega)
  simp only [List.contains_eq_mem, decide_eq_decide, this]
theorem asgL_congr {now a b : List Int} (h : memL a = memL b) : asgL now a = asgL now b := by
  unfold asgL quotaL; rw [h]
theorem quotaL_congr {now a b : List Int} (h : memL a = memL b) : quotaL now a = quotaL now b := by
  unfold quotaL; rw [h]
theorem asgM_len (now m q : List Int) : (asgM now m q).length = 16 := by
  unfold asgM
  rw [asg1_len]
  have : ∀ (c p : Nat) (to la : List Int), (asg0 now m c p to la).1.length = to.length := by
    intro c; induction c with
    | zero => intro p to la; rfl
    | succ c ih => intro p to la; simp only [asg0]; split <;> rw [ih] <;> simp
  rw [this]; simp
theorem asgL_len (now ms : List Int) : (asgL now ms).length ≤ 16 := by
  unfold asgL; split
  · simp
  · rw [asgM_len]; omega
theorem quotaL_len (now ms : List Int) : (quotaL now ms).length ≤ 8 := by
  by_cases h : (memL ms).length = 0
  · unfold quotaL; rw [if_pos h]; simp
  · have := (quotaL_all now ms h).2.1
    have := memL_len ms
    omega
theorem fltB_nodup (f : Nat → Bool) : ∀ c j, (fltB f c j).Nodup
  | 0, _ => by simp [fltB]
  | c + 1, j => by
    simp only [fltB]
    split
    · refine List.nodup_cons.2 ⟨fun h => ?_, fltB_nodup f c (j + 1)⟩
      obtain ⟨k, h1, _, _, h4⟩ := (fltB_mem _ _ _ _).1 h
      omega
    · exact fltB_nodup f c (j + 1)
theorem memL_nodup (ms : List Int) : (memL ms).Nodup := fltB_nodup _ _ _
theorem nodup_getD {l : List Int} (h : l.Nodup) {i j : Nat} (hi : i < l.length) (hj : j < l.length) (e : l.getD i 0 = l.getD j 0) : i = j := by
  rw [getD_get 0 hi, getD_get 0 hj] at e
  exact (List.getElem_inj h).1 e
theorem getD_set (l : List Int) (k i : Nat) (v : Int) (h : k < l.length) : (l.set k v).getD i 0 = if i = k then v else l.getD i 0 := by
  by_cases e : i = k
  · subst e; simp [h]
  · rw [if_neg e]; simp [List.getElem?_set, Ne.symm e]
theorem asg0_inv (now m q : List Int) (hm : ∀ x ∈ m, 0 ≤ x) (hd : m.Nodup) : ∀ (c p : Nat) (to la : List Int), p + c = 16 → to.length = 16 → la.length = m.length → (∀ x ∈ la, 0 ≤ x ∧ x ≤ 40) → ((to.take p).count (-1) : Int) + c = la.sum →
    (∀ k, k < p → to.getD k 0 = -1 ∨ to.getD k 0 ∈ m) → (∀ i, i < m.length → ((to.take p).count (m.getD i 0) : Int) + la.getD i 0 = q.getD i 0) →
    (asg0 now m c p to la).1.length = 16 ∧ (asg0 now m c p to la).2.length = m.length ∧ (∀ x ∈ (asg0 now m c p to la).2, 0 ≤ x ∧ x ≤ 40) ∧ ((asg0 now m c p to la).1.count (-1) : Int) = (asg0 now m c p to la).2.sum ∧
    (∀ k, k < 16 → (asg0 now m c p to la).1.getD k 0 = -1 ∨ (asg0 now m c p to la).1.getD k 0 ∈ m) ∧ (∀ i, i < m.length → ((asg0 now m c p to la).1.count (m.getD i 0) : Int) + (asg0 now m c p to la).2.getD i 0 = q.getD i 0)
  | 0, p, to, la, hp, ht, hl, hx, hs, ha, hq => by
    rw [List.take_of_length_le (by omega)] at hs
    refine ⟨ht, hl, hx, by simpa [asg0] using hs, fun k hk => ha k (by omega), fun i hi => ?_⟩
    have := hq i hi
    rw [List.take_of_length_le (by omega)] at this
    exact this
  | c + 1, p, to, la, hp, ht, hl, hx, hs, ha, hq => by
    obtain ⟨i1, i2, i3⟩ := indexF_range m (atL now (p : Int))
    simp only [asg0]
    split
    · rename_i t
      simp only [Bool.and_eq_true, decide_eq_true_eq] at t
      have hlt : (indexF m (atL now (p : Int))).toNat < la.length := by omega
      have hg : la.getD (indexF m (atL now (p : Int))).toNat 0 ∈ la := by rw [getD_get 0 hlt]; exact List.getElem_mem hlt
      have hb := hx _ hg
      have hv : m.getD (indexF m (atL now (p : Int))).toNat 0 ∈ m := getD_mem 0 t.1 i2
      have hv0 := hm _ hv
      refine asg0_inv now m q hm hd c (p + 1) _ _ (by omega) (by simp [ht]) (by simp [hl]) (fun x h => ?_) ?_ (fun k hk => ?_) (fun i hi => ?_)
      · rcases set_mem h with h | h
        · exact hx x h
        · omega
      · rw [set_take_succ _ (by omega), sum_set _ _ _ hlt, List.count_append, List.count_singleton, if_neg (fun z => by have := eq_of_beq z; omega)]
        omega
      · rw [getD_set _ _ _ _ (by omega)]
        split
        · exact .inr hv
        · exact ha k (by omega)
      · have h0 := hq i hi
        rw [set_take_succ _ (by omega), List.count_append, List.count_singleton, getD_set _ _ _ _ hlt]
        by_cases e : i = (indexF m (atL now (p : Int))).toNat
        · subst e
          rw [if_pos (beq_self_eq_true _), if_pos rfl]; omega
        · rw [if_neg (fun z => e (nodup_getD hd hi (by omega) (eq_of_beq z).symm)), if_neg e]; omega
    · refine asg0_inv now m q hm hd c (p + 1) _ _ (by omega) (by simp [ht]) hl hx ?_ (fun k hk => ?_) (fun i hi => ?_)
      · rw [set_take_succ _ (by omega), List.count_append, List.count_singleton, if_pos (by simp)]
        omega
      · rw [getD_set _ _ _ _ (by omega)]
        split
        · exact .inl rfl
        · exact ha k (by omega)
      · have h0 := hq i hi
        have hv : m.getD i 0 ∈ m := getD_mem (i := (i : Int)) 0 (by omega) (by omega)
        have hv0 := hm _ hv
        rw [set_take_succ _ (by omega), List.count_append, List.count_singleton, if_neg (fun z => by have := eq_of_beq z; omega)]
        omega
theorem count_set' (l : List Int) (k : Nat) (v a : Int) (h : k < l.length) : ((l.set k v).count a : Int) = l.count a - (if l.getD k 0 = a then 1 else 0) + (if v = a then 1 else 0) := by
  induction l generalizing k with
  | nil => simp at h
  | cons b l ih =>
    cases k with
    | zero =>
      simp only [List.set_cons_zero, List.count_cons, List.getD_cons_zero, beq_iff_eq]
      split <;> split <;> simp <;> omega
    | succ k =>
      have := ih k (by simpa using h)
      simp only [List.set_cons_succ, List.count_cons, List.getD_cons_succ, beq_iff_eq]
      split <;> omega
theorem asg1_inv (m t0 q : List Int) (hm : ∀ x ∈ m, 0 ≤ x) (hd : m.Nodup) (hz : t0.length = 16) : ∀ (c p : Nat) (to la : List Int), p + c = 16 → to.length = 16 → la.length = m.length → (∀ x ∈ la, 0 ≤ x ∧ x ≤ 40) → ((t0.drop p).count (-1) : Int) = la.sum →
    (∀ k, k < p → to.getD k 0 ∈ m) → (∀ k, p ≤ k → k < 16 → to.getD k 0 = t0.getD k 0 ∧ (t0.getD k 0 = -1 ∨ t0.getD k 0 ∈ m)) → (∀ i, i < m.length → (to.count (m.getD i 0) : Int) + la.getD i 0 = q.getD i 0) →
    (asg1 m t0 c p to la).2.sum = 0 ∧ (asg1 m t0 c p to la).2.length = m.length ∧ (∀ x ∈ (asg1 m t0 c p to la).2, 0 ≤ x ∧ x ≤ 40) ∧
    (∀ k, k < 16 → (asg1 m t0 c p to la).1.getD k 0 ∈ m) ∧ (∀ i, i < m.length → ((asg1 m t0 c p to la).1.count (m.getD i 0) : Int) + (asg1 m t0 c p to la).2.getD i 0 = q.getD i 0) ∧ (∀ k, t0.getD k 0 ≠ -1 → (asg1 m t0 c p to la).1.getD k 0 = to.getD k 0) ∧ (∀ k, k < p → (asg1 m t0 c p to la).1.getD k 0 = to.getD k 0)
  | 0, p, to, la, hp, ht, hl, hx, hs, ha, hb, hq => by
    rw [List.drop_eq_nil_of_le (by omega)] at hs
    exact ⟨by simpa [asg1] using hs.symm, hl, hx, fun k hk => ha k (by omega), hq, fun _ _ => rfl, fun _ _ => rfl⟩
  | c + 1, p, to, la, hp, ht, hl, hx, hs, ha, hb, hq => by
    have hdr := drop_cons (l := t0) (i := (p : Int)) 0 (by omega) (by omega)
    have e3 : ((p : Int) + 1).toNat = p + 1 := by omega
    rw [e3, Int.toNat_natCast] at hdr
    rw [hdr, List.count_cons] at hs
    have hbp := hb p (by omega) (by omega)
    simp only [asg1]
    split
    · rename_i t
      have t' : t0.getD p 0 = -1 := by simpa using t
      rw [if_pos (by rw [t']; rfl)] at hs
      obtain ⟨p1, p2, p3⟩ := pick_range m la to (p : Int) hl (by omega)
      have hlt : (pick m la to (p : Int)).toNat < la.length := by omega
      have hg : la.getD (pick m la to (p : Int)).toNat 0 ∈ la := by rw [getD_get 0 hlt]; exact List.getElem_mem hlt
      have hbd := hx _ hg
      have hv : m.getD (pick m la to (p : Int)).toNat 0 ∈ m := getD_mem 0 p1 p2
      obtain ⟨r1, r2, r3, r4, r5, r6, r7⟩ := asg1_inv m t0 q hm hd hz c (p + 1) (to.set p (m.getD (pick m la to (p : Int)).toNat 0)) (la.set (pick m la to (p : Int)).toNat (la.getD (pick m la to (p : Int)).toNat 0 - 1)) (by omega) (by simp [ht]) (by simp [hl]) (fun x h => by
          rcases set_mem h with h | h
          · exact hx x h
          · omega) (by rw [sum_set _ _ _ hlt]; omega) (fun k hk => by
          rw [getD_set _ _ _ _ (by omega)]
          split
          · exact hv
          · exact ha k (by omega)) (fun k h1 h2 => by
          rw [getD_set _ _ _ _ (by omega), if_neg (by omega)]
          exact hb k (by omega) h2) (fun i hi => by
          have h0 := hq i hi
          have hvi : m.getD i 0 ∈ m := getD_mem (i := (i : Int)) 0 (by omega) (by omega)
          have hvi0 := hm _ hvi
          rw [count_set' _ _ _ _ (by omega), getD_set _ _ _ _ hlt, if_neg (by rw [hbp.1]; omega)]
          by_cases e : i = (pick m la to (p : Int)).toNat
          · subst e
            rw [if_pos rfl, if_pos rfl]; omega
          · rw [if_neg (fun z => e (nodup_getD hd hi (by omega) z.symm)), if_neg e]; omega)
      refine ⟨r1, r2, r3, r4, r5, fun k hk => ?_, fun k hk => ?_⟩
      · rw [r6 k hk, getD_set _ _ _ _ (by omega), if_neg (fun e => hk (by rw [e, t']))]
      · rw [r7 k (by omega), getD_set _ _ _ _ (by omega), if_neg (by omega)]
    · rename_i t
      have t' : t0.getD p 0 ≠ -1 := by simpa using t
      rw [if_neg (by simpa using t')] at hs
      obtain ⟨r1, r2, r3, r4, r5, r6, r7⟩ := asg1_inv m t0 q hm hd hz c (p + 1) to la (by omega) ht hl hx (by omega) (fun k hk => by
          by_cases e : k = p
          · subst e; rw [hbp.1]; exact hbp.2.resolve_left t'
          · exact ha k (by omega)) (fun k h1 h2 => hb k (by omega) h2) hq
      exact ⟨r1, r2, r3, r4, r5, r6, fun k hk => r7 k (by omega)⟩
theorem zero_of_sum : ∀ (l : List Int), (∀ x ∈ l, 0 ≤ x) → l.sum = 0 → ∀ i, l.getD i 0 = 0
  | [], _, _, i => by simp
  | a :: l, h, hs, i => by
    have h1 := h a (by simp)
    have h2 : 0 ≤ l.sum := by
      have h3 : ∀ x ∈ l, 0 ≤ x := fun x hx => h x (by simp [hx])
      clear hs h h1
      induction l with
      | nil => simp
      | cons b l ih => have := h3 b (by simp); have := ih (fun x hx => h3 x (by simp [hx])); simp only [List.sum_cons]; omega
    simp only [List.sum_cons] at hs
    cases i with
    | zero => simp; omega
    | succ i => simpa using zero_of_sum l (fun x hx => h x (by simp [hx])) (by omega) i
theorem asgM_all (now m q : List Int) (hm : ∀ x ∈ m, 0 ≤ x) (hd : m.Nodup) (h1 : q.sum = 16) (h2 : q.length = m.length) (h3 : ∀ x ∈ q, 0 ≤ x ∧ x ≤ 40) :
    (∀ k, k < 16 → (asgM now m q).getD k 0 ∈ m) ∧ (∀ i, i < m.length → ((asgM now m q).count (m.getD i 0) : Int) = q.getD i 0) ∧ (∀ k, (asg0 now m 16 0 (List.replicate 16 0) q).1.getD k 0 ≠ -1 → (asgM now m q).getD k 0 = (asg0 now m 16 0 (List.replicate 16 0) q).1.getD k 0) := by
  obtain ⟨a1, a2, a3, a4, a5, a6⟩ := asg0_inv now m q hm hd 16 0 (List.replicate 16 0) q (by omega) (by simp) h2 h3 (by simp; omega) (fun k hk => by omega) (fun i hi => by simp)
  unfold asgM
  generalize asg0 now m 16 0 (List.replicate 16 0) q = r at *
  obtain ⟨r1, r2, r3, r4, r5, r6, r7⟩ := asg1_inv m r.1 q hm hd a1 16 0 r.1 r.2 (by omega) a1 a2 a3 (by simpa using a4) (fun k hk => by omega) (fun k _ hk => ⟨rfl, a5 k hk⟩) a6
  refine ⟨r4, fun i hi => ?_, r6⟩
  have := r5 i hi
  rw [zero_of_sum _ (fun x hx => (r3 x hx).1) r1 i] at this
  omega
theorem memL_idem (ms : List Int) : memL (memL ms) = memL ms := memL_congr fun k hk => by
  constructor
  · intro h
    obtain ⟨j, _, _, h4, h5⟩ := (fltB_mem _ _ _ _).1 h
    have e : j = k := by omega
    subst e
    simpa using h4
  · exact fun h => (fltB_mem _ _ _ _).2 ⟨k, by omega, by omega, by simpa using h, rfl⟩
theorem memL_iff (ms : List Int) (x : Int) : x ∈ memL ms ↔ x ∈ ms ∧ 0 ≤ x ∧ x < 8 := by
  constructor
  · intro h
    obtain ⟨j, _, h3, h4, h5⟩ := (fltB_mem _ _ _ _).1 h
    subst h5
    exact ⟨by simpa using h4, by omega, by omega⟩
  · rintro ⟨h1, h2, h3⟩
    exact (fltB_mem _ _ _ _).2 ⟨x.toNat, by omega, by omega, by rw [Int.toNat_of_nonneg h2]; simpa using h1, by omega⟩
theorem asgL_all (now ms : List Int) (h : (memL ms).length ≠ 0) :
    (asgL now ms).length = 16 ∧ (∀ k, k < 16 → (asgL now ms).getD k 0 ∈ memL ms) ∧ (∀ i, i < (memL ms).length → ((asgL now ms).count ((memL ms).getD i 0) : Int) = (quotaL now ms).getD i 0) := by
  obtain ⟨q1, q2, q3⟩ := quotaL_all now ms h
  have := asgM_all now (memL ms) (quotaL now ms) (fun x hx => (memL_nn ms x hx).1) (memL_nodup ms) q1 q2 q3
  unfold asgL
  rw [if_neg h]
  exact ⟨asgM_len _ _ _, this.1, this.2.1⟩
theorem cntB_congr (f g : Nat → Bool) : ∀ (c j : Nat), (∀ k, j ≤ k → k < j + c → f k = g k) → cntB f c j = cntB g c j
  | 0, _, _ => rfl
  | c + 1, j, h => by
    simp only [cntB]
    rw [h j (by omega) (by omega), cntB_congr f g c (j + 1) (fun k a b => h k (by omega) (by omega))]
theorem cntB_const (b : Bool) : ∀ (c j : Nat), cntB (fun _ => b) c j = if b then (c : Int) else 0
  | 0, _ => by cases b <;> rfl
  | c + 1, j => by
    simp only [cntB, cntB_const b c (j + 1)]
    cases b <;> simp <;> omega
theorem cntB_all {f : Nat → Bool} {b : Bool} {c j : Nat} (h : ∀ k, j ≤ k → k < j + c → f k = b) : cntB f c j = if b then (c : Int) else 0 := by
  rw [cntB_congr f (fun _ => b) c j h, cntB_const]
theorem qLoop_congr {now now' : List Int} (e : Int) (b : Bool) : ∀ (l : List Int) (i : Int) (out : List Int) (m : Int), (∀ x ∈ l, hasL now x = hasL now' x) → qLoop now e b l i out m = qLoop now' e b l i out m
  | [], _, _, _, _ => rfl
  | x :: r, i, out, m, h => by
    simp only [qLoop]
    rw [h x (by simp)]
    split
    · exact qLoop_congr e b r _ _ _ fun y hy => h y (by simp [hy])
    · exact qLoop_congr e b r _ _ _ fun y hy => h y (by simp [hy])
theorem quotaL_has {now now' ms : List Int} (h : ∀ x ∈ memL ms, hasL now x = hasL now' x) : quotaL now ms = quotaL now' ms := by
  unfold quotaL quotaM
  simp only [qLoop_congr _ _ _ _ _ _ h]
theorem asg0_congr {now now' m : List Int} (h : ∀ p : Nat, p < 16 → indexF m (atL now (p : Int)) = indexF m (atL now' (p : Int))) : ∀ (c p : Nat) (to la : List Int), p + c = 16 → asg0 now m c p to la = asg0 now' m c p to la
  | 0, _, _, _, _ => rfl
  | c + 1, p, to, la, hp => by
    simp only [asg0]
    rw [h p (by omega)]
    split
    · exact asg0_congr h c (p + 1) _ _ (by omega)
    · exact asg0_congr h c (p + 1) _ _ (by omega)
theorem hasL_zero {now : List Int} {x : Int} (h : ∀ p : Nat, p < 16 → atL now (p : Int) ≠ x) : hasL now x = 0 := by
  unfold hasL
  rw [cntB_all (b := false) (fun k _ hk => by simpa using h k (by omega))]; rfl
theorem index_none {m : List Int} {v : Int} (h : v ∉ m) : indexF m v = -1 := by
  unfold indexF
  rw [if_neg (by simpa using h)]
theorem far {now ms : List Int} (h : ∀ p : Nat, p < 16 → atL now (p : Int) ∉ memL ms) : quotaL now ms = quotaL [] ms ∧ asgL now ms = asgL [] ms := by
  have h0 : ∀ p : Nat, atL [] (p : Int) ∉ memL ms := fun p hp => by
    have := (memL_nn ms _ hp).1
    have e : atL [] (p : Int) = -1 := by unfold atL; rw [if_neg (by simp)]
    omega
  have hq : quotaL now ms = quotaL [] ms := quotaL_has fun x hx => by
    rw [hasL_zero (fun p hp e => h p hp (e ▸ hx)), hasL_zero (fun p hp e => h0 p (e ▸ hx))]
  refine ⟨hq, ?_⟩
  unfold asgL
  rw [hq]
  split
  · rfl
  · unfold asgM
    rw [asg0_congr (now := now) (now' := []) (fun p hp => by rw [index_none (h p hp), index_none (h0 p)]) 16 0 _ _ (by omega)]
theorem atL_in {l : List Int} (h : l.length = 16) {p : Nat} (hp : p < 16) : atL l (p : Int) = l.getD p 0 := by
  unfold atL
  rw [if_pos (by omega), Int.toNat_natCast]
end Pl
