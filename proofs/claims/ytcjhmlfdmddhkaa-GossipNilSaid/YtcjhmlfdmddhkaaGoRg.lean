import Derived.Test.YtcjhmlfdmddhkaaGoEn
namespace Pl
open Go Sx Go.Proofs Go.RowKit
abbrev Ring : Ty := .cat (.rep 8 i64) (.cat Plan (.rep 16 Entry))
abbrev RingD : Type := List Int × PlanD × List EntryD
def stC (r : RingD) : List SV := [.int .i64 (r.1.getD 0 0), .int .i64 (r.1.getD 1 0), .int .i64 (r.1.getD 2 0), .int .i64 (r.1.getD 3 0), .int .i64 (r.1.getD 4 0), .int .i64 (r.1.getD 5 0), .int .i64 (r.1.getD 6 0), .int .i64 (r.1.getD 7 0)]
def rgC (r : RingD) (id : Nat) : List SV := [.int .i64 (r.1.getD 0 0), .int .i64 (r.1.getD 1 0), .int .i64 (r.1.getD 2 0), .int .i64 (r.1.getD 3 0), .int .i64 (r.1.getD 4 0), .int .i64 (r.1.getD 5 0), .int .i64 (r.1.getD 6 0), .int .i64 (r.1.getD 7 0), .int .i64 r.2.1.1, .int .i64 r.2.1.2.1, .row id, .int .i64 (r.2.2.getD 0 (0, 0)).1, .int .i64 (r.2.2.getD 0 (0, 0)).2, .int .i64 (r.2.2.getD 1 (0, 0)).1, .int .i64 (r.2.2.getD 1 (0, 0)).2, .int .i64 (r.2.2.getD 2 (0, 0)).1, .int .i64 (r.2.2.getD 2 (0, 0)).2, .int .i64 (r.2.2.getD 3 (0, 0)).1, .int .i64 (r.2.2.getD 3 (0, 0)).2, .int .i64 (r.2.2.getD 4 (0, 0)).1, .int .i64 (r.2.2.getD 4 (0, 0)).2, .int .i64 (r.2.2.getD 5 (0, 0)).1, .int .i64 (r.2.2.getD 5 (0, 0)).2, .int .i64 (r.2.2.getD 6 (0, 0)).1, .int .i64 (r.2.2.getD 6 (0, 0)).2, .int .i64 (r.2.2.getD 7 (0, 0)).1, .int .i64 (r.2.2.getD 7 (0, 0)).2, .int .i64 (r.2.2.getD 8 (0, 0)).1, .int .i64 (r.2.2.getD 8 (0, 0)).2, .int .i64 (r.2.2.getD 9 (0, 0)).1, .int .i64 (r.2.2.getD 9 (0, 0)).2, .int .i64 (r.2.2.getD 10 (0, 0)).1, .int .i64 (r.2.2.getD 10 (0, 0)).2, .int .i64 (r.2.2.getD 11 (0, 0)).1, .int .i64 (r.2.2.getD 11 (0, 0)).2, .int .i64 (r.2.2.getD 12 (0, 0)).1, .int .i64 (r.2.2.getD 12 (0, 0)).2, .int .i64 (r.2.2.getD 13 (0, 0)).1, .int .i64 (r.2.2.getD 13 (0, 0)).2, .int .i64 (r.2.2.getD 14 (0, 0)).1, .int .i64 (r.2.2.getD 14 (0, 0)).2, .int .i64 (r.2.2.getD 15 (0, 0)).1, .int .i64 (r.2.2.getD 15 (0, 0)).2]
def okR (r : RingD) : Prop := r.1.length = 8 ∧ r.2.2.length = 16
abbrev S1r : TDs [Ring] → Prop := fun x => okR x.1 ∧ (List.length (α := Int) x.1.2.1.2.2 : Int) < small
abbrev S2r : TDs [Ring, Ring] → Prop := fun x => okR x.1 ∧ okR x.2.1 ∧ (List.length (α := Int) x.1.2.1.2.2 : Int) < small ∧ (List.length (α := Int) x.2.1.2.1.2.2 : Int) < small
noncomputable abbrev KpJ : Nat × Sx.Spec := (37, pureSp [Plan, Plan] [Plan] S2 (fun x => (joinP x.1 x.2.1, ())))
noncomputable abbrev KpS : Nat × Sx.Spec := (32, pureSp [Plan, Plan] [.bool] S2 (fun x => (cmpP x.1 x.2.1 == 0, ())))
noncomputable abbrev KpM : Nat × Sx.Spec := (34, pureSp [Plan] [.bool] (fun x => (List.length (α := Int) x.1.2.2 : Int) < big) (fun x => (mayB x.1, ())))
noncomputable abbrev KeJ : Nat × Sx.Spec := (38, pureSp [Entry, Entry] [Entry] (fun _ => True) (fun x => (joinE x.1 x.2.1, ())))
noncomputable abbrev KeM : Nat × Sx.Spec := (33, pureSp [Entry] [.bool] (fun _ => True) (fun x => (mayE x.1, ())))
noncomputable abbrev Q1 : Ex := mkEx Try.prog [KpJ, KeJ]
theorem Q1_ok : Q1.Sound := mkEx_sound ⟨pureSp_ok join_ok, pureSp_ok ejoin_ok, trivial⟩
theorem bodyJ : Try.f22.body = some (bodyOf Try.f22) := by kernel_rfl
theorem tJ (a b : RingD) : @Eq _
  (fnT Q1 [] 100 Try.f22 [Ring, Ring] [Ring] (a, b, ()))
  (.req ((↑a.2.1.2.2.length : Int) < (17592186044416 : Int) ∧ (↑b.2.1.2.2.length : Int) < (17592186044416 : Int)) (
 .req (True) (
  .req (True) (
   .req (True) (
    .req (True) (
     .req (True) (
      .req (True) (
       .req (True) (
        .req (True) (
         .req (True) (
          .req (True) (
           .req (True) (
            .req (True) (
             .req (True) (
              .req (True) (
               .req (True) (
                .req (True) (
                 .leaf (((tabL 8 fun j => if b.1.getD j (0 : Int) > a.1.getD j (0 : Int) then b.1.getD j (0 : Int) else a.1.getD j (0 : Int), Pl.joinP a.2.1 b.2.1, tabL 16 fun j => Pl.joinE (a.2.2.getD j ((0 : Int), (0 : Int))) (b.2.2.getD j ((0 : Int), (0 : Int)))), ()))))))))))))))))))) : Tree ((List Int × (Int × Int × List Int) × List (Int × Int)) × PUnit)) := by kernel_rfl
noncomputable abbrev Q2 : Ex := mkEx Try.prog [KpS]
theorem Q2_ok : Q2.Sound := mkEx_sound ⟨pureSp_ok psame_ok, trivial⟩
theorem bodyS : Try.f18.body = some (bodyOf Try.f18) := by kernel_rfl
theorem tS (a b : RingD) : @Eq _
  (fnT Q2 [] 100 Try.f18 [Ring, Ring] [.bool] (a, b, ()))
  (.fork (a.1.getD 0 (0 : Int) == b.1.getD 0 (0 : Int) && (a.1.getD 1 (0 : Int) == b.1.getD 1 (0 : Int) && (a.1.getD 2 (0 : Int) == b.1.getD 2 (0 : Int) && (a.1.getD 3 (0 : Int) == b.1.getD 3 (0 : Int) && (a.1.getD 4 (0 : Int) == b.1.getD 4 (0 : Int) && (a.1.getD 5 (0 : Int) == b.1.getD 5 (0 : Int) && (a.1.getD 6 (0 : Int) == b.1.getD 6 (0 : Int) && (a.1.getD 7 (0 : Int) == b.1.getD 7 (0 : Int) && true)))))))) (
 .fork ((a.2.2.getD 0 ((0 : Int), (0 : Int))).1 == (b.2.2.getD 0 ((0 : Int), (0 : Int))).1 && ((a.2.2.getD 0 ((0 : Int), (0 : Int))).2 == (b.2.2.getD 0 ((0 : Int), (0 : Int))).2 && true) && ((a.2.2.getD 1 ((0 : Int), (0 : Int))).1 == (b.2.2.getD 1 ((0 : Int), (0 : Int))).1 && ((a.2.2.getD 1 ((0 : Int), (0 : Int))).2 == (b.2.2.getD 1 ((0 : Int), (0 : Int))).2 && true) && ((a.2.2.getD 2 ((0 : Int), (0 : Int))).1 == (b.2.2.getD 2 ((0 : Int), (0 : Int))).1 && ((a.2.2.getD 2 ((0 : Int), (0 : Int))).2 == (b.2.2.getD 2 ((0 : Int), (0 : Int))).2 && true) && ((a.2.2.getD 3 ((0 : Int), (0 : Int))).1 == (b.2.2.getD 3 ((0 : Int), (0 : Int))).1 && ((a.2.2.getD 3 ((0 : Int), (0 : Int))).2 == (b.2.2.getD 3 ((0 : Int), (0 : Int))).2 && true) && ((a.2.2.getD 4 ((0 : Int), (0 : Int))).1 == (b.2.2.getD 4 ((0 : Int), (0 : Int))).1 && ((a.2.2.getD 4 ((0 : Int), (0 : Int))).2 == (b.2.2.getD 4 ((0 : Int), (0 : Int))).2 && true) && ((a.2.2.getD 5 ((0 : Int), (0 : Int))).1 == (b.2.2.getD 5 ((0 : Int), (0 : Int))).1 && ((a.2.2.getD 5 ((0 : Int), (0 : Int))).2 == (b.2.2.getD 5 ((0 : Int), (0 : Int))).2 && true) && ((a.2.2.getD 6 ((0 : Int), (0 : Int))).1 == (b.2.2.getD 6 ((0 : Int), (0 : Int))).1 && ((a.2.2.getD 6 ((0 : Int), (0 : Int))).2 == (b.2.2.getD 6 ((0 : Int), (0 : Int))).2 && true) && ((a.2.2.getD 7 ((0 : Int), (0 : Int))).1 == (b.2.2.getD 7 ((0 : Int), (0 : Int))).1 && ((a.2.2.getD 7 ((0 : Int), (0 : Int))).2 == (b.2.2.getD 7 ((0 : Int), (0 : Int))).2 && true) && ((a.2.2.getD 8 ((0 : Int), (0 : Int))).1 == (b.2.2.getD 8 ((0 : Int), (0 : Int))).1 && ((a.2.2.getD 8 ((0 : Int), (0 : Int))).2 == (b.2.2.getD 8 ((0 : Int), (0 : Int))).2 && true) && ((a.2.2.getD 9 ((0 : Int), (0 : Int))).1 == (b.2.2.getD 9 ((0 : Int), (0 : Int))).1 && ((a.2.2.getD 9 ((0 : Int), (0 : Int))).2 == (b.2.2.getD 9 ((0 : Int), (0 : Int))).2 && true) && ((a.2.2.getD 10 ((0 : Int), (0 : Int))).1 == (b.2.2.getD 10 ((0 : Int), (0 : Int))).1 && ((a.2.2.getD 10 ((0 : Int), (0 : Int))).2 == (b.2.2.getD 10 ((0 : Int), (0 : Int))).2 && true) && ((a.2.2.getD 11 ((0 : Int), (0 : Int))).1 == (b.2.2.getD 11 ((0 : Int), (0 : Int))).1 && ((a.2.2.getD 11 ((0 : Int), (0 : Int))).2 == (b.2.2.getD 11 ((0 : Int), (0 : Int))).2 && true) && ((a.2.2.getD 12 ((0 : Int), (0 : Int))).1 == (b.2.2.getD 12 ((0 : Int), (0 : Int))).1 && ((a.2.2.getD 12 ((0 : Int), (0 : Int))).2 == (b.2.2.getD 12 ((0 : Int), (0 : Int))).2 && true) && ((a.2.2.getD 13 ((0 : Int), (0 : Int))).1 == (b.2.2.getD 13 ((0 : Int), (0 : Int))).1 && ((a.2.2.getD 13 ((0 : Int), (0 : Int))).2 == (b.2.2.getD 13 ((0 : Int), (0 : Int))).2 && true) && ((a.2.2.getD 14 ((0 : Int), (0 : Int))).1 == (b.2.2.getD 14 ((0 : Int), (0 : Int))).1 && ((a.2.2.getD 14 ((0 : Int), (0 : Int))).2 == (b.2.2.getD 14 ((0 : Int), (0 : Int))).2 && true) && ((a.2.2.getD 15 ((0 : Int), (0 : Int))).1 == (b.2.2.getD 15 ((0 : Int), (0 : Int))).1 && ((a.2.2.getD 15 ((0 : Int), (0 : Int))).2 == (b.2.2.getD 15 ((0 : Int), (0 : Int))).2 && true) && true)))))))))))))))) (
  .req ((↑a.2.1.2.2.length : Int) < (17592186044416 : Int) ∧ (↑b.2.1.2.2.length : Int) < (17592186044416 : Int)) (
   .leaf ((Pl.cmpP a.2.1 b.2.1 == (0 : Int), ())))) (
  .leaf ((false, ())))) (
 .leaf ((false, ()))) : Tree (Bool × PUnit)) := by kernel_rfl
noncomputable abbrev Q3 : Ex := mkEx Try.prog [KeM]
theorem Q3_ok : Q3.Sound := mkEx_sound ⟨pureSp_ok emay_ok, trivial⟩
theorem bodyM1 : Try.f36.body = some (bodyOf Try.f36) := by kernel_rfl
theorem bodyM2 : Try.f58.body = some (bodyOf Try.f58) := by kernel_rfl
theorem bodyM3 : Try.f35.body = some (bodyOf Try.f35) := by kernel_rfl
theorem bodyM : Try.f20.body = some (bodyOf Try.f20) := by kernel_rfl
noncomputable abbrev Q4 : Ex := mkEx Try.prog [(36, fnI Q3 [] 100 Try.f36)]
theorem Q4_ok : Q4.Sound := mkEx_sound ⟨fnI_ok (E := Q3) Q3_ok Try.func36 bodyM1 .nil, trivial⟩
noncomputable abbrev Q5 : Ex := mkEx Try.prog [(58, fnI Q4 [] 100 Try.f58)]
theorem Q5_ok : Q5.Sound := mkEx_sound ⟨fnI_ok (E := Q4) Q4_ok Try.func58 bodyM2 .nil, trivial⟩
noncomputable abbrev Q6 : Ex := mkEx Try.prog [KpM, (35, fnI Q5 [] 100 Try.f35)]
theorem Q6_ok : Q6.Sound := mkEx_sound ⟨pureSp_ok may_ok, fnI_ok (E := Q5) Q5_ok Try.func35 bodyM3 .nil, trivial⟩
theorem tM (a : RingD) : @Eq _
  (fnT Q6 [] 100 Try.f20 [Ring] [.bool] (a, ()))
  (.fork (decide (a.1.getD 0 (0 : Int) < (0 : Int))) (
 .leaf ((false, ()))) (
 .fork (decide (a.1.getD 0 (0 : Int) > (4 : Int))) (
  .leaf ((false, ()))) (
  .fork (decide (a.1.getD 1 (0 : Int) < (0 : Int))) (
   .leaf ((false, ()))) (
   .fork (decide (a.1.getD 1 (0 : Int) > (4 : Int))) (
    .leaf ((false, ()))) (
    .fork (decide (a.1.getD 2 (0 : Int) < (0 : Int))) (
     .leaf ((false, ()))) (
     .fork (decide (a.1.getD 2 (0 : Int) > (4 : Int))) (
      .leaf ((false, ()))) (
      .fork (decide (a.1.getD 3 (0 : Int) < (0 : Int))) (
       .leaf ((false, ()))) (
       .fork (decide (a.1.getD 3 (0 : Int) > (4 : Int))) (
        .leaf ((false, ()))) (
        .fork (decide (a.1.getD 4 (0 : Int) < (0 : Int))) (
         .leaf ((false, ()))) (
         .fork (decide (a.1.getD 4 (0 : Int) > (4 : Int))) (
          .leaf ((false, ()))) (
          .fork (decide (a.1.getD 5 (0 : Int) < (0 : Int))) (
           .leaf ((false, ()))) (
           .fork (decide (a.1.getD 5 (0 : Int) > (4 : Int))) (
            .leaf ((false, ()))) (
            .fork (decide (a.1.getD 6 (0 : Int) < (0 : Int))) (
             .leaf ((false, ()))) (
             .fork (decide (a.1.getD 6 (0 : Int) > (4 : Int))) (
              .leaf ((false, ()))) (
              .fork (decide (a.1.getD 7 (0 : Int) < (0 : Int))) (
               .leaf ((false, ()))) (
               .fork (decide (a.1.getD 7 (0 : Int) > (4 : Int))) (
                .leaf ((false, ()))) (
                .req ((↑a.2.1.2.2.length : Int) < (4611686018427387904 : Int)) (
                 .fork (Pl.mayB a.2.1) (
                  .req (True) (
                   .fork (!Pl.mayE (a.2.2.getD 0 ((0 : Int), (0 : Int)))) (
                    .leaf ((false, ()))) (
                    .req (True) (
                     .fork (!Pl.mayE (a.2.2.getD 1 ((0 : Int), (0 : Int)))) (
                      .leaf ((false, ()))) (
                      .req (True) (
                       .fork (!Pl.mayE (a.2.2.getD 2 ((0 : Int), (0 : Int)))) (
                        .leaf ((false, ()))) (
                        .req (True) (
                         .fork (!Pl.mayE (a.2.2.getD 3 ((0 : Int), (0 : Int)))) (
                          .leaf ((false, ()))) (
                          .req (True) (
                           .fork (!Pl.mayE (a.2.2.getD 4 ((0 : Int), (0 : Int)))) (
                            .leaf ((false, ()))) (
                            .req (True) (
                             .fork (!Pl.mayE (a.2.2.getD 5 ((0 : Int), (0 : Int)))) (
                              .leaf ((false, ()))) (
                              .req (True) (
                               .fork (!Pl.mayE (a.2.2.getD 6 ((0 : Int), (0 : Int)))) (
                                .leaf ((false, ()))) (
                                .req (True) (
                                 .fork (!Pl.mayE (a.2.2.getD 7 ((0 : Int), (0 : Int)))) (
                                  .leaf ((false, ()))) (
                                  .req (True) (
                                   .fork (!Pl.mayE (a.2.2.getD 8 ((0 : Int), (0 : Int)))) (
                                    .leaf ((false, ()))) (
                                    .req (True) (
                                     .fork (!Pl.mayE (a.2.2.getD 9 ((0 : Int), (0 : Int)))) (
                                      .leaf ((false, ()))) (
                                      .req (True) (
                                       .fork (!Pl.mayE (a.2.2.getD 10 ((0 : Int), (0 : Int)))) (
                                        .leaf ((false, ()))) (
                                        .req (True) (
                                         .fork (!Pl.mayE (a.2.2.getD 11 ((0 : Int), (0 : Int)))) (
                                          .leaf ((false, ()))) (
                                          .req (True) (
                                           .fork (!Pl.mayE (a.2.2.getD 12 ((0 : Int), (0 : Int)))) (
                                            .leaf ((false, ()))) (
                                            .req (True) (
                                             .fork (!Pl.mayE (a.2.2.getD 13 ((0 : Int), (0 : Int)))) (
                                              .leaf ((false, ()))) (
                                              .req (True) (
                                               .fork (!Pl.mayE (a.2.2.getD 14 ((0 : Int), (0 : Int)))) (
                                                .leaf ((false, ()))) (
                                                .req (True) (
                                                 .fork (!Pl.mayE (a.2.2.getD 15 ((0 : Int), (0 : Int)))) (
                                                  .leaf ((false, ()))) (
                                                  .leaf ((true, ()))))))))))))))))))))))))))))))))))) (
                  .leaf ((false, ())))))))))))))))))))) : Tree (Bool × PUnit)) := by kernel_rfl
def mxI (x y : Int) : Int := if y > x then y else x
def joinR (a b : RingD) : RingD := (tabL 8 (fun j => mxI (a.1.getD j 0) (b.1.getD j 0)), joinP a.2.1 b.2.1, tabL 16 (fun j => joinE (a.2.2.getD j (0, 0)) (b.2.2.getD j (0, 0))))
theorem rjoin_ok : PureOK Try.prog 22 [Ring, Ring] [Ring] S2r (fun x => (joinR x.1 x.2.1, ())) :=
  fn_pure (E := Q1) (n := 100) Q1_ok Try.func22 bodyJ .nil fun x h => Tree.all_eq (tJ x.1 x.2.1) (by
    obtain ⟨h1, h2, h3, h4⟩ := h
    simp only [Tree.all, true_and]
    exact ⟨⟨h3, h4⟩, rfl⟩)
theorem eqPI {a b c d : Int} : (a == c && (b == d && true)) = decide ((a, b) = (c, d)) := by
  rw [Bool.eq_iff_iff]; simp
theorem eq8 {a b : List Int} (ha : a.length = 8) (hb : b.length = 8) : (a.getD 0 0 == b.getD 0 0 && (a.getD 1 0 == b.getD 1 0 && (a.getD 2 0 == b.getD 2 0 && (a.getD 3 0 == b.getD 3 0 && (a.getD 4 0 == b.getD 4 0 && (a.getD 5 0 == b.getD 5 0 && (a.getD 6 0 == b.getD 6 0 && (a.getD 7 0 == b.getD 7 0 && true)))))))) = decide (a = b) := by
  obtain ⟨a0, a1, a2, a3, a4, a5, a6, a7, rfl⟩ := len8 ha
  obtain ⟨b0, b1, b2, b3, b4, b5, b6, b7, rfl⟩ := len8 hb
  rw [Bool.eq_iff_iff]; simp
def sameR (a b : RingD) : Bool := decide (a = b)
end Pl
