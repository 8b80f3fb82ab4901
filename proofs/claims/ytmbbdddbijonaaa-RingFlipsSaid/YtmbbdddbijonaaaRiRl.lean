import Derived.Test.YtmbbdddbijonaaaRiRg6
import Derived.Test.YtmbbdddbijonaaaRiPlR
namespace Pl
open Go Sx Go.Proofs Go.RowKit
abbrev KSr : Nat × Sx.Spec := (29, pureSp [Plan, Plan] [i64] (fun x => (List.length (α := Int) x.1.2.2 : Int) < big) (fun x => (cmpP x.1 x.2.1, ())))
noncomputable abbrev V1 : Ex := mkEx Try.prog [KSr]
theorem V1_ok : V1.Sound := mkEx_sound ⟨pureSp_ok Rf.rcompare_ok, trivial⟩
theorem bodyS7 : Try.f14.body = some (bodyOf Try.f14) := by kernel_rfl
theorem tS7 (a b : RingD) : @Eq _
  (fnT V1 [] 100 Try.f14 [Ring, Ring] [.bool] (a, b, ()))
  (.fork (a.1.getD 0 (0 : Int) == b.1.getD 0 (0 : Int) && (a.1.getD 1 (0 : Int) == b.1.getD 1 (0 : Int) && (a.1.getD 2 (0 : Int) == b.1.getD 2 (0 : Int) && (a.1.getD 3 (0 : Int) == b.1.getD 3 (0 : Int) && (a.1.getD 4 (0 : Int) == b.1.getD 4 (0 : Int) && (a.1.getD 5 (0 : Int) == b.1.getD 5 (0 : Int) && (a.1.getD 6 (0 : Int) == b.1.getD 6 (0 : Int) && (a.1.getD 7 (0 : Int) == b.1.getD 7 (0 : Int) && true)))))))) (
 .fork ((a.2.2.getD 0 ((0 : Int), (0 : Int))).1 == (b.2.2.getD 0 ((0 : Int), (0 : Int))).1 && ((a.2.2.getD 0 ((0 : Int), (0 : Int))).2 == (b.2.2.getD 0 ((0 : Int), (0 : Int))).2 && true) && ((a.2.2.getD 1 ((0 : Int), (0 : Int))).1 == (b.2.2.getD 1 ((0 : Int), (0 : Int))).1 && ((a.2.2.getD 1 ((0 : Int), (0 : Int))).2 == (b.2.2.getD 1 ((0 : Int), (0 : Int))).2 && true) && ((a.2.2.getD 2 ((0 : Int), (0 : Int))).1 == (b.2.2.getD 2 ((0 : Int), (0 : Int))).1 && ((a.2.2.getD 2 ((0 : Int), (0 : Int))).2 == (b.2.2.getD 2 ((0 : Int), (0 : Int))).2 && true) && ((a.2.2.getD 3 ((0 : Int), (0 : Int))).1 == (b.2.2.getD 3 ((0 : Int), (0 : Int))).1 && ((a.2.2.getD 3 ((0 : Int), (0 : Int))).2 == (b.2.2.getD 3 ((0 : Int), (0 : Int))).2 && true) && ((a.2.2.getD 4 ((0 : Int), (0 : Int))).1 == (b.2.2.getD 4 ((0 : Int), (0 : Int))).1 && ((a.2.2.getD 4 ((0 : Int), (0 : Int))).2 == (b.2.2.getD 4 ((0 : Int), (0 : Int))).2 && true) && ((a.2.2.getD 5 ((0 : Int), (0 : Int))).1 == (b.2.2.getD 5 ((0 : Int), (0 : Int))).1 && ((a.2.2.getD 5 ((0 : Int), (0 : Int))).2 == (b.2.2.getD 5 ((0 : Int), (0 : Int))).2 && true) && ((a.2.2.getD 6 ((0 : Int), (0 : Int))).1 == (b.2.2.getD 6 ((0 : Int), (0 : Int))).1 && ((a.2.2.getD 6 ((0 : Int), (0 : Int))).2 == (b.2.2.getD 6 ((0 : Int), (0 : Int))).2 && true) && ((a.2.2.getD 7 ((0 : Int), (0 : Int))).1 == (b.2.2.getD 7 ((0 : Int), (0 : Int))).1 && ((a.2.2.getD 7 ((0 : Int), (0 : Int))).2 == (b.2.2.getD 7 ((0 : Int), (0 : Int))).2 && true) && ((a.2.2.getD 8 ((0 : Int), (0 : Int))).1 == (b.2.2.getD 8 ((0 : Int), (0 : Int))).1 && ((a.2.2.getD 8 ((0 : Int), (0 : Int))).2 == (b.2.2.getD 8 ((0 : Int), (0 : Int))).2 && true) && ((a.2.2.getD 9 ((0 : Int), (0 : Int))).1 == (b.2.2.getD 9 ((0 : Int), (0 : Int))).1 && ((a.2.2.getD 9 ((0 : Int), (0 : Int))).2 == (b.2.2.getD 9 ((0 : Int), (0 : Int))).2 && true) && ((a.2.2.getD 10 ((0 : Int), (0 : Int))).1 == (b.2.2.getD 10 ((0 : Int), (0 : Int))).1 && ((a.2.2.getD 10 ((0 : Int), (0 : Int))).2 == (b.2.2.getD 10 ((0 : Int), (0 : Int))).2 && true) && ((a.2.2.getD 11 ((0 : Int), (0 : Int))).1 == (b.2.2.getD 11 ((0 : Int), (0 : Int))).1 && ((a.2.2.getD 11 ((0 : Int), (0 : Int))).2 == (b.2.2.getD 11 ((0 : Int), (0 : Int))).2 && true) && ((a.2.2.getD 12 ((0 : Int), (0 : Int))).1 == (b.2.2.getD 12 ((0 : Int), (0 : Int))).1 && ((a.2.2.getD 12 ((0 : Int), (0 : Int))).2 == (b.2.2.getD 12 ((0 : Int), (0 : Int))).2 && true) && ((a.2.2.getD 13 ((0 : Int), (0 : Int))).1 == (b.2.2.getD 13 ((0 : Int), (0 : Int))).1 && ((a.2.2.getD 13 ((0 : Int), (0 : Int))).2 == (b.2.2.getD 13 ((0 : Int), (0 : Int))).2 && true) && ((a.2.2.getD 14 ((0 : Int), (0 : Int))).1 == (b.2.2.getD 14 ((0 : Int), (0 : Int))).1 && ((a.2.2.getD 14 ((0 : Int), (0 : Int))).2 == (b.2.2.getD 14 ((0 : Int), (0 : Int))).2 && true) && ((a.2.2.getD 15 ((0 : Int), (0 : Int))).1 == (b.2.2.getD 15 ((0 : Int), (0 : Int))).1 && ((a.2.2.getD 15 ((0 : Int), (0 : Int))).2 == (b.2.2.getD 15 ((0 : Int), (0 : Int))).2 && true) && true)))))))))))))))) (
  .req ((↑a.2.1.2.2.length : Int) < (4611686018427387904 : Int)) (
   .leaf ((Pl.cmpP a.2.1 b.2.1 == (0 : Int), ())))) (
  .leaf ((false, ())))) (
 .leaf ((false, ()))) : Tree (Bool × PUnit)) := by kernel_rfl
theorem bodyME : Try.f33.body = some (bodyOf Try.f33) := by kernel_rfl
noncomputable abbrev V2 : Ex := mkEx Try.prog [(43, pureSp [i64] [.bool] (fun _ => True) (fun x => (nodeB x.1, ())))]
theorem V2_ok : V2.Sound := mkEx_sound ⟨pureSp_ok Rf.rnode_ok, trivial⟩
theorem tME (a b : Int) : @Eq _
  (fnT V2 [] 100 Try.f33 [Entry] [.bool] ((a, b), ()))
  (.fork (a == (0 : Int) && (b == (0 : Int) && true)) (
 .leaf ((true, ()))) (
 .fork (decide (a ≥ (1 : Int))) (
  .fork (decide (a ≤ (1000000 : Int))) (
   .req (True) (
    .leaf ((Pl.nodeB b, ())))) (
   .leaf ((false, ())))) (
  .leaf ((false, ())))) : Tree (Bool × PUnit)) := by kernel_rfl
theorem reads_okR {R : Nat → Prop} {w : World} {x : RingD} {cs : List Value} (h : ReadsC R w Ring x cs) : okR x := by
  obtain ⟨c1, c2, _, ⟨h1, _⟩, c3, c4, _, _, h2, _⟩ := h
  exact ⟨h1, h2⟩
abbrev rings : Ty := .slice Ring
def heavyR (r : RingD) : Bool := decide ((r.2.1.2.2.length : Int) > 100)
theorem bodyH : Try.f8.body = some (bodyOf Try.f8) := by kernel_rfl
theorem bodyMR : Try.f18.body = some (bodyOf Try.f18) := by kernel_rfl
theorem bodyAw : Try.f9.body = some (bodyOf Try.f9) := by kernel_rfl
theorem same7_t (a b : RingD) (h1 : okR a) (h2 : okR b) (h3 : (a.2.1.2.2.length : Int) < small) (h4 : (b.2.1.2.2.length : Int) < small) : (fnT V1 [] 100 Try.f14 [Ring, Ring] [.bool] (a, b, ())).all fun y => y = (sameR a b, ()) := by
  obtain ⟨a, p, e⟩ := a
  obtain ⟨b, q, f⟩ := b
  rw [tS7, eq8 h1.1 h2.1, eq16 h1.2 h2.2]
  unfold small at h3
  simp only [Tree.all, decide_eq_true_eq, decide_eq_false_iff_not]
  refine ⟨fun c => ⟨fun d => ⟨by dsimp only at h3; omega, ?_⟩, fun d => ?_⟩, fun c => ?_⟩
  · subst c; subst d
    have : (cmpP p q == 0) = sameR (a, p, e) (a, q, e) := by
      rw [Bool.eq_iff_iff]; simp [sameR, cmpP_zero]
    rw [this]
  · simp [sameR, d]; try rfl
  · simp [sameR, c]; try rfl
theorem same7_ok : PureOK Try.prog 14 [Ring, Ring] [.bool] S2r (fun x => (sameR x.1 x.2.1, ())) :=
  fn_pure (E := V1) (n := 100) V1_ok Try.func14 bodyS7 .nil fun x h => same7_t x.1 x.2.1 h.1 h.2.1 h.2.2.1 h.2.2.2
theorem me_t (a b : Int) : (fnT V2 [] 100 Try.f33 [Entry] [.bool] ((a, b), ())).all fun y => y = (mayE (a, b), ()) := by
  rw [tME]
  have e1 : (decide (a ≥ 1) : Bool) = decide (1 ≤ a) := rfl
  simp only [Tree.all, mayE, Bool.and_true, e1]
  refine ⟨fun c => by rw [c]; rfl, fun c => ⟨fun d => ⟨fun e => ⟨trivial, ?_⟩, fun e => ?_⟩, fun d => ?_⟩⟩
  · rw [c, d, e]; rfl
  · rw [c, d, e]; rfl
  · rw [c, d]; rfl
theorem me_ok : PureOK Try.prog 33 [Entry] [.bool] (fun _ => True) (fun x => (mayE x.1, ())) :=
  fn_pure (E := V2) (n := 100) V2_ok Try.func33 bodyME .nil fun x _ => me_t x.1.1 x.1.2
noncomputable abbrev V3 : Ex := mkEx Try.prog [(33, pureSp [Entry] [.bool] (fun _ => True) (fun x => (mayE x.1, ()))), (34, pureSp [Plan] [.bool] (fun x => (List.length (α := Int) x.1.2.2 : Int) < big) (fun x => (mayB x.1, ())))]
theorem V3_ok : V3.Sound := mkEx_sound ⟨pureSp_ok me_ok, pureSp_ok Rf.rmay_ok, trivial⟩
theorem tMR (a : RingD) : @Eq _
  (fnT V3 [] 100 Try.f18 [Ring] [.bool] (a, ()))
  (.fork (decide (a.1.getD 0 (0 : Int) < (0 : Int))) (
 .leaf ((false, ()))) (
 .fork (decide (a.1.getD 0 (0 : Int) > (4 : Int))) (
  .leaf ((false, ()))) (
  .fork (decide (a.1.getD 1 (0 : Int) < (0 : Int))) (
   .leaf ((false, ()))) (
   .fork (decide (a.1.getD 1 (0 : Int) > (4 : Int))) (
    .leaf ((false, ()))) (
    .fork (decide (a.1.getD 2 (0 : Int) < (0 : Int))) (
     .leaf ((false, ()))) (
     .fork (decide (a.1.getD 2 (0 : Int) > (4 : Int))) (
      .leaf ((false, ()))) (
      .fork (decide (a.1.getD 3 (0 : Int) < (0 : Int))) (
       .leaf ((false, ()))) (
       .fork (decide (a.1.getD 3 (0 : Int) > (4 : Int))) (
        .leaf ((false, ()))) (
        .fork (decide (a.1.getD 4 (0 : Int) < (0 : Int))) (
         .leaf ((false, ()))) (
         .fork (decide (a.1.getD 4 (0 : Int) > (4 : Int))) (
          .leaf ((false, ()))) (
          .fork (decide (a.1.getD 5 (0 : Int) < (0 : Int))) (
           .leaf ((false, ()))) (
           .fork (decide (a.1.getD 5 (0 : Int) > (4 : Int))) (
            .leaf ((false, ()))) (
            .fork (decide (a.1.getD 6 (0 : Int) < (0 : Int))) (
             .leaf ((false, ()))) (
             .fork (decide (a.1.getD 6 (0 : Int) > (4 : Int))) (
              .leaf ((false, ()))) (
              .fork (decide (a.1.getD 7 (0 : Int) < (0 : Int))) (
               .leaf ((false, ()))) (
               .fork (decide (a.1.getD 7 (0 : Int) > (4 : Int))) (
                .leaf ((false, ()))) (
                .req (True) (
                 .fork (!Pl.mayE (a.2.2.getD 0 ((0 : Int), (0 : Int)))) (
                  .leaf ((false, ()))) (
                  .req (True) (
                   .fork (!Pl.mayE (a.2.2.getD 1 ((0 : Int), (0 : Int)))) (
                    .leaf ((false, ()))) (
                    .req (True) (
                     .fork (!Pl.mayE (a.2.2.getD 2 ((0 : Int), (0 : Int)))) (
                      .leaf ((false, ()))) (
                      .req (True) (
                       .fork (!Pl.mayE (a.2.2.getD 3 ((0 : Int), (0 : Int)))) (
                        .leaf ((false, ()))) (
                        .req (True) (
                         .fork (!Pl.mayE (a.2.2.getD 4 ((0 : Int), (0 : Int)))) (
                          .leaf ((false, ()))) (
                          .req (True) (
                           .fork (!Pl.mayE (a.2.2.getD 5 ((0 : Int), (0 : Int)))) (
                            .leaf ((false, ()))) (
                            .req (True) (
                             .fork (!Pl.mayE (a.2.2.getD 6 ((0 : Int), (0 : Int)))) (
                              .leaf ((false, ()))) (
                              .req (True) (
                               .fork (!Pl.mayE (a.2.2.getD 7 ((0 : Int), (0 : Int)))) (
                                .leaf ((false, ()))) (
                                .req (True) (
                                 .fork (!Pl.mayE (a.2.2.getD 8 ((0 : Int), (0 : Int)))) (
                                  .leaf ((false, ()))) (
                                  .req (True) (
                                   .fork (!Pl.mayE (a.2.2.getD 9 ((0 : Int), (0 : Int)))) (
                                    .leaf ((false, ()))) (
                                    .req (True) (
                                     .fork (!Pl.mayE (a.2.2.getD 10 ((0 : Int), (0 : Int)))) (
                                      .leaf ((false, ()))) (
                                      .req (True) (
                                       .fork (!Pl.mayE (a.2.2.getD 11 ((0 : Int), (0 : Int)))) (
                                        .leaf ((false, ()))) (
                                        .req (True) (
                                         .fork (!Pl.mayE (a.2.2.getD 12 ((0 : Int), (0 : Int)))) (
                                          .leaf ((false, ()))) (
                                          .req (True) (
                                           .fork (!Pl.mayE (a.2.2.getD 13 ((0 : Int), (0 : Int)))) (
                                            .leaf ((false, ()))) (
                                            .req (True) (
                                             .fork (!Pl.mayE (a.2.2.getD 14 ((0 : Int), (0 : Int)))) (
                                              .leaf ((false, ()))) (
                                              .req (True) (
                                               .fork (!Pl.mayE (a.2.2.getD 15 ((0 : Int), (0 : Int)))) (
                                                .leaf ((false, ()))) (
                                                .req ((↑a.2.1.2.2.length : Int) < (4611686018427387904 : Int)) (
                                                 .leaf ((Pl.mayB a.2.1, ()))))))))))))))))))))))))))))))))))))))))))))))))))) : Tree (Bool × PUnit)) := by kernel_rfl
theorem mr_t (r : RingD) (h3 : (r.2.1.2.2.length : Int) < small) : (fnT V3 [] 100 Try.f18 [Ring] [.bool] (r, ())).all fun y => y = (mayR r, ()) := by
  rw [tMR]
  unfold small at h3
  simp only [Tree.all, true_and]
  iterate 8 (refine ⟨fun c => ret1 (mayF1 c (by decide)), fun _ => ⟨fun c => ret1 (mayF2 c (by decide)), fun _ => ?_⟩⟩)
  iterate 16 (refine ⟨fun c => ret1 (mayF4 c (by decide)), fun _ => ?_⟩)
  refine ⟨by omega, ?_⟩
  refine ret1 ?_
  simp_all [mayR, tab, tabN, stB]
theorem mr_ok : PureOK Try.prog 18 [Ring] [.bool] S1r (fun x => (mayR x.1, ())) :=
  fn_pure (E := V3) (n := 100) V3_ok Try.func18 bodyMR .nil fun x h => mr_t x.1 h.2
abbrev KrB : Nat × Sx.Spec := (12, pureSp [Ring, Ring] [.bool] S2r (fun x => (belowR x.1 x.2.1, ())))
abbrev KrF : Nat × Sx.Spec := (16, pureSp [i64] [Ring, .bool] (fun _ => True) (fun x => ((firstR x.1).1, (firstR x.1).2, ())))
abbrev KrR : Nat × Sx.Spec := (15, pureSp [Ring, i64, i64] [Ring, i64] S1rn (fun x => ((riseR x.1 x.2.1 x.2.2.1).1, (riseR x.1 x.2.1 x.2.2.1).2, ())))
abbrev KrFL : Nat × Sx.Spec := (16, pureSpL [i64] [Ring, .bool] (fun _ => True) (fun x => ((firstR x.1).1, (firstR x.1).2, ())))
abbrev KrRL : Nat × Sx.Spec := (15, pureSpL [Ring, i64, i64] [Ring, i64] S1rn (fun x => ((riseR x.1 x.2.1 x.2.2.1).1, (riseR x.1 x.2.1 x.2.2.1).2, ())))
noncomputable abbrev V4 : Ex := mkEx Try.prog [KrF, KrR, KrO, KrT, KrB]
theorem V4_ok : V4.Sound := mkEx_sound ⟨pureSp_ok rfirst_ok, pureSp_ok rrise_ok, pureSp_ok rowner_ok, pureSp_ok rtarget_ok, pureSp_ok rbelow_ok, trivial⟩
theorem tAw  : @Eq _
  (fnT V4 [] 100 Try.f9 [] [.bool] ())
  (.req (True) (
 .req ((8 = 8 ∧ 16 = 16) ∧ (0 : Int) < (17592186044416 : Int)) (
  .fork (true) (
   .req ((8 = 8 ∧ 16 = 16) ∧ (0 : Int) < (17592186044416 : Int)) (
    .fork (true) (
     .req ((8 = 8 ∧ 16 = 16) ∧ (0 : Int) < (17592186044416 : Int)) (
      .fork (true) (
       .fork (true) (
        .fork (true) (
         .req ((8 = 8 ∧ 16 = 16) ∧ (8 = 8 ∧ 16 = 16) ∧ (0 : Int) < (17592186044416 : Int) ∧ (0 : Int) < (17592186044416 : Int)) (
          .leaf ((true, ())))) (
         .leaf ((false, ())))) (
        .leaf ((false, ())))) (
       .leaf ((false, ()))))) (
     .leaf ((false, ()))))) (
   .leaf ((false, ()))))) : Tree (Bool × PUnit)) := by kernel_rfl
theorem aw_ok : PureOK Try.prog 9 [] [.bool] (fun _ => True) (fun _ => (true, ())) :=
  fn_pure (E := V4) (n := 100) V4_ok Try.func9 bodyAw .nil fun x _ => by
    refine Tree.all_eq tAw ?_
    simp [Tree.all]
    try rfl
abbrev KAw : Nat × Sx.Spec := (9, pureSp [] [.bool] (fun _ => True) (fun _ => (true, ())))
noncomputable abbrev KHv : Nat × Sx.Spec := (8, fnI E0 [] 100 Try.f8)
abbrev KS7 : Nat × Sx.Spec := (14, pureSp [Ring, Ring] [.bool] S2r (fun x => (sameR x.1 x.2.1, ())))
abbrev KM7 : Nat × Sx.Spec := (18, pureSp [Ring] [.bool] S1r (fun x => (mayR x.1, ())))
abbrev KOf : Nat × Sx.Spec := (19, pureSp [Ring, i64, i64] [ints] (fun x => okR x.1) (fun x => (ofR x.1 x.2.1 x.2.2.1, ())))
abbrev KMv : Nat × Sx.Spec := (20, pureSp [Ring, i64] [ints] S1p (fun x => (moveR x.1 x.2.1, ())))
end Pl
