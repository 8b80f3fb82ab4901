import Derived.Test.YtenjakhegeclhaaClCg
namespace Pl
open Go Sx Go.Proofs Go.RowKit
theorem lSm : LpsOK Try.prog Try.f12 [(0, LSm.sp)] := by
  refine .cons (LSm.sound E0_ok (lps := []) (n := 100) (inner rfl) (fun _ => rfl) ?_) .nil
  rintro ⟨a, b, i⟩ ⟨h1, h2, h3, h4⟩
  simp only at h1 h2 h3 h4
  rw [rSm]
  simp only [all_leaf, all_fork, all_req, true_and, and_true, decide_eq_true_eq, decide_eq_false_iff_not, bne_iff_ne, ne_eq, bne_eq_false_iff_eq]
  have hd : ∀ c : i < (a.length : Int), (a.drop i.toNat = b.drop i.toNat ↔ a.getD i.toNat 0 = b.getD i.toNat 0 ∧ a.drop (i + 1).toNat = b.drop (i + 1).toNat) := fun c => by
    rw [drop_cons (l := a) 0 h1 c, drop_cons (l := b) 0 h1 (by omega), List.cons.injEq]
  refine ⟨fun c => ⟨⟨h1, c⟩, ⟨h1, c⟩, ⟨h1, by omega⟩, ⟨h1, by omega⟩, fun d => ?_, fun d => ?_⟩, fun c => ?_⟩
  · refine ⟨fun e => ?_, fun e => trivial⟩
    exact absurd ((hd c).1 e).1 d
  · rw [i64_inc (by omega) (by unfold big at h4; omega)]
    refine ⟨⟨by dsimp only; omega, by dsimp only; omega, h3, h4⟩, by simp only [LSm]; omega, ?_⟩
    simp only [LSm]
    have : decide (a.drop i.toNat = b.drop i.toNat) = decide (a.drop (i + 1).toNat = b.drop (i + 1).toNat) := by
      have h := hd c
      simp only [d, true_and] at h
      simp only [h]
    rw [this]
  · refine ⟨fun e => trivial, fun e => ?_⟩
    exact absurd (by rw [drop_end c, drop_end (by omega)]) e
theorem same_t (a b : List Int) (h : (a.length : Int) < big) : (fnT E0 [(0, LSm.sp)] 100 Try.f12 [ints, ints] [.bool] (a, b, ())).all fun y => y = (decide (a = b), ()) := by
  rw [tSm]
  show Tree.all (α := Bool × Unit) _ (fun y => y = (decide (a = b), ()))
  simp only [all_leaf, all_fork, all_req, true_and, and_true, decide_eq_true_eq, decide_eq_false_iff_not, bne_iff_ne, ne_eq, bne_eq_false_iff_eq]
  refine ⟨fun c => ?_, fun c => ⟨⟨by omega, by omega, by omega, h⟩, fun e => ?_, fun e => ?_⟩⟩
  · have : a ≠ b := fun e => c (by rw [e])
    simp [this]
  · have : a = b := e
    simp [this]
  · have : a ≠ b := e
    simp [this]
theorem same_ok : PureOK Try.prog 12 [ints, ints] [.bool] (fun x => (List.length (α := Int) x.1 : Int) < big) (fun x => (decide (x.1 = x.2.1), ())) :=
  fn_pure (E := E0) (n := 100) E0_ok Try.func12 bodySm lSm fun x h => same_t x.1 x.2.1 h
abbrev KSm : Nat × Sx.Spec := (12, pureSp [ints, ints] [.bool] (fun x => (List.length (α := Int) x.1 : Int) < big) (fun x => (decide (x.1 = x.2.1), ())))
abbrev KAw : Nat × Sx.Spec := (11, pureSp [] [.bool] (fun _ => True) (fun _ => (true, ())))
noncomputable abbrev W4 : Ex := mkExM Try.prog [KAs, KQu, KMe, KMo, KSm, KAw, (10, fnI E0 [] 100 Try.f10)]
theorem W4_ok : W4.Sound := mkExM_sound ⟨pureSp_ok assign_ok, pureSp_ok quotas_ok, pureSp_ok mem_ok, pureSp_ok mov_ok, pureSp_ok same_ok, pureSp_ok aw_ok, fnI_ok (E := E0) E0_ok Try.func10 bodyFew .nil, trivial⟩
theorem tOr (now ms : List Int) (turn : Int) : @Eq _
  (fnT W4 [] 100 Try.f7 [ints, ints, i64] [.bool] (now, ms, turn, ()))
  (.fork (decide ((↑now.length : Int) > (100 : Int))) (
 .req (True) (
  .leaf ((true, ())))) (
 .fork (decide ((↑ms.length : Int) > (100 : Int))) (
  .req (True) (
   .leaf ((true, ())))) (
  .req (IntKind.u64.wrap (IntKind.i64.wrap ((↑ms.length : Int) + (1 : Int))) ≠ (0 : Int)) (
   .req ((0 : Int) ≤ IntKind.i64.wrap ((IntKind.u64.wrap turn).tmod (IntKind.u64.wrap (IntKind.i64.wrap ((↑ms.length : Int) + (1 : Int))))) ∧ IntKind.i64.wrap ((IntKind.u64.wrap turn).tmod (IntKind.u64.wrap (IntKind.i64.wrap ((↑ms.length : Int) + (1 : Int))))) ≤ (↑ms.length : Int) ∧ (↑ms.length : Int) ≤ (↑ms.length : Int)) (
    .req ((3 + (List.take ((↑ms.length : Int).toNat - (IntKind.i64.wrap ((IntKind.u64.wrap turn).tmod (IntKind.u64.wrap (IntKind.i64.wrap ((↑ms.length : Int) + (1 : Int)))))).toNat) (List.drop (IntKind.i64.wrap ((IntKind.u64.wrap turn).tmod (IntKind.u64.wrap (IntKind.i64.wrap ((↑ms.length : Int) + (1 : Int)))))).toNat ms)).length) * 9 ≤ 70368744177664) (
     .req ((([(-1 : Int), (8 : Int), (99 : Int)] ++ List.take ((↑ms.length : Int).toNat - (IntKind.i64.wrap ((IntKind.u64.wrap turn).tmod (IntKind.u64.wrap (IntKind.i64.wrap ((↑ms.length : Int) + (1 : Int)))))).toNat) (List.drop (IntKind.i64.wrap ((IntKind.u64.wrap turn).tmod (IntKind.u64.wrap (IntKind.i64.wrap ((↑ms.length : Int) + (1 : Int)))))).toNat ms)).length + ms.length) * 9 ≤ 70368744177664) (
      .req ((0 : Int) ≤ (0 : Int) ∧ (0 : Int) ≤ IntKind.i64.wrap ((IntKind.u64.wrap turn).tmod (IntKind.u64.wrap (IntKind.i64.wrap ((↑ms.length : Int) + (1 : Int))))) ∧ IntKind.i64.wrap ((IntKind.u64.wrap turn).tmod (IntKind.u64.wrap (IntKind.i64.wrap ((↑ms.length : Int) + (1 : Int))))) ≤ (↑ms.length : Int)) (
       .req ((([(-1 : Int), (8 : Int), (99 : Int)] ++ List.take ((↑ms.length : Int).toNat - (IntKind.i64.wrap ((IntKind.u64.wrap turn).tmod (IntKind.u64.wrap (IntKind.i64.wrap ((↑ms.length : Int) + (1 : Int)))))).toNat) (List.drop (IntKind.i64.wrap ((IntKind.u64.wrap turn).tmod (IntKind.u64.wrap (IntKind.i64.wrap ((↑ms.length : Int) + (1 : Int)))))).toNat ms) ++ ms).length + (List.take ((IntKind.i64.wrap ((IntKind.u64.wrap turn).tmod (IntKind.u64.wrap (IntKind.i64.wrap ((↑ms.length : Int) + (1 : Int)))))).toNat - 0) ms).length) * 9 ≤ 70368744177664) (
        .req ((↑([(-1 : Int), (8 : Int), (99 : Int)] ++ List.take ((↑ms.length : Int).toNat - (IntKind.i64.wrap ((IntKind.u64.wrap turn).tmod (IntKind.u64.wrap (IntKind.i64.wrap ((↑ms.length : Int) + (1 : Int)))))).toNat) (List.drop (IntKind.i64.wrap ((IntKind.u64.wrap turn).tmod (IntKind.u64.wrap (IntKind.i64.wrap ((↑ms.length : Int) + (1 : Int)))))).toNat ms) ++ ms ++ List.take ((IntKind.i64.wrap ((IntKind.u64.wrap turn).tmod (IntKind.u64.wrap (IntKind.i64.wrap ((↑ms.length : Int) + (1 : Int)))))).toNat - 0) ms).length : Int) < (4611686018427387904 : Int)) (
         .req ((↑ms.length : Int) < (4611686018427387904 : Int)) (
          .req ((↑(Pl.asgL now ([(-1 : Int), (8 : Int), (99 : Int)] ++ List.take ((↑ms.length : Int).toNat - (IntKind.i64.wrap ((IntKind.u64.wrap turn).tmod (IntKind.u64.wrap (IntKind.i64.wrap ((↑ms.length : Int) + (1 : Int)))))).toNat) (List.drop (IntKind.i64.wrap ((IntKind.u64.wrap turn).tmod (IntKind.u64.wrap (IntKind.i64.wrap ((↑ms.length : Int) + (1 : Int)))))).toNat ms) ++ ms ++ List.take ((IntKind.i64.wrap ((IntKind.u64.wrap turn).tmod (IntKind.u64.wrap (IntKind.i64.wrap ((↑ms.length : Int) + (1 : Int)))))).toNat - 0) ms)).length : Int) < (4611686018427387904 : Int)) (
           .fork (decide (Pl.asgL now ([(-1 : Int), (8 : Int), (99 : Int)] ++ List.take ((↑ms.length : Int).toNat - (IntKind.i64.wrap ((IntKind.u64.wrap turn).tmod (IntKind.u64.wrap (IntKind.i64.wrap ((↑ms.length : Int) + (1 : Int)))))).toNat) (List.drop (IntKind.i64.wrap ((IntKind.u64.wrap turn).tmod (IntKind.u64.wrap (IntKind.i64.wrap ((↑ms.length : Int) + (1 : Int)))))).toNat ms) ++ ms ++ List.take ((IntKind.i64.wrap ((IntKind.u64.wrap turn).tmod (IntKind.u64.wrap (IntKind.i64.wrap ((↑ms.length : Int) + (1 : Int)))))).toNat - 0) ms) = Pl.asgL now ms)) (
            .req ((↑([(-1 : Int), (8 : Int), (99 : Int)] ++ List.take ((↑ms.length : Int).toNat - (IntKind.i64.wrap ((IntKind.u64.wrap turn).tmod (IntKind.u64.wrap (IntKind.i64.wrap ((↑ms.length : Int) + (1 : Int)))))).toNat) (List.drop (IntKind.i64.wrap ((IntKind.u64.wrap turn).tmod (IntKind.u64.wrap (IntKind.i64.wrap ((↑ms.length : Int) + (1 : Int)))))).toNat ms) ++ ms ++ List.take ((IntKind.i64.wrap ((IntKind.u64.wrap turn).tmod (IntKind.u64.wrap (IntKind.i64.wrap ((↑ms.length : Int) + (1 : Int)))))).toNat - 0) ms).length : Int) < (4611686018427387904 : Int)) (
             .req ((↑ms.length : Int) < (4611686018427387904 : Int)) (
              .req ((↑(Pl.quotaL now ([(-1 : Int), (8 : Int), (99 : Int)] ++ List.take ((↑ms.length : Int).toNat - (IntKind.i64.wrap ((IntKind.u64.wrap turn).tmod (IntKind.u64.wrap (IntKind.i64.wrap ((↑ms.length : Int) + (1 : Int)))))).toNat) (List.drop (IntKind.i64.wrap ((IntKind.u64.wrap turn).tmod (IntKind.u64.wrap (IntKind.i64.wrap ((↑ms.length : Int) + (1 : Int)))))).toNat ms) ++ ms ++ List.take ((IntKind.i64.wrap ((IntKind.u64.wrap turn).tmod (IntKind.u64.wrap (IntKind.i64.wrap ((↑ms.length : Int) + (1 : Int)))))).toNat - 0) ms)).length : Int) < (4611686018427387904 : Int)) (
               .fork (decide (Pl.quotaL now ([(-1 : Int), (8 : Int), (99 : Int)] ++ List.take ((↑ms.length : Int).toNat - (IntKind.i64.wrap ((IntKind.u64.wrap turn).tmod (IntKind.u64.wrap (IntKind.i64.wrap ((↑ms.length : Int) + (1 : Int)))))).toNat) (List.drop (IntKind.i64.wrap ((IntKind.u64.wrap turn).tmod (IntKind.u64.wrap (IntKind.i64.wrap ((↑ms.length : Int) + (1 : Int)))))).toNat ms) ++ ms ++ List.take ((IntKind.i64.wrap ((IntKind.u64.wrap turn).tmod (IntKind.u64.wrap (IntKind.i64.wrap ((↑ms.length : Int) + (1 : Int)))))).toNat - 0) ms) = Pl.quotaL now ms)) (
                .req ((↑([(-1 : Int), (8 : Int), (99 : Int)] ++ List.take ((↑ms.length : Int).toNat - (IntKind.i64.wrap ((IntKind.u64.wrap turn).tmod (IntKind.u64.wrap (IntKind.i64.wrap ((↑ms.length : Int) + (1 : Int)))))).toNat) (List.drop (IntKind.i64.wrap ((IntKind.u64.wrap turn).tmod (IntKind.u64.wrap (IntKind.i64.wrap ((↑ms.length : Int) + (1 : Int)))))).toNat ms) ++ ms ++ List.take ((IntKind.i64.wrap ((IntKind.u64.wrap turn).tmod (IntKind.u64.wrap (IntKind.i64.wrap ((↑ms.length : Int) + (1 : Int)))))).toNat - 0) ms).length : Int) < (4611686018427387904 : Int)) (
                 .req ((↑ms.length : Int) < (4611686018427387904 : Int)) (
                  .req ((↑(Pl.memL ([(-1 : Int), (8 : Int), (99 : Int)] ++ List.take ((↑ms.length : Int).toNat - (IntKind.i64.wrap ((IntKind.u64.wrap turn).tmod (IntKind.u64.wrap (IntKind.i64.wrap ((↑ms.length : Int) + (1 : Int)))))).toNat) (List.drop (IntKind.i64.wrap ((IntKind.u64.wrap turn).tmod (IntKind.u64.wrap (IntKind.i64.wrap ((↑ms.length : Int) + (1 : Int)))))).toNat ms) ++ ms ++ List.take ((IntKind.i64.wrap ((IntKind.u64.wrap turn).tmod (IntKind.u64.wrap (IntKind.i64.wrap ((↑ms.length : Int) + (1 : Int)))))).toNat - 0) ms)).length : Int) < (4611686018427387904 : Int)) (
                   .fork (decide (Pl.memL ([(-1 : Int), (8 : Int), (99 : Int)] ++ List.take ((↑ms.length : Int).toNat - (IntKind.i64.wrap ((IntKind.u64.wrap turn).tmod (IntKind.u64.wrap (IntKind.i64.wrap ((↑ms.length : Int) + (1 : Int)))))).toNat) (List.drop (IntKind.i64.wrap ((IntKind.u64.wrap turn).tmod (IntKind.u64.wrap (IntKind.i64.wrap ((↑ms.length : Int) + (1 : Int)))))).toNat ms) ++ ms ++ List.take ((IntKind.i64.wrap ((IntKind.u64.wrap turn).tmod (IntKind.u64.wrap (IntKind.i64.wrap ((↑ms.length : Int) + (1 : Int)))))).toNat - 0) ms) = Pl.memL ms)) (
                    .req (True) (
                     .leaf ((true, ())))) (
                    .leaf ((false, ()))))))) (
                .leaf ((false, ()))))))) (
            .leaf ((false, ())))))))))))))) : Tree (Bool × PUnit)) := by kernel_rfl
end Pl
