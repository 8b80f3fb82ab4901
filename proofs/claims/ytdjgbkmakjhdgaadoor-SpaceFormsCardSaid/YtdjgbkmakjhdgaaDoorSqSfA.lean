import Derived.Test.YtdjgbkmakjhdgaaDoorSqSpP
namespace Pl
open Go Sx Go.Proofs Go.RowKit
theorem fbAt : Tryd.f24.body = some (bodyOf Tryd.f24) := by kernel_rfl
theorem fbNd : Tryd.f17.body = some (bodyOf Tryd.f17) := by kernel_rfl
noncomputable abbrev F0 : Ex := mkExM Tryd.prog [(24, fnI E0 [] 100 Tryd.f24), (17, fnI E0 [] 100 Tryd.f17)]
theorem F0_ok : F0.Sound := mkExM_sound ⟨fnI_ok (E := E0) E0_ok Tryd.func24 fbAt .nil, fnI_ok (E := E0) E0_ok Tryd.func17 fbNd .nil, trivial⟩
theorem tWh (l : List Int) (p : Int) : @Eq _
  (fnT F0 [] 100 Tryd.f16 [ints, i64] [i64] (l, p, ()))
  (.req (decide (p < (↑l.length : Int)) = true → conjP [(0 : Int) ≤ p ∧ p < (↑l.length : Int), (0 : Int) ≤ p ∧ p < (↑l.length : Int)]) (
 .req (True) (
  .fork (decide ((bif decide (p < (↑l.length : Int)) then l.getD p.toNat (0 : Int) else (-1 : Int)) ≥ (0 : Int)) && decide ((bif decide (p < (↑l.length : Int)) then l.getD p.toNat (0 : Int) else (-1 : Int)) < (8 : Int))) (
   .leaf ((bif decide (p < (↑l.length : Int)) then l.getD p.toNat (0 : Int) else (-1 : Int), ()))) (
   .leaf (((-1 : Int), ()))))) : Tree (Int × PUnit)) := by kernel_rfl
theorem atS_eq' (l : List Int) {p : Int} (h0 : 0 ≤ p) (h1 : p < 16) : atS l p = if (decide (p < (l.length : Int)) && (decide (l.getD p.toNat 0 ≥ 0) && decide (l.getD p.toNat 0 < 8))) = true then l.getD p.toNat 0 else -1 := by
  unfold atS nodeB
  rw [decide_eq_true h0, decide_eq_true h1, Bool.true_and, Bool.true_and]
theorem whose_ok : PureOK Tryd.prog 16 [ints, i64] [i64] (fun x => 0 ≤ x.2.1 ∧ x.2.1 < 16) (fun x => (atS x.1 x.2.1, ())) :=
  fn_pure (E := F0) (n := 100) F0_ok Tryd.func16 (by kernel_rfl) .nil fun x h => by
    obtain ⟨l, p, _⟩ : List Int × Int × Unit := x
    refine Tree.all_eq (tWh l p) ?_
    show Tree.all (α := Int × Unit) _ (fun y => y = (atS l p, ()))
    have h : 0 ≤ p ∧ p < 16 := h
    have e := atS_eq' l h.1 h.2
    simp only [all_leaf, all_fork, all_req, conjP, true_and, and_true, decide_eq_true_eq]
    refine ⟨fun c => ⟨⟨h.1, c⟩, h.1, c⟩, fun c => ?_, fun c => ?_⟩
    · by_cases d : p < (l.length : Int)
      · simp only [decide_eq_true d, cond_true, Bool.true_and] at c e ⊢
        rw [e, if_pos c]
      · simp only [decide_eq_false d, cond_false] at c
        cases c
    · by_cases d : p < (l.length : Int)
      · simp only [decide_eq_true d, cond_true, Bool.true_and] at c e ⊢
        rw [e, if_neg (by rw [c]; decide)]
      · simp only [decide_eq_false d, Bool.false_and] at e
        rw [e]; rfl
end Pl
