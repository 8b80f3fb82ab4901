import Derived.Test.YtenjakhegeclhaaClCd
namespace Pl
open Go Sx Go.Proofs Go.RowKit
theorem bs_t (d : DealD) (p n : Int) (h : d.2.2.length = 16) (h0 : 0 ≤ p) (h1 : p < 16) : (fnT W0 [] 100 Try.f32 [.ptr Deal, i64, i64] [.bool] (d, p, n, ())).all fun y => y = (bsd d.2.2 p n, ()) := by
  refine Tree.all_eq (tBs d p n) ?_
  show Tree.all (α := Bool × Unit) _ (fun y => y = (bsd d.2.2 p n, ()))
  rw [tab_eq h]
  simp only [all_leaf, all_req, conjP, and_true]
  unfold bsd
  rw [IntWalk.i64_in (p + 1) (by omega), IntWalk.i64_in (p + 16) (by omega), IntWalk.i64_in (p + 16 - 1) (by omega), Int.tmod_eq_emod_of_nonneg (by omega), Int.tmod_eq_emod_of_nonneg (by omega), show p + 16 - 1 = p + 15 by omega]
  exact ⟨⟨by decide, by omega, by omega, fun _ => ⟨by decide, by omega, by omega⟩⟩, rfl⟩
theorem bs_ok : PureOK Try.prog 32 [.ptr Deal, i64, i64] [.bool] (fun x => List.length (α := Int) x.1.2.2 = 16 ∧ 0 ≤ x.2.1 ∧ x.2.1 < 16) (fun x => (bsd x.1.2.2 x.2.1 x.2.2.1, ())) :=
  fn_pure (E := W0) (n := 100) W0_ok Try.func32 bodyBs .nil fun x h => bs_t x.1 x.2.1 x.2.2.1 h.1 h.2.1 h.2.2
abbrev KBs : Nat × Sx.Spec := (32, pureSp [.ptr Deal, i64, i64] [.bool] (fun x => List.length (α := Int) x.1.2.2 = 16 ∧ 0 ≤ x.2.1 ∧ x.2.1 < 16) (fun x => (bsd x.1.2.2 x.2.1 x.2.2.1, ())))
theorem W1_ok : W1.Sound := mkExM_sound ⟨pureSp_ok bs_ok, trivial⟩
theorem bstC_range (to lacks : List Int) (p : Int) (ap : Bool) (N : Int) : ∀ (l : List Int) (i out : Int), 0 ≤ i → i + l.length ≤ N → -1 ≤ out → out < N → -1 ≤ bstC to lacks p ap l i out ∧ bstC to lacks p ap l i out < N
  | [], _, _, _, _, h, h' => ⟨h, h'⟩
  | n :: r, i, out, h0, h1, h, h' => by
    simp only [List.length_cons, Int.natCast_add] at h1
    simp only [bstC]
    refine bstC_range to lacks p ap N r (i + 1) _ (by omega) (by omega) ?_ ?_
    · split <;> omega
    · split <;> omega
theorem lBe : LpsOK Try.prog Try.f29 [(0, LBe.sp)] := by
  refine .cons (LBe.sound W1_ok (lps := []) (n := 100) (inner rfl) (fun _ => rfl) ?_) .nil
  rintro ⟨d, p, ap, i0, i1⟩ ⟨h16, hl, h8, hp0, hp1, h0, h1, h2, h3⟩
  simp only at h16 hl h8 hp0 hp1 h0 h1 h2 h3
  rw [rBe, tab_eq h16]
  have step : ∀ c : i0 < d.1.length, bstC d.2.2 d.2.1 p ap (d.1.drop i0.toNat) i0 i1 = bstC d.2.2 d.2.1 p ap (d.1.drop (i0 + 1).toNat) (i0 + 1) (if decide (d.2.1.getD i0.toNat 0 > 0) && !(ap && bsd d.2.2 p (d.1.getD i0.toNat 0)) && (decide (i1 < 0) || decide (d.2.1.getD i0.toNat 0 > d.2.1.getD i1.toNat 0)) then i0 else i1) := fun c => by
    rw [drop_cons 0 h0 (by omega), bstC]
  have cond : (decide (d.2.1.getD i0.toNat 0 > 0) && bif ap then !Pl.bsd d.2.2 p (d.1.getD i0.toNat 0) && (decide (i1 < 0) || decide (d.2.1.getD i0.toNat 0 > d.2.1.getD i1.toNat 0)) else decide (i1 < 0) || decide (d.2.1.getD i0.toNat 0 > d.2.1.getD i1.toNat 0)) = (decide (d.2.1.getD i0.toNat 0 > 0) && !(ap && bsd d.2.2 p (d.1.getD i0.toNat 0)) && (decide (i1 < 0) || decide (d.2.1.getD i0.toNat 0 > d.2.1.getD i1.toNat 0))) := by
    cases ap <;> simp [Bool.and_assoc]
  rw [cond]
  simp only [all_leaf, all_fork, all_req, conjP, and_true, true_and, implies_true, decide_eq_true_eq, decide_eq_false_iff_not]
  refine ⟨fun c => ?_, fun c => ⟨?_, ?_⟩⟩
  · have hw := IntWalk.i64_in (i0 + 1) (by omega)
    have nx : ∀ v : Int, v = (if (decide (d.2.1.getD i0.toNat 0 > 0) && !(ap && bsd d.2.2 p (d.1.getD i0.toNat 0)) && (decide (i1 < 0) || decide (d.2.1.getD i0.toNat 0 > d.2.1.getD i1.toNat 0))) = true then i0 else i1) → LBe.Next ⟨d, p, ap, i0, i1⟩ (some ⟨(d.1, d.2.1, d.2.2), p, ap, IntKind.i64.wrap (i0 + 1), v⟩) := by
      intro v hv
      rw [hw]
      refine ⟨⟨h16, hl, h8, hp0, hp1, by dsimp only; omega, by dsimp only; omega, ?_, ?_⟩, by simp only [LBe]; omega, ?_⟩
      · dsimp only; rw [hv]; split <;> omega
      · dsimp only; rw [hv]; split <;> omega
      · simp only [LBe]; rw [step c, hv]
    refine ⟨by omega, by omega, ⟨by omega, by omega, fun _ => ?_⟩, fun t => nx _ (by rw [if_pos t]), fun t => nx _ (by rw [if_neg (by rw [t]; decide)])⟩
    have q : ¬ i1 < 0 → (0 ≤ i0 ∧ i0 < (d.2.1.length : Int)) ∧ (0 ≤ i0 ∧ i0 < (d.2.1.length : Int)) ∧ (0 ≤ i1 ∧ i1 < (d.2.1.length : Int)) ∧ 0 ≤ i1 ∧ i1 < (d.2.1.length : Int) := fun z => ⟨by omega, by omega, by omega, by omega⟩
    exact ⟨fun _ => ⟨⟨hp0, hp1⟩, fun _ => q⟩, fun _ => q⟩
  · rw [drop_end (by omega)]; rfl
  · trivial
def bstL (d : DealD) (p : Int) (ap : Bool) : Int := bstC d.2.2 d.2.1 p ap d.1 0 (-1)
theorem best_t (d : DealD) (p : Int) (ap : Bool) (h16 : d.2.2.length = 16) (hl : d.2.1.length = d.1.length) (h8 : d.1.length ≤ 8) (h0 : 0 ≤ p) (h1 : p < 16) : (fnT W1 [(0, LBe.sp)] 100 Try.f29 [.ptr Deal, i64, .bool] [i64] (d, p, ap, ())).all fun y => y = (bstL d p ap, ()) := by
  refine Tree.all_eq (tBe d p ap) ?_
  show Tree.all (α := Int × Unit) _ (fun y => y = (bstL d p ap, ()))
  rw [tab_eq h16]
  simp only [all_leaf, all_req, and_true, true_and]
  exact ⟨⟨hl, h8, h0, h1, by omega, by omega, by omega, by omega⟩, rfl⟩
theorem best_ok : PureOK Try.prog 29 [.ptr Deal, i64, .bool] [i64] (fun x => List.length (α := Int) x.1.2.2 = 16 ∧ List.length (α := Int) x.1.2.1 = List.length (α := Int) x.1.1 ∧ List.length (α := Int) x.1.1 ≤ 8 ∧ 0 ≤ x.2.1 ∧ x.2.1 < 16) (fun x => (bstL x.1 x.2.1 x.2.2.1, ())) :=
  fn_pure (E := W1) (n := 100) W1_ok Try.func29 bodyBe lBe fun x h => best_t x.1 x.2.1 x.2.2.1 h.1 h.2.1 h.2.2.1 h.2.2.2.1 h.2.2.2.2
abbrev KBe : Nat × Sx.Spec := (29, pureSp [.ptr Deal, i64, .bool] [i64] (fun x => List.length (α := Int) x.1.2.2 = 16 ∧ List.length (α := Int) x.1.2.1 = List.length (α := Int) x.1.1 ∧ List.length (α := Int) x.1.1 ≤ 8 ∧ 0 ≤ x.2.1 ∧ x.2.1 < 16) (fun x => (bstL x.1 x.2.1 x.2.2.1, ())))
end Pl
