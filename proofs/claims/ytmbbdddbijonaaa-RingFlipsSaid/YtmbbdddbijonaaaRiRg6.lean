import Derived.Test.YtmbbdddbijonaaaRiRg5
namespace Pl
open Go Sx Go.Proofs Go.RowKit
theorem tab8_get {xs : List Int} {z : Int} (h : xs.length = 8) : tab 8 xs z = xs := tab_eq h
theorem wrapI {i m : Int} (h0 : 0 ≤ i) (h1 : i < m) (h2 : m ≤ 1000000) : IntKind.i64.wrap (i + 1) = i + 1 := IntWalk.i64_in _ (by omega)
theorem lOf : LpsOK Try.prog Try.f19 [(0, LOf.sp)] := by
  refine .cons (LOf.sound E0_ok (lps := []) (n := 100) (inner rfl) (fun _ => rfl) ?_) .nil
  rintro ⟨r, f, t, i, l⟩ ⟨h1, h2, h3, h4⟩
  simp only at h1 h2 h3 h4
  rw [rOf, tab_eq h1.1]
  simp only [Tree.all, true_and, and_true, LoopC.Next, decide_eq_true_eq, decide_eq_false_iff_not]
  refine ⟨fun c => ⟨⟨h2, c⟩, ?_⟩, fun c => ?_⟩
  · rw [wrapI h2 c (by omega)]
    have e1 : 8 - i.toNat = (8 - (i + 1).toNat) + 1 := by omega
    have e2 : (i + 1).toNat = i.toNat + 1 := by omega
    have e3 : ((i.toNat : Nat) : Int) = i := by omega
    have ok : ∀ l' : List Int, (l'.length : Int) ≤ i + 1 → LOf.ok ⟨(r.1, (0, 0, []), List.replicate 16 (0, 0)), f, t, i + 1, l'⟩ := fun l' h => ⟨⟨h1.1, rfl⟩, by dsimp only; omega, by dsimp only; omega, h⟩
    have no : ∀ h : ¬ (decide (r.1.getD i.toNat 0 ≥ f) && decide (r.1.getD i.toNat 0 ≤ t)) = true, LOf.fin ⟨r, f, t, i, l⟩ = LOf.fin ⟨(r.1, (0, 0, []), List.replicate 16 (0, 0)), f, t, i + 1, l⟩ := by
      intro h
      simp only [LOf]
      rw [e1, ofL, if_neg h, e2]
    refine ⟨fun d => ⟨fun e => ⟨by omega, ?_⟩, fun e => ⟨ok l (by omega), by simp only [LOf]; omega, no (by rw [decide_eq_false e, Bool.and_false]; decide)⟩⟩, fun d => ⟨ok l (by omega), by simp only [LOf]; omega, no (by rw [decide_eq_false d, Bool.false_and]; decide)⟩⟩
    refine ⟨ok _ (by simp; omega), by simp only [LOf]; omega, ?_⟩
    simp only [LOf]
    rw [e1, ofL, if_pos (by rw [decide_eq_true d, decide_eq_true e]; rfl), e2, e3]
    simp
  · have : i = 8 := by omega
    subst this
    rw [show 8 - (8 : Int).toNat = 0 by decide]; simp [ofL]
def ofR (r : RingD) (f t : Int) : List Int := ofL r.1 f t 8 0
theorem of_t (r : RingD) (f t : Int) (h : okR r) : (fnT E0 [(0, LOf.sp)] 100 Try.f19 [Ring, i64, i64] [ints] (r, f, t, ())).all fun y => y = (ofR r f t, ()) := by
  rw [tOf, tab_eq h.1]
  simp only [Tree.all, true_and, and_true]
  exact ⟨⟨by omega, by omega, by omega⟩, rfl⟩
theorem rof_ok : PureOK Try.prog 19 [Ring, i64, i64] [ints] (fun x => okR x.1) (fun x => (ofR x.1 x.2.1 x.2.2.1, ())) :=
  fn_pure (E := E0) (n := 100) E0_ok Try.func19 bodyOf_ lOf fun x h => of_t x.1 x.2.1 x.2.2.1 h
theorem lMv : LpsOK Try.prog Try.f20 [(0, LMv.sp)] := by
  refine .cons (LMv.sound Q10_ok (lps := []) (n := 100) (inner rfl) (fun _ => rfl) ?_) .nil
  rintro ⟨r, n, i, l⟩ ⟨h1, h5, h2, h3, h4⟩
  simp only at h1 h2 h3 h4 h5
  rw [rMv, tab_r h1, tab_eq h1.1]
  simp only [Tree.all, true_and, and_true, LoopC.Next, decide_eq_true_eq, decide_eq_false_iff_not]
  refine ⟨fun c => ⟨h5, ?_⟩, fun c => ?_⟩
  · rw [wrapI h2 c (by omega)]
    have e1 : 16 - i.toNat = (16 - (i + 1).toNat) + 1 := by omega
    have e2 : (i + 1).toNat = i.toNat + 1 := by omega
    have e3 : ((i.toNat : Nat) : Int) = i := by omega
    have ok : ∀ l' : List Int, (l'.length : Int) ≤ i + 1 → LMv.ok ⟨r, n, i + 1, l'⟩ := fun l' h => ⟨h1, h5, by dsimp only; omega, by dsimp only; omega, h⟩
    have no : ∀ h : ¬ mvB r n i = true, LMv.fin ⟨r, n, i, l⟩ = LMv.fin ⟨r, n, i + 1, l⟩ := by
      intro h
      simp only [LMv]
      rw [e1, mvL, e3, if_neg h, e2]
    refine ⟨fun d => ⟨h5, fun e => ⟨fun f => ⟨fun g => ⟨by omega, ?_⟩, fun g => ⟨ok l (by omega), by simp only [LMv]; omega, no (by simp [mvB]; intro _ _ _; simpa using g)⟩⟩, fun f => ⟨ok l (by omega), by simp only [LMv]; omega, no (by simp [mvB]; intro _ _ h; simp at f; exact absurd f h)⟩⟩, fun e => ⟨ok l (by omega), by simp only [LMv]; omega, no (by simp [mvB, e])⟩⟩, fun d => ⟨ok l (by omega), by simp only [LMv]; omega, no (by simp [mvB, d])⟩⟩
    refine ⟨ok _ (by simp; omega), by simp only [LMv]; omega, ?_⟩
    simp only [LMv]
    rw [e1, mvL, e3, if_pos (by simp only [mvB, d, e]; simp at f g; simp [f, g]), e2]
    simp
  · have : i = 16 := by omega
    subst this
    rw [show 16 - (16 : Int).toNat = 0 by decide]; simp [mvL]
def moveR (r : RingD) (n : Int) : List Int := mvL r n 16 0
theorem mv_t (r : RingD) (n : Int) (h : okR r) (h2 : (r.2.1.2.2.length : Int) < small) : (fnT Q10 [(0, LMv.sp)] 100 Try.f20 [Ring, i64] [ints] (r, n, ())).all fun y => y = (moveR r n, ()) := by
  rw [tMv, tab_r h, tab_eq h.1]
  simp only [Tree.all, true_and, and_true]
  exact ⟨⟨h2, by omega, by omega, by omega⟩, rfl⟩
theorem rmv_ok : PureOK Try.prog 20 [Ring, i64] [ints] S1p (fun x => (moveR x.1 x.2.1, ())) :=
  fn_pure (E := Q10) (n := 100) Q10_ok Try.func20 bodyMv lMv fun x h => mv_t x.1 x.2.1 h.1 h.2
end Pl
