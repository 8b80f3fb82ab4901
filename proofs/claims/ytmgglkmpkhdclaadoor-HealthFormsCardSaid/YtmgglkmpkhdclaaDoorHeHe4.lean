import Derived.Test.YtmgglkmpkhdclaaDoorHeHe3
namespace Pl
open Go Sx Go.Proofs Go.RowKit
theorem cmpI_cases (a b : Int) : (a < b ∧ cmpI a b = -1) ∨ (a = b ∧ cmpI a b = 0) ∨ (b < a ∧ cmpI a b = 1) := by
  unfold cmpI; split
  · exact .inl ⟨by assumption, rfl⟩
  · split
    · exact .inr (.inr ⟨by assumption, rfl⟩)
    · exact .inr (.inl ⟨by omega, rfl⟩)
/-- what compares: (left, inc, health), left first; alike where both left -/
def kC (c : ClaimD) : Int × Int × Int := if c.2.2 = 4 then (1, 0, 0) else (0, c.2.1, c.2.2)
def ltK (x y : Int × Int × Int) : Prop := x.1 < y.1 ∨ (x.1 = y.1 ∧ (x.2.1 < y.2.1 ∨ (x.2.1 = y.2.1 ∧ x.2.2 < y.2.2)))
theorem cmpC_cases (a b : ClaimD) : (ltK (kC a) (kC b) ∧ cmpC a b = -1) ∨ (kC a = kC b ∧ cmpC a b = 0) ∨ (ltK (kC b) (kC a) ∧ cmpC a b = 1) := by
  obtain ⟨an, ai, ah⟩ := a
  obtain ⟨bn, bi, bh⟩ := b
  unfold cmpC leftI kC ltK
  by_cases h1 : ah = 4 <;> by_cases h2 : bh = 4
  · simp [h1, h2]
  · simp [h1, h2]
  · simp [h1, h2]
  · simp only [h1, h2, if_false]
    rcases cmpI_cases ai bi with ⟨c, e⟩ | ⟨c, e⟩ | ⟨c, e⟩
    · rw [e]; left; exact ⟨.inr ⟨trivial, .inl c⟩, by simp⟩
    · subst c
      rw [e]
      rcases cmpI_cases ah bh with ⟨d, f⟩ | ⟨d, f⟩ | ⟨d, f⟩
      · left; exact ⟨.inr ⟨trivial, .inr ⟨rfl, d⟩⟩, by simp [f]⟩
      · right; left; subst d; exact ⟨rfl, by simp [f]⟩
      · right; right; exact ⟨.inr ⟨trivial, .inr ⟨rfl, d⟩⟩, by simp [f]⟩
    · rw [e]; right; right; exact ⟨.inr ⟨trivial, .inl c⟩, by simp⟩
theorem ltK_trans {x y z : Int × Int × Int} (h : ltK x y) (k : ltK y z) : ltK x z := by unfold ltK at *; omega
theorem ltK_irr {x : Int × Int × Int} (h : ltK x x) : False := by unfold ltK at h; omega
theorem cmpC_lt {a b : ClaimD} : ltK (kC a) (kC b) ↔ cmpC a b = -1 := by
  rcases cmpC_cases a b with ⟨h, e⟩ | ⟨h, e⟩ | ⟨h, e⟩
  · exact ⟨fun _ => e, fun _ => h⟩
  · exact ⟨fun k => absurd (h ▸ k) ltK_irr, fun k => by omega⟩
  · exact ⟨fun k => absurd (ltK_trans h k) ltK_irr, fun k => by omega⟩
theorem cmpC_eq {a b : ClaimD} : kC a = kC b ↔ cmpC a b = 0 := by
  rcases cmpC_cases a b with ⟨h, e⟩ | ⟨h, e⟩ | ⟨h, e⟩
  · exact ⟨fun k => absurd (k ▸ h) ltK_irr, fun k => by omega⟩
  · exact ⟨fun _ => e, fun _ => h⟩
  · exact ⟨fun k => absurd (k ▸ h) ltK_irr, fun k => by omega⟩
theorem cmpC_gt {a b : ClaimD} : ltK (kC b) (kC a) ↔ cmpC a b = 1 := by
  rcases cmpC_cases a b with ⟨h, e⟩ | ⟨h, e⟩ | ⟨h, e⟩
  · exact ⟨fun k => absurd (ltK_trans h k) ltK_irr, fun k => by omega⟩
  · exact ⟨fun k => absurd (h ▸ k) ltK_irr, fun k => by omega⟩
  · exact ⟨fun _ => e, fun _ => h⟩
theorem cmpC_neg (a b : ClaimD) : cmpC b a = - cmpC a b := by
  rcases cmpC_cases a b with ⟨h, e⟩ | ⟨h, e⟩ | ⟨h, e⟩
  · rw [e, cmpC_gt.1 h]; rfl
  · rw [e, cmpC_eq.1 h.symm]; rfl
  · rw [e, cmpC_lt.1 h]
theorem cmpC_self (a : ClaimD) : cmpC a a = 0 := cmpC_eq.1 rfl
theorem cmpC_vals (a b : ClaimD) : cmpC a b = -1 ∨ cmpC a b = 0 ∨ cmpC a b = 1 := by
  rcases cmpC_cases a b with ⟨_, e⟩ | ⟨_, e⟩ | ⟨_, e⟩ <;> simp [e]
theorem cmpC_le {a b c : ClaimD} (h : cmpC a b ≤ 0) (k : cmpC b c ≤ 0) : cmpC a c ≤ 0 ∧ ((cmpC a b < 0 ∨ cmpC b c < 0) → cmpC a c < 0) := by
  rcases cmpC_cases a b with ⟨h1, e1⟩ | ⟨h1, e1⟩ | ⟨h1, e1⟩
  · rcases cmpC_cases b c with ⟨h2, e2⟩ | ⟨h2, e2⟩ | ⟨h2, e2⟩
    · rw [cmpC_lt.1 (ltK_trans h1 h2)]; omega
    · rw [cmpC_lt.1 (h2 ▸ h1)]; omega
    · omega
  · rcases cmpC_cases b c with ⟨h2, e2⟩ | ⟨h2, e2⟩ | ⟨h2, e2⟩
    · rw [cmpC_lt.1 (h1 ▸ h2)]; omega
    · rw [cmpC_eq.1 (h1.trans h2)]; omega
    · omega
  · omega
theorem order_t (a b c : ClaimD) : (fnT J1 [] 100 Tryd.f3 [Claim, Claim, Claim] [.bool] (a, b, c, ())).all fun y => y = (true, ()) := by
  refine Tree.all_eq (tOr a b c) ?_
  show Tree.all (α := Bool × Unit) _ Yes
  have w : IntKind.i64.wrap (0 - cmpC b a) = cmpC a b := by
    have h1 := cmpC_neg a b
    have h2 := cmpC_vals a b
    rw [IntWalk.i64_in (0 - cmpC b a) (by omega)]; omega
  simp only [all_leaf, all_fork, all_req, and_true, true_and, conjP, implies_true, yes_iff, w, beq_self_eq_true, cmpC_self, Bool.true_and]
  have h2 := cmpC_vals a b
  have h3 := cmpC_vals b c
  have h4 := fun h k => @cmpC_le a b c h k
  rw [decide_eq_true (show cmpC a b ≥ -1 by omega), decide_eq_true (show cmpC a b ≤ 1 by omega)]
  by_cases p : cmpC a b > 0
  · simp [p, show cmpC a b ≥ 0 by omega]
  · by_cases q : cmpC b c > 0
    · by_cases r : cmpC a b ≥ 0 <;> simp [p, q, r]
    · have h5 := h4 (by omega) (by omega)
      by_cases r : cmpC a b ≥ 0
      · simp [p, q, r, h5.1]
      · simp [p, q, r, h5.1, h5.2 (.inl (by omega))]
theorem order_ok : PureOK Tryd.prog 3 [Claim, Claim, Claim] [.bool] (fun _ => True) (fun _ => (true, ())) :=
  fn_pure (E := J1) (n := 100) J1_ok Tryd.func3 (by kernel_rfl) .nil fun x _ => order_t x.1 x.2.1 x.2.2.1
theorem loud_cases (a b : ClaimD) : (loudC a b = a ∧ cmpC a b ≥ 0) ∨ (loudC a b = b ∧ cmpC b a > 0) := by
  unfold loudC
  have := cmpC_neg a b
  split
  · exact .inr ⟨rfl, by assumption⟩
  · exact .inl ⟨rfl, by omega⟩
theorem claim_beq (a b : ClaimD) : (a.1 == b.1 && (a.2.1 == b.2.1 && (a.2.2 == b.2.2 && true))) = decide (a = b) := by
  obtain ⟨x, y, z⟩ := a
  obtain ⟨u, v, w⟩ := b
  rw [Bool.eq_iff_iff]; simp
theorem kC_loud (a b : ClaimD) : kC (loudC a b) = if cmpC b a > 0 then kC b else kC a := by unfold loudC; split <;> rfl
theorem cmpC_k {a b c : ClaimD} (h : kC a = kC b) : cmpC a c = cmpC b c ∧ cmpC c a = cmpC c b := by
  constructor
  · rcases cmpC_cases b c with ⟨h2, e2⟩ | ⟨h2, e2⟩ | ⟨h2, e2⟩
    · rw [e2, cmpC_lt.1 (h ▸ h2)]
    · rw [e2, cmpC_eq.1 (h.trans h2)]
    · rw [e2, cmpC_gt.1 (h ▸ h2)]
  · rcases cmpC_cases c b with ⟨h2, e2⟩ | ⟨h2, e2⟩ | ⟨h2, e2⟩
    · rw [e2, cmpC_lt.1 (h ▸ h2)]
    · rw [e2, cmpC_eq.1 (h2.trans h.symm)]
    · rw [e2, cmpC_gt.1 (h ▸ h2)]
theorem louder_t (a b c : ClaimD) : (fnT J1 [] 100 Tryd.f8 [Claim, Claim, Claim] [.bool] (a, b, c, ())).all fun y => y = (true, ()) := by
  refine Tree.all_eq (tLo a b c) ?_
  show Tree.all (α := Bool × Unit) _ Yes
  simp only [all_leaf, all_fork, all_req, and_true, true_and, conjP, implies_true, yes_iff, claim_beq]
  have hab := cmpC_neg a b
  have s1 : cmpC (loudC a b) a ≥ 0 ∧ cmpC (loudC a b) b ≥ 0 := by
    rcases loud_cases a b with ⟨e, h⟩ | ⟨e, h⟩
    · rw [e, cmpC_self]; omega
    · rw [e, cmpC_self]; omega
  have s2 : cmpC (loudC a b) (loudC b a) = 0 := by
    rw [← cmpC_eq, kC_loud, kC_loud]
    rcases cmpC_cases a b with ⟨h, e⟩ | ⟨h, e⟩ | ⟨h, e⟩
    · rw [if_pos (by omega), if_neg (by omega)]
    · rw [if_neg (by omega), if_neg (by omega), h]
    · rw [if_neg (by omega), if_pos (by omega)]
  have s3 : cmpC (loudC (loudC a b) c) (loudC a (loudC b c)) = 0 := by
    rw [← cmpC_eq]
    have hbc := cmpC_neg b c
    have hac := cmpC_neg a c
    rw [kC_loud, kC_loud a (loudC b c)]
    rcases loud_cases a b with ⟨e, h⟩ | ⟨e, h⟩ <;> rcases loud_cases b c with ⟨e', h'⟩ | ⟨e', h'⟩ <;> rw [e, e']
    · by_cases q : cmpC c a > 0
      · have := @cmpC_le a b c
        have := @cmpC_le c b a
        rw [if_pos q, if_neg (by omega)]
        exfalso
        have h5 := @cmpC_le c b a (by omega) (by omega)
        omega
      · rw [if_neg q, if_neg (by omega)]
    · rw [if_neg (by omega), if_pos h]
    · have h5 := @cmpC_le a b c (by omega) (by omega)
      rw [if_pos h', if_pos (by have := h5.2 (.inl (by omega)); omega)]
  have s4 : loudC a a = a := by unfold loudC; rw [cmpC_self]; rfl
  rw [s2, s3, s4, decide_eq_true s1.1, decide_eq_true s1.2]
  rcases loud_cases a b with ⟨e, _⟩ | ⟨e, _⟩
  · rw [e]; simp
  · rw [e]; simp
theorem louder_ok : PureOK Tryd.prog 8 [Claim, Claim, Claim] [.bool] (fun _ => True) (fun _ => (true, ())) :=
  fn_pure (E := J1) (n := 100) J1_ok Tryd.func8 (by kernel_rfl) .nil fun x _ => louder_t x.1 x.2.1 x.2.2.1
end Pl
