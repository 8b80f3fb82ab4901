import Derived.Test.YtcjhmlfdmddhkaaGoPl5
namespace Pl
open Go Sx Go.Proofs Go.RowKit
theorem cmpI_neg (a b : Int) : cmpI b a = -cmpI a b := by
  unfold cmpI; split <;> split <;> (try split) <;> omega
theorem cmpI_zero {a b : Int} : cmpI a b = 0 ↔ a = b := by
  unfold cmpI; split <;> (try split) <;> omega
theorem cmpL_neg : ∀ l m : List Int, cmpL m l = -cmpL l m
  | [], [] => rfl
  | [], _ :: _ => rfl
  | _ :: _, [] => rfl
  | x :: r, y :: s => by
    simp only [cmpL, cmpI_neg x y, cmpL_neg r s]
    split <;> split <;> omega
theorem cmpL_zero : ∀ l m : List Int, cmpL l m = 0 ↔ l = m
  | [], [] => by simp [cmpL]
  | [], _ :: _ => by simp [cmpL]
  | _ :: _, [] => by simp [cmpL]
  | x :: r, y :: s => by
    simp only [cmpL, List.cons.injEq]
    split
    · rename_i h; rw [cmpL_zero r s, cmpI_zero.1 h]; simp
    · rename_i h
      have : ¬ x = y := fun e => h (cmpI_zero.2 e)
      simp [h, this]
theorem cmpP_neg (a b : PlanD) : cmpP b a = -cmpP a b := by
  simp only [cmpP, orL, cmpI_neg a.1 b.1, cmpI_neg a.2.1 b.2.1, cmpI_neg (a.2.2.length : Int) b.2.2.length, cmpL_neg a.2.2 b.2.2]
  repeat' split
  all_goals omega
theorem cmpP_zero (p q : PlanD) : cmpP p q = 0 ↔ p = q := by
  obtain ⟨v, b, l⟩ := p
  obtain ⟨v', b', l'⟩ := q
  simp only [cmpP, orL, Prod.mk.injEq]
  constructor
  · intro h
    split at h
    · rename_i h1
      split at h
      · rename_i h2
        split at h
        · split at h
          · rename_i h4; exact ⟨cmpI_zero.1 h1, cmpI_zero.1 h2, (cmpL_zero _ _).1 h4⟩
          · rename_i h4; exact absurd h h4
        · rename_i h3; exact absurd h h3
      · rename_i h2; exact absurd h h2
    · rename_i h1; exact absurd h h1
  · rintro ⟨rfl, rfl, rfl⟩
    simp [cmpI_zero.2, (cmpL_zero _ _).2]
theorem join_comm (a b : PlanD) : joinP a b = joinP b a := by
  unfold joinP
  have h := cmpP_neg a b
  by_cases h0 : cmpP a b = 0
  · have := (cmpP_zero a b).1 h0
    subst this; rfl
  · split <;> split <;> first | rfl | omega
theorem cmpI_vals (a b : Int) : (a < b ∧ cmpI a b = -1) ∨ (a = b ∧ cmpI a b = 0) ∨ (b < a ∧ cmpI a b = 1) := by
  unfold cmpI; split
  · exact .inl ⟨by assumption, rfl⟩
  · split
    · exact .inr (.inr ⟨by assumption, rfl⟩)
    · exact .inr (.inl ⟨by omega, rfl⟩)
theorem cmpL_vals : ∀ l m : List Int, cmpL l m = -1 ∨ cmpL l m = 0 ∨ cmpL l m = 1
  | [], [] => by simp [cmpL]
  | [], _ :: _ => by simp [cmpL]
  | _ :: _, [] => by simp [cmpL]
  | x :: r, y :: s => by
    simp only [cmpL]
    have := cmpL_vals r s
    rcases cmpI_vals x y with ⟨_, h⟩ | ⟨_, h⟩ | ⟨_, h⟩ <;> rw [h] <;> simp <;> omega
theorem cmpL_trans : ∀ l m n : List Int, cmpL l m ≤ 0 → cmpL m n ≤ 0 → cmpL l n ≤ 0
  | [], [], [], _, _ => by simp [cmpL]
  | [], [], _ :: _, _, _ => by simp [cmpL]
  | [], _ :: _, [], _, _ => by simp [cmpL]
  | [], _ :: _, _ :: _, _, _ => by simp [cmpL]
  | _ :: _, [], _, h, _ => by simp [cmpL] at h
  | _ :: _, _ :: _, [], _, h => by simp [cmpL] at h
  | x :: r, y :: s, z :: u, h, k => by
    simp only [cmpL] at h k ⊢
    have ih := cmpL_trans r s u
    rcases cmpI_vals x y with ⟨h1, h2⟩ | ⟨h1, h2⟩ | ⟨h1, h2⟩ <;> rcases cmpI_vals y z with ⟨k1, k2⟩ | ⟨k1, k2⟩ | ⟨k1, k2⟩ <;> rw [h2] at h <;> rw [k2] at k <;>
      rcases cmpI_vals x z with ⟨g1, g2⟩ | ⟨g1, g2⟩ | ⟨g1, g2⟩ <;> rw [g2] <;> simp_all <;> omega
def T1 (a b c : Int) : Prop := a ≤ 0 → b ≤ 0 → c ≤ 0
def T2 (a b c : Int) : Prop := a ≤ 0 → b ≤ 0 → c ≤ 0 ∧ (c = 0 → a = 0 ∧ b = 0)
theorem cmpI_T (x y z : Int) : T2 (cmpI x y) (cmpI y z) (cmpI x z) := by
  unfold T2
  rcases cmpI_vals x y with ⟨h1, h2⟩ | ⟨h1, h2⟩ | ⟨h1, h2⟩ <;> rcases cmpI_vals y z with ⟨k1, k2⟩ | ⟨k1, k2⟩ | ⟨k1, k2⟩ <;> rcases cmpI_vals x z with ⟨g1, g2⟩ | ⟨g1, g2⟩ | ⟨g1, g2⟩ <;> rw [h2, k2, g2] <;> omega
theorem lexT {a b c : Int} {x y z : List Int} (h : T2 a b c) (k : T1 (orL x) (orL y) (orL z)) : T1 (orL (a :: x)) (orL (b :: y)) (orL (c :: z)) := by
  unfold T1 T2 at *
  simp only [orL]
  intro h1 h2
  split at h1 <;> split at h2 <;> split
  all_goals first
    | exact k (by assumption) (by assumption)
    | (obtain ⟨h3, h4⟩ := h (by omega) (by omega); first | omega | (have := h4 (by omega); omega))
theorem orL_one (d : Int) : orL [d] = d := by simp only [orL]; split <;> omega
theorem cmpP_trans (p q r : PlanD) (h : cmpP p q ≤ 0) (k : cmpP q r ≤ 0) : cmpP p r ≤ 0 := by
  refine lexT (cmpI_T _ _ _) (lexT (cmpI_T _ _ _) (lexT (cmpI_T _ _ _) ?_)) h k
  rw [orL_one, orL_one, orL_one]
  exact cmpL_trans _ _ _
theorem cmpP_vals (p q : PlanD) : cmpP p q = -1 ∨ cmpP p q = 0 ∨ cmpP p q = 1 := by
  simp only [cmpP, orL]
  have h1 := cmpI_vals p.1 q.1
  have h2 := cmpI_vals p.2.1 q.2.1
  have h3 := cmpI_vals p.2.2.length q.2.2.length
  have h4 := cmpL_vals p.2.2 q.2.2
  split
  · split
    · split
      · split
        · exact .inr (.inl rfl)
        · exact h4
      · omega
    · omega
  · omega
theorem join_either (a b : PlanD) : joinP a b = a ∨ joinP a b = b := by unfold joinP; split <;> simp
theorem join_self (a : PlanD) : joinP a a = a := by unfold joinP; split <;> rfl
theorem cmpP_self (a : PlanD) : cmpP a a = 0 := (cmpP_zero a a).2 rfl
theorem le_join (a b : PlanD) : cmpP a (joinP a b) ≤ 0 := by
  unfold joinP
  have := cmpP_neg a b
  split
  · omega
  · rw [cmpP_self]; omega
theorem le_join' (a b : PlanD) : cmpP b (joinP a b) ≤ 0 := by rw [join_comm]; exact le_join b a
theorem join_least (a b c : PlanD) (h : cmpP a c ≤ 0) (k : cmpP b c ≤ 0) : cmpP (joinP a b) c ≤ 0 := by
  rcases join_either a b with e | e <;> rw [e] <;> assumption
theorem antisymm {a b : PlanD} (h : cmpP a b ≤ 0) (k : cmpP b a ≤ 0) : a = b := by
  have := cmpP_neg a b
  exact (cmpP_zero a b).1 (by omega)
theorem join_assoc (a b c : PlanD) : joinP (joinP a b) c = joinP a (joinP b c) := by
  refine antisymm (join_least _ _ _ (join_least _ _ _ (le_join _ _) ?_) ?_) (join_least _ _ _ ?_ (join_least _ _ _ ?_ (le_join' _ _)))
  · exact cmpP_trans _ _ _ (le_join b c) (le_join' a _)
  · exact cmpP_trans _ _ _ (le_join' b c) (le_join' a _)
  · exact cmpP_trans _ _ _ (le_join a b) (le_join _ c)
  · exact cmpP_trans _ _ _ (le_join' a b) (le_join _ c)
theorem sameF_self (a : PlanD) : sameF a a = true := by simp [sameF]
end Pl
