import Derived.Test.YtdjgbkmakjhdgaaSpSpE
namespace Pl
open Go Sx Go.Proofs Go.RowKit
def chV (n : Int) : Int := if n = -1 then 45 else 48 + n
theorem chV_eq {u v : Int} (hu : -1 ≤ u ∧ u < 8) (hv : -1 ≤ v ∧ v < 8) : (chV u == chV v) = (u == v) := by
  rw [Bool.eq_iff_iff, beq_iff_eq, beq_iff_eq]; unfold chV; split <;> split <;> omega
theorem chV_45 {u : Int} (hu : -1 ≤ u ∧ u < 8) : (chV u == 45) = decide (u < 0) := by
  rw [Bool.eq_iff_iff, beq_iff_eq, decide_eq_true_iff]; unfold chV; split <;> omega
theorem chS_val {n : Int} (h : -1 ≤ n ∧ n < 8) : ((chS n).toNat : Int) = chV n := by
  have : n = -1 ∨ n = 0 ∨ n = 1 ∨ n = 2 ∨ n = 3 ∨ n = 4 ∨ n = 5 ∨ n = 6 ∨ n = 7 := by omega
  rcases this with rfl | rfl | rfl | rfl | rfl | rfl | rfl | rfl | rfl <;> rfl
theorem txtL_len (l : List Int) : (txtL l).length = 16 := by simp [txtL]
theorem txtB_len (l : List Int) : (txtB l).1.1.length = 16 := txtL_len l
theorem txtL_get (l : List Int) {k : Nat} (h : k < 16) : (txtL l).getD k 0 = chS (atS l (k : Int)) := by
  rw [getD_get 0 (by rw [txtL_len]; exact h)]; simp [txtL]
theorem byte_txt (l : List Int) {p : Int} (h0 : 0 ≤ p) (h1 : p < 16) : byteAt (txtB l) p = chV (atS l p) := by
  unfold byteAt txtB
  show (((txtL l).getD p.toNat 0).toNat : Int) = _
  rw [txtL_get l (by omega), Int.toNat_of_nonneg h0, chS_val (atS_range l p)]
theorem atS_eq (l : List Int) {p : Int} (h0 : 0 ≤ p) (h1 : p < 16) : atS l p = if (decide (p < (l.length : Int)) && (decide (l.getD p.toNat 0 ≥ 0) && decide (l.getD p.toNat 0 < 8))) = true then l.getD p.toNat 0 else -1 := by
  unfold atS nodeB
  rw [decide_eq_true h0, decide_eq_true h1, Bool.true_and, Bool.true_and]
theorem lTx : LpsOK Try.prog Try.f3 [(0, LTx.sp)] := by
  refine .cons (LTx.sound M8_ok (lps := []) (n := 100) (inner rfl) (fun _ => rfl) ?_) .nil
  rintro ⟨a, b, x, y, p⟩ ⟨h1, h2, h3, h4⟩
  simp only at h1 h2 h3 h4
  subst h3; subst h4
  rw [rTx]
  simp only [all_leaf, all_fork, all_req, conjP, true_and, and_true]
  refine ⟨fun c => ?_, fun _ => trivial⟩
  have c : p < 16 := of_decide_eq_true c
  have l1 := txtB_len a
  have l2 := txtB_len b
  have i1 : 0 ≤ p ∧ p < ((txtB a).1.1.length : Int) := ⟨h1, by omega⟩
  have i2 : 0 ≤ p ∧ p < ((txtB b).1.1.length : Int) := ⟨h1, by omega⟩
  have nx : LTx.Next ⟨a, b, txtB a, txtB b, p⟩ (some ⟨a, b, txtB a, txtB b, IntKind.i64.wrap (p + 1)⟩) := by
    rw [IntWalk.i64_in (p + 1) (by omega)]
    exact ⟨⟨by dsimp only; omega, by dsimp only; omega, rfl, rfl⟩, by simp only [LTx]; omega, rfl⟩
  have e1 := atS_eq a h1 c
  have e2 := atS_eq b h1 c
  have r1 := atS_range a p
  have r2 := atS_range b p
  rw [byte_txt a h1 c, byte_txt b h1 c]
  have pre : ∀ l : List Int, decide (p < (l.length : Int)) = true → ((0 ≤ p ∧ p < (l.length : Int)) ∧ (0 ≤ p ∧ p < (l.length : Int)) ∧ (decide (l.getD p.toNat 0 ≥ 0) = true → ((0 ≤ p ∧ p < (l.length : Int)) ∧ (0 ≤ p ∧ p < (l.length : Int))))) := fun l h => by
    have h := of_decide_eq_true h
    exact ⟨⟨h1, h⟩, ⟨h1, h⟩, fun _ => ⟨⟨h1, h⟩, ⟨h1, h⟩⟩⟩
  have inb : ∀ l : List Int, (decide (p < (l.length : Int)) && (decide (l.getD p.toNat 0 ≥ 0) && decide (l.getD p.toNat 0 < 8))) = true → 0 ≤ p ∧ p < (l.length : Int) := fun l h => by
    simp only [Bool.and_eq_true, decide_eq_true_eq] at h; exact ⟨h1, h.1⟩
  have fin : ∀ u v : Int, atS a p = u → atS b p = v → ((0 ≤ p ∧ p < ((txtB a).1.1.length : Int)) ∧ (0 ≤ p ∧ p < ((txtB b).1.1.length : Int)) ∧ ((!(chV (atS a p) == chV (atS b p)) == (u == v)) = false → (0 ≤ p ∧ p < ((txtB a).1.1.length : Int)))) ∧ (!(chV (atS a p) == chV (atS b p)) == (u == v) || !(chV (atS a p) == 45) == decide (u < 0)) = false := fun u v hu hv => by
    refine ⟨⟨i1, i2, fun _ => i1⟩, ?_⟩
    rw [chV_eq r1 r2, chV_45 r1, hu, hv]; simp
  refine ⟨pre a, fun d => ?_, fun d => ?_⟩
  · rw [if_pos d] at e1
    refine ⟨inb a d, inb a d, pre b, fun f => ?_, fun f => ?_⟩
    · rw [if_pos f] at e2
      have g := fin _ _ e1 e2
      exact ⟨inb b f, inb b f, g.1, fun z => Bool.noConfusion (z.symm.trans g.2), fun _ => nx⟩
    · rw [if_neg (by rw [f]; decide)] at e2
      have g := fin _ _ e1 e2
      exact ⟨g.1, fun z => Bool.noConfusion (z.symm.trans g.2), fun _ => nx⟩
  · rw [if_neg (by rw [d]; decide)] at e1
    refine ⟨pre b, fun f => ?_, fun f => ?_⟩
    · rw [if_pos f] at e2
      have g := fin _ _ e1 e2
      exact ⟨inb b f, inb b f, g.1, fun z => Bool.noConfusion (z.symm.trans g.2), fun _ => nx⟩
    · rw [if_neg (by rw [f]; decide)] at e2
      have g := fin _ _ e1 e2
      exact ⟨g.1, fun z => Bool.noConfusion (z.symm.trans g.2), fun _ => nx⟩
theorem texts_ok : PureOK Try.prog 3 [ints, ints] [.bool] (fun _ => True) (fun _ => (true, ())) :=
  fn_pure (E := M8) (n := 100) M8_ok Try.func3 (by kernel_rfl) lTx fun x _ => by
    refine Tree.all_eq (tTx x.1 x.2.1) ?_
    show Tree.all (α := Bool × Unit) _ Yes
    simp only [all_leaf, all_fork, all_req, true_and, and_true, yes_t, yes_f, implies_true]
    exact fun _ => ⟨fun h => (by cases h), fun _ => ⟨by omega, by omega⟩⟩
end Pl
