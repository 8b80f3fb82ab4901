import Derived.Test.YtdjgbkmakjhdgaaDoorSqSpE
namespace Pl
open Go Sx Go.Proofs Go.RowKit
def chV (n : Int) : Int := if n = -1 then 45 else 48 + n
theorem chV_eq {u v : Int} (hu : -1 ≤ u ∧ u < 8) (hv : -1 ≤ v ∧ v < 8) : (chV u == chV v) = (u == v) := by
  rw [Bool.eq_iff_iff, beq_iff_eq, beq_iff_eq]; unfold chV; split <;> split <;> omega
theorem chV_45 {u : Int} (hu : -1 ≤ u ∧ u < 8) : (chV u == 45) = decide (u < 0) := by
  rw [Bool.eq_iff_iff, beq_iff_eq, decide_eq_true_iff]; unfold chV; split <;> omega
theorem chS_val {n : Int} (h : -1 ≤ n ∧ n < 8) : ((chS n).toNat : Int) = chV n := by
  have : n = -1 ∨ n = 0 ∨ n = 1 ∨ n = 2 ∨ n = 3 ∨ n = 4 ∨ n = 5 ∨ n = 6 ∨ n = 7 := by omega
  rcases this with rfl | rfl | rfl | rfl | rfl | rfl | rfl | rfl | rfl <;> rfl
theorem txtL_len (l : List Int) : (txtL l).length = 16 := by simp [txtL]
theorem txtB_len (l : List Int) : (txtB l).1.1.length = 16 := txtL_len l
theorem txtL_get (l : List Int) {k : Nat} (h : k < 16) : (txtL l).getD k 0 = chS (atS l (k : Int)) := by
  rw [getD_get 0 (by rw [txtL_len]; exact h)]; simp [txtL]
theorem byte_txt (l : List Int) {p : Int} (h0 : 0 ≤ p) (h1 : p < 16) : byteAt (txtB l) p = chV (atS l p) := by
  unfold byteAt txtB
  show (((txtL l).getD p.toNat 0).toNat : Int) = _
  rw [txtL_get l (by omega), Int.toNat_of_nonneg h0, chS_val (atS_range l p)]
theorem atS_eq (l : List Int) {p : Int} (h0 : 0 ≤ p) (h1 : p < 16) : atS l p = if (decide (p < (l.length : Int)) && (decide (l.getD p.toNat 0 ≥ 0) && decide (l.getD p.toNat 0 < 8))) = true then l.getD p.toNat 0 else -1 := by
  unfold atS nodeB
  rw [decide_eq_true h0, decide_eq_true h1, Bool.true_and, Bool.true_and]
end Pl
