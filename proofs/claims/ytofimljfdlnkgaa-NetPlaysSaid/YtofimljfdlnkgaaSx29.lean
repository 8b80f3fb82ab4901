/- A symbolic executor for the model's code: small facts on numbers and lists. -/
import Derived.Test.YtofimljfdlnkgaaSx28
import Derived.IntWalk
namespace Sx
open Go Go.RowKit

theorem u64_range (n : Int) : 0 ≤ IntKind.u64.wrap n ∧ IntKind.u64.wrap n < 18446744073709551616 := by
  rw [IntKind.wrap_u64]; omega
theorem i64_range (n : Int) : -9223372036854775808 ≤ IntKind.i64.wrap n ∧ IntKind.i64.wrap n ≤ 9223372036854775807 := by
  rw [IntKind.wrap_i64]; omega
theorem umod (n k : Int) (h : 0 < k) (h2 : k ≤ 4611686018427387904) : ∃ r, IntKind.i64.wrap ((IntKind.u64.wrap n).tmod k) = r ∧ 0 ≤ r ∧ r < k := by
  refine ⟨_, rfl, ?_⟩
  have h0 := (u64_range n).1
  have h3 : (IntKind.u64.wrap n).tmod k = (IntKind.u64.wrap n) % k := Int.tmod_eq_emod_of_nonneg h0
  have h4 := Int.emod_nonneg (IntKind.u64.wrap n) (b := k) (by omega)
  have h5 := Int.emod_lt_of_pos (IntKind.u64.wrap n) h
  rw [h3, IntWalk.i64_in _ (by omega)]
  exact ⟨h4, h5⟩
theorem i64_succ {i m : Int} (h0 : 0 ≤ i) (h1 : i < m) (h2 : m ≤ 4611686018427387904) : IntKind.i64.wrap (i + 1) = i + 1 := IntWalk.i64_in _ (by omega)
theorem toNat_succ {i : Int} (h : 0 ≤ i) : (i + 1).toNat = i.toNat + 1 := by omega
theorem drop_cons {α : Type} {l : List α} {i : Int} (z : α) (h0 : 0 ≤ i) (h1 : i < l.length) : l.drop i.toNat = l.getD i.toNat z :: l.drop (i + 1).toNat := by
  have hi : i.toNat < l.length := by omega
  rw [toNat_succ h0, List.drop_eq_getElem_cons hi]
  simp [List.getD_eq_getElem?_getD, hi]
theorem drop_end {α : Type} {l : List α} {i : Int} (h1 : ¬ i < l.length) : l.drop i.toNat = [] := List.drop_eq_nil_of_le (by omega)
theorem take_succ {α : Type} {l : List α} {i : Int} (z : α) (h0 : 0 ≤ i) (h1 : i < l.length) : l.take (i + 1).toNat = l.take i.toNat ++ [l.getD i.toNat z] := by
  have hi : i.toNat < l.length := by omega
  rw [toNat_succ h0, List.take_succ_eq_append_getElem hi]
  simp [List.getD_eq_getElem?_getD, hi]
theorem getD_mem {α : Type} {l : List α} {i : Int} (z : α) (h0 : 0 ≤ i) (h1 : i < l.length) : l.getD i.toNat z ∈ l := by
  have hi : i.toNat < l.length := by omega
  simp [List.getD_eq_getElem?_getD, hi]
theorem getD_get {α : Type} {l : List α} {i : Nat} (z : α) (h : i < l.length) : l.getD i z = l[i] := by
  simp [List.getD_eq_getElem?_getD, h]
theorem set_take_succ {α : Type} {l : List α} {n : Nat} (v : α) (h : n < l.length) : (l.set n v).take (n + 1) = l.take n ++ [v] := by
  rw [List.take_succ_eq_append_getElem (by simpa using h)]
  simp [List.take_set_of_le]
theorem blt_t {a b : Nat} (h : a < b) : Nat.blt a b = true := blt_iff.2 h
theorem blt_f {a b : Nat} (h : b ≤ a) : Nat.blt a b = false := by
  cases hc : Nat.blt a b with
  | false => rfl
  | true => have := blt_iff.1 hc; omega
theorem nloops_at : ∀ (c : Code) (j : Nat), j < nloops c → nloops (loopAt c j) + j + 1 ≤ nloops c
  | .seq a b, j, h => by
    simp only [nloops] at h ⊢
    simp only [loopAt]
    rcases Nat.lt_or_ge j (nloops a) with h1 | h1
    · rw [blt_t h1]; have := nloops_at a j h1; simp only [cond_true]; omega
    · rw [blt_f h1]; have := nloops_at b (j - nloops a) (by omega); simp only [cond_false]; omega
  | .cond _ a b, j, h => by
    simp only [nloops] at h ⊢
    simp only [loopAt]
    rcases Nat.lt_or_ge j (nloops a) with h1 | h1
    · rw [blt_t h1]; have := nloops_at a j h1; simp only [cond_true]; omega
    · rw [blt_f h1]; have := nloops_at b (j - nloops a) (by omega); simp only [cond_false]; omega
  | .block _ c, j, h => by simp only [nloops] at h ⊢; simp only [loopAt]; exact nloops_at c j h
  | .scope c, j, h => by simp only [nloops] at h ⊢; simp only [loopAt]; exact nloops_at c j h
  | .loop c, 0, h => by simp only [nloops, loopAt]; omega
  | .loop c, j + 1, h => by simp only [nloops] at h ⊢; simp only [loopAt]; have := nloops_at c j (by omega); omega
  | .skip, j, h => by simp [nloops] at h
  | .region .., j, h => by simp [nloops] at h
  | .rangeFunc .., j, h => by simp [nloops] at h
  | .exit _, j, h => by simp [nloops] at h
  | .ret, j, h => by simp [nloops] at h
  | .label _, j, h => by simp [nloops] at h
  | .goto _, j, h => by simp [nloops] at h
theorem loopAt_at : ∀ (c : Code) (j i : Nat), j < nloops c → i < nloops (loopAt c j) → loopAt (loopAt c j) i = loopAt c (j + 1 + i)
  | .seq a b, j, i, h, hi => by
    simp only [nloops] at h
    simp only [loopAt] at hi ⊢
    rcases Nat.lt_or_ge j (nloops a) with h1 | h1
    · rw [blt_t h1] at hi ⊢
      simp only [cond_true] at hi ⊢
      have := nloops_at a j h1
      rw [blt_t (by omega)]; exact loopAt_at a j i h1 hi
    · rw [blt_f h1] at hi ⊢
      simp only [cond_false] at hi ⊢
      rw [blt_f (by omega)]; simp only [cond_false]
      rw [loopAt_at b (j - nloops a) i (by omega) hi]; congr 1; omega
  | .cond _ a b, j, i, h, hi => by
    simp only [nloops] at h
    simp only [loopAt] at hi ⊢
    rcases Nat.lt_or_ge j (nloops a) with h1 | h1
    · rw [blt_t h1] at hi ⊢
      simp only [cond_true] at hi ⊢
      have := nloops_at a j h1
      rw [blt_t (by omega)]; exact loopAt_at a j i h1 hi
    · rw [blt_f h1] at hi ⊢
      simp only [cond_false] at hi ⊢
      rw [blt_f (by omega)]; simp only [cond_false]
      rw [loopAt_at b (j - nloops a) i (by omega) hi]; congr 1; omega
  | .block _ c, j, i, h, hi => by simp only [nloops] at h; simp only [loopAt] at hi ⊢; exact loopAt_at c j i h hi
  | .scope c, j, i, h, hi => by simp only [nloops] at h; simp only [loopAt] at hi ⊢; exact loopAt_at c j i h hi
  | .loop c, 0, i, h, hi => by
    simp only [loopAt] at hi ⊢
    rw [show 0 + 1 + i = i + 1 by omega]
  | .loop c, j + 1, i, h, hi => by
    simp only [nloops] at h
    simp only [loopAt] at hi ⊢
    rw [show j + 1 + 1 + i = (j + 1 + i) + 1 by omega]
    exact loopAt_at c j i (by omega) hi
  | .skip, j, i, h, hi => by simp [nloops] at h
  | .region .., j, i, h, hi => by simp [nloops] at h
  | .rangeFunc .., j, i, h, hi => by simp [nloops] at h
  | .exit _, j, i, h, hi => by simp [nloops] at h
  | .ret, j, i, h, hi => by simp [nloops] at h
  | .label _, j, i, h, hi => by simp [nloops] at h
  | .goto _, j, i, h, hi => by simp [nloops] at h
/-- the loops within a loop, by a list -/
theorem LpsOK.within {P : Program} {fn : Func} {lps : List (Nat × (St → Tree Out))} (h : LpsOK P fn lps) {j : Nat} (hj : Nat.blt j (nloops (bodyOf fn)) = true) : LoopsOK P fn.ntmps (look lps) (loopAt (bodyOf fn) j) (j + 1) := by
  intro i hi sp hsp st out hr
  rw [loopAt_at (bodyOf fn) j i (blt_iff.1 hj) hi]
  exact h (j + 1 + i) sp hsp st out hr
end Sx
