import Derived.Test.YtenjakhegeclhaaClCi2
namespace Pl
open Go Sx Go.Proofs Go.RowKit
theorem qLoop_cons (now : List Int) (e : Int) (b : Bool) (x : Int) (r : List Int) (n : Nat) (out : List Int) (m : Int) : qLoop now e b (x :: r) (n : Int) out m = if decide (m > 0) && (decide (hasL now x > e) == b) then qLoop now e b r ((n + 1 : Nat) : Int) (out.set n (out.getD n 0 + 1)) (m - 1) else qLoop now e b r ((n + 1 : Nat) : Int) out m := rfl
theorem qLoop_A (now : List Int) (e : Int) (b : Bool) (k : Nat) : ∀ (l : List Int) (n : Nat) (out : List Int) (m : Int), n + l.length ≤ out.length → out.getD k 0 ≤ (qLoop now e b l (n : Int) out m).1.getD k 0 ∧ (qLoop now e b l (n : Int) out m).1.getD k 0 ≤ out.getD k 0 + 1 ∧ (k < n → (qLoop now e b l (n : Int) out m).1.getD k 0 = out.getD k 0)
  | [], _, _, _, _ => ⟨by simp only [qLoop]; omega, by simp only [qLoop]; omega, fun _ => rfl⟩
  | x :: r, n, out, m, h => by
    simp only [List.length_cons] at h
    rw [qLoop_cons]
    split
    · have := qLoop_A now e b k r (n + 1) (out.set n (out.getD n 0 + 1)) (m - 1) (by simp only [List.length_set]; omega)
      rw [getD_set _ _ _ _ (by omega)] at this
      by_cases c : k = n
      · subst c
        rw [if_pos rfl] at this
        have h3 := this.2.2 (by omega)
        exact ⟨by omega, by omega, fun z => by omega⟩
      · rw [if_neg c] at this
        exact ⟨this.1, this.2.1, fun z => this.2.2 (by omega)⟩
    · have := qLoop_A now e b k r (n + 1) out m (by omega)
      exact ⟨this.1, this.2.1, fun z => this.2.2 (by omega)⟩
theorem qLoop_B (now : List Int) (e : Int) (b : Bool) (k : Nat) : ∀ (l : List Int) (n : Nat) (out : List Int) (m : Int), n + l.length ≤ out.length → (n ≤ k → k < n + l.length → (decide (hasL now (l.getD (k - n) 0) > e) == b) = false) → (qLoop now e b l (n : Int) out m).1.getD k 0 = out.getD k 0
  | [], _, _, _, _, _ => rfl
  | x :: r, n, out, m, h, hk => by
    simp only [List.length_cons] at h hk
    have hr : n + 1 ≤ k → k < n + 1 + r.length → (decide (hasL now (r.getD (k - (n + 1)) 0) > e) == b) = false := fun h1 h2 => by
      have := hk (by omega) (by omega)
      rwa [show k - n = (k - (n + 1)) + 1 by omega, List.getD_cons_succ] at this
    rw [qLoop_cons]
    split
    · rename_i t
      rw [qLoop_B now e b k r (n + 1) _ (m - 1) (by simp only [List.length_set]; omega) hr, getD_set _ _ _ _ (by omega)]
      split
      · rename_i c
        subst c
        have := hk (by omega) (by omega)
        rw [Nat.sub_self, List.getD_cons_zero] at this
        simp only [Bool.and_eq_true] at t
        rw [this] at t
        exact absurd t.2 (by decide)
      · rfl
    · exact qLoop_B now e b k r (n + 1) out m (by omega) hr
theorem qLoop_C (now : List Int) (e : Int) (b : Bool) (k : Nat) : ∀ (l : List Int) (n : Nat) (out : List Int) (m : Int), n + l.length ≤ out.length → rch now e b l ≤ m → n ≤ k → k < n + l.length → (decide (hasL now (l.getD (k - n) 0) > e) == b) = true → (qLoop now e b l (n : Int) out m).1.getD k 0 = out.getD k 0 + 1
  | [], n, _, _, _, _, h1, h2, _ => by simp only [List.length_nil] at h2; omega
  | x :: r, n, out, m, h, hm, h1, h2, hk => by
    simp only [List.length_cons] at h h2
    simp only [rch] at hm
    have hn := rch_nn now e b r
    rw [qLoop_cons]
    by_cases c : k = n
    · subst c
      rw [Nat.sub_self, List.getD_cons_zero] at hk
      rw [if_pos hk] at hm
      rw [if_pos (by rw [hk]; simp only [Bool.and_eq_true, decide_eq_true_eq]; exact ⟨by omega, trivial⟩)]
      have := (qLoop_A now e b k r (k + 1) (out.set k (out.getD k 0 + 1)) (m - 1) (by simp only [List.length_set]; omega)).2.2 (by omega)
      rw [this, getD_set _ _ _ _ (by omega), if_pos rfl]
    · rw [show k - n = (k - (n + 1)) + 1 by omega, List.getD_cons_succ] at hk
      split
      · rename_i t
        simp only [Bool.and_eq_true, decide_eq_true_eq] at t
        rw [if_pos t.2] at hm
        rw [qLoop_C now e b k r (n + 1) _ (m - 1) (by simp only [List.length_set]; omega) (by omega) (by omega) (by omega) hk, getD_set _ _ _ _ (by omega), if_neg c]
      · refine qLoop_C now e b k r (n + 1) out m (by omega) ?_ (by omega) (by omega) hk
        split at hm <;> omega
theorem qLoop_D (now : List Int) (e : Int) (b : Bool) : ∀ (l : List Int) (i : Int) (out : List Int) (m : Int), m ≤ 0 → (qLoop now e b l i out m).1 = out
  | [], _, _, _, _ => rfl
  | x :: r, i, out, m, h => by
    simp only [qLoop]
    rw [if_neg (by simp; omega)]
    exact qLoop_D now e b r _ _ _ h
theorem rep_getD (k i : Nat) (v : Int) (h : i < k) : (List.replicate k v).getD i 0 = v := by
  simp [List.getD_eq_getElem?_getD, h]
theorem quotaM_between (now m : List Int) (i : Nat) (h1 : 1 ≤ m.length) (h8 : m.length ≤ 8) (hi : i < m.length) : qEach (m.length : Int) ≤ (quotaM now m).getD i 0 ∧ (quotaM now m).getD i 0 ≤ qEach (m.length : Int) + 1 := by
  have e : quotaM now m = (qLoop now (qEach (m.length : Int)) false m ((0 : Nat) : Int) (qLoop now (qEach (m.length : Int)) true m ((0 : Nat) : Int) (List.replicate m.length (qEach (m.length : Int))) (Int.tmod 16 (m.length : Int))).1 (qLoop now (qEach (m.length : Int)) true m ((0 : Nat) : Int) (List.replicate m.length (qEach (m.length : Int))) (Int.tmod 16 (m.length : Int))).2).1 := rfl
  rw [e]
  have hl := qLoop_len now (qEach (m.length : Int)) true m ((0 : Nat) : Int) (List.replicate m.length (qEach (m.length : Int))) (Int.tmod 16 (m.length : Int))
  rw [List.length_replicate] at hl
  have a1 := qLoop_A now (qEach (m.length : Int)) true i m 0 (List.replicate m.length (qEach (m.length : Int))) (Int.tmod 16 (m.length : Int)) (by simp)
  rw [rep_getD _ _ _ hi] at a1
  have a2 := qLoop_A now (qEach (m.length : Int)) false i m 0 (qLoop now (qEach (m.length : Int)) true m ((0 : Nat) : Int) (List.replicate m.length (qEach (m.length : Int))) (Int.tmod 16 (m.length : Int))).1 (qLoop now (qEach (m.length : Int)) true m ((0 : Nat) : Int) (List.replicate m.length (qEach (m.length : Int))) (Int.tmod 16 (m.length : Int))).2 (by omega)
  by_cases c : (decide (hasL now (m.getD i 0) > qEach (m.length : Int)) == true) = true
  · rw [qLoop_B now (qEach (m.length : Int)) false i m 0 _ _ (by omega) (fun _ _ => by rw [Nat.sub_zero]; revert c; cases decide (hasL now (m.getD i 0) > qEach (m.length : Int)) <;> simp)]
    exact ⟨a1.1, a1.2.1⟩
  · have b1 := qLoop_B now (qEach (m.length : Int)) true i m 0 (List.replicate m.length (qEach (m.length : Int))) (Int.tmod 16 (m.length : Int)) (by simp) (fun _ _ => by rw [Nat.sub_zero]; simpa using c)
    rw [rep_getD _ _ _ hi] at b1
    rw [b1] at a2
    exact ⟨a2.1, a2.2.1⟩
theorem rch_sum (now : List Int) (e : Int) : ∀ (m q : List Int), q.length = m.length → (∀ i, i < m.length → hasL now (m.getD i 0) = q.getD i 0 ∧ e ≤ q.getD i 0 ∧ q.getD i 0 ≤ e + 1) → rch now e true m = q.sum - m.length * e
  | [], [], _, _ => by simp [rch]
  | x :: m, y :: q, h, ha => by
    have h0 := ha 0 (by simp)
    simp only [List.getD_cons_zero] at h0
    have := rch_sum now e m q (by simpa using h) (fun i hi => by simpa using ha (i + 1) (by simpa using hi))
    simp only [rch, List.sum_cons, List.length_cons, this, h0.1, Int.natCast_add, Int.add_mul]
    split
    · rename_i c
      simp only [beq_iff_eq, decide_eq_true_eq] at c
      omega
    · rename_i c
      simp only [beq_iff_eq, decide_eq_true_eq] at c
      omega
  | [], _ :: _, h, _ => by simp at h
  | _ :: _, [], h, _ => by simp at h
theorem n16 {n : Nat} (h1 : 1 ≤ n) (h8 : n ≤ 8) : (n : Int) * qEach (n : Int) + Int.tmod 16 (n : Int) = 16 := by
  have : n = 1 ∨ n = 2 ∨ n = 3 ∨ n = 4 ∨ n = 5 ∨ n = 6 ∨ n = 7 ∨ n = 8 := by omega
  rcases this with h | h | h | h | h | h | h | h <;> rw [h] <;> decide
theorem quotaM_again (now m q : List Int) (h1 : 1 ≤ m.length) (h8 : m.length ≤ 8) (hq : q.length = m.length) (hs : q.sum = 16) (ha : ∀ i, i < m.length → hasL now (m.getD i 0) = q.getD i 0 ∧ qEach (m.length : Int) ≤ q.getD i 0 ∧ q.getD i 0 ≤ qEach (m.length : Int) + 1) : quotaM now m = q := by
  have hr := rch_sum now (qEach (m.length : Int)) m q hq ha
  have hn := qNum (n := (m.length : Int)) (by omega) (by omega)
  have h16 := n16 h1 h8
  have hm := qLoop_more now (qEach (m.length : Int)) true m ((0 : Nat) : Int) (List.replicate m.length (qEach (m.length : Int))) (Int.tmod 16 (m.length : Int)) hn.2.2.1
  have e : quotaM now m = (qLoop now (qEach (m.length : Int)) false m ((0 : Nat) : Int) (qLoop now (qEach (m.length : Int)) true m ((0 : Nat) : Int) (List.replicate m.length (qEach (m.length : Int))) (Int.tmod 16 (m.length : Int))).1 (qLoop now (qEach (m.length : Int)) true m ((0 : Nat) : Int) (List.replicate m.length (qEach (m.length : Int))) (Int.tmod 16 (m.length : Int))).2).1 := rfl
  rw [e, qLoop_D _ _ _ _ _ _ _ (by omega)]
  have hl := qLoop_len now (qEach (m.length : Int)) true m ((0 : Nat) : Int) (List.replicate m.length (qEach (m.length : Int))) (Int.tmod 16 (m.length : Int))
  rw [List.length_replicate] at hl
  refine ext_getD 0 (by omega) fun k hk => ?_
  have hk' : k < m.length := by omega
  obtain ⟨k1, k2, k3⟩ := ha k hk'
  by_cases c : hasL now (m.getD k 0) > qEach (m.length : Int)
  · rw [qLoop_C now (qEach (m.length : Int)) true k m 0 _ _ (by simp) (by omega) (by omega) (by omega) (by rw [Nat.sub_zero]; simpa using c), rep_getD _ _ _ hk']
    omega
  · rw [qLoop_B now (qEach (m.length : Int)) true k m 0 _ _ (by simp) (fun _ _ => by rw [Nat.sub_zero]; simpa using c), rep_getD _ _ _ hk']
    omega
end Pl
