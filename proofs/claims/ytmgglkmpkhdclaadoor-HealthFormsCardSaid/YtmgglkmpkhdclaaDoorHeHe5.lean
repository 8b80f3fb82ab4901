import Derived.Test.YtmgglkmpkhdclaaDoorHeHe4
namespace Pl
open Go Sx Go.Proofs Go.RowKit
theorem left_t (n i m : Int) : (fnT J1 [] 100 Tryd.f5 [i64, i64, i64] [.bool] (n, i, m, ())).all fun y => y = (true, ()) := by
  refine Tree.all_eq (tLe n i m) ?_
  show Tree.all (α := Bool × Unit) _ Yes
  obtain ⟨N, hN, N0, N8⟩ := umod n 8 (by omega) (by omega)
  obtain ⟨I, hI, I0, I8⟩ := umod i 1000 (by omega) (by omega)
  obtain ⟨M, hM, M0, M8⟩ := umod m 1000 (by omega) (by omega)
  rw [hN, hI, hM]
  have w1 : IntKind.i64.wrap (1 + M) = 1 + M := IntWalk.i64_in _ (by omega)
  have w2 : IntKind.i64.wrap (I + (1 + M)) = I + (1 + M) := IntWalk.i64_in _ (by omega)
  rw [w1, w2]
  have f00 : cmpC (N, I, 1) (N, I, 1) = 0 := cmpC_self _
  have f01 : cmpC (N, I, 1) (N, I, 2) = -1 := cmpC_lt.1 (.inr ⟨rfl, .inr ⟨rfl, by show (1 : Int) < 2; decide⟩⟩)
  have f02 : cmpC (N, I, 1) (N, I, 3) = -1 := cmpC_lt.1 (.inr ⟨rfl, .inr ⟨rfl, by show (1 : Int) < 3; decide⟩⟩)
  have f03 : cmpC (N, I, 1) (N, I + (1 + M), 1) = -1 := cmpC_lt.1 (.inr ⟨rfl, .inl (by show I < I + (1 + M); omega)⟩)
  have f04 : cmpC (N, I, 1) (N, 0, 4) = -1 := cmpC_lt.1 (.inl (by show (0 : Int) < 1; decide))
  have f10 : cmpC (N, I, 2) (N, I, 1) = 1 := cmpC_gt.1 (.inr ⟨rfl, .inr ⟨rfl, by show (1 : Int) < 2; decide⟩⟩)
  have f11 : cmpC (N, I, 2) (N, I, 2) = 0 := cmpC_self _
  have f12 : cmpC (N, I, 2) (N, I, 3) = -1 := cmpC_lt.1 (.inr ⟨rfl, .inr ⟨rfl, by show (2 : Int) < 3; decide⟩⟩)
  have f13 : cmpC (N, I, 2) (N, I + (1 + M), 1) = -1 := cmpC_lt.1 (.inr ⟨rfl, .inl (by show I < I + (1 + M); omega)⟩)
  have f14 : cmpC (N, I, 2) (N, 0, 4) = -1 := cmpC_lt.1 (.inl (by show (0 : Int) < 1; decide))
  have f20 : cmpC (N, I, 3) (N, I, 1) = 1 := cmpC_gt.1 (.inr ⟨rfl, .inr ⟨rfl, by show (1 : Int) < 3; decide⟩⟩)
  have f21 : cmpC (N, I, 3) (N, I, 2) = 1 := cmpC_gt.1 (.inr ⟨rfl, .inr ⟨rfl, by show (2 : Int) < 3; decide⟩⟩)
  have f22 : cmpC (N, I, 3) (N, I, 3) = 0 := cmpC_self _
  have f23 : cmpC (N, I, 3) (N, I + (1 + M), 1) = -1 := cmpC_lt.1 (.inr ⟨rfl, .inl (by show I < I + (1 + M); omega)⟩)
  have f24 : cmpC (N, I, 3) (N, 0, 4) = -1 := cmpC_lt.1 (.inl (by show (0 : Int) < 1; decide))
  have f30 : cmpC (N, I + (1 + M), 1) (N, I, 1) = 1 := cmpC_gt.1 (.inr ⟨rfl, .inl (by show I < I + (1 + M); omega)⟩)
  have f31 : cmpC (N, I + (1 + M), 1) (N, I, 2) = 1 := cmpC_gt.1 (.inr ⟨rfl, .inl (by show I < I + (1 + M); omega)⟩)
  have f32 : cmpC (N, I + (1 + M), 1) (N, I, 3) = 1 := cmpC_gt.1 (.inr ⟨rfl, .inl (by show I < I + (1 + M); omega)⟩)
  have f33 : cmpC (N, I + (1 + M), 1) (N, I + (1 + M), 1) = 0 := cmpC_self _
  have f34 : cmpC (N, I + (1 + M), 1) (N, 0, 4) = -1 := cmpC_lt.1 (.inl (by show (0 : Int) < 1; decide))
  have f40 : cmpC (N, 0, 4) (N, I, 1) = 1 := cmpC_gt.1 (.inl (by show (0 : Int) < 1; decide))
  have f41 : cmpC (N, 0, 4) (N, I, 2) = 1 := cmpC_gt.1 (.inl (by show (0 : Int) < 1; decide))
  have f42 : cmpC (N, 0, 4) (N, I, 3) = 1 := cmpC_gt.1 (.inl (by show (0 : Int) < 1; decide))
  have f43 : cmpC (N, 0, 4) (N, I + (1 + M), 1) = 1 := cmpC_gt.1 (.inl (by show (0 : Int) < 1; decide))
  have f44 : cmpC (N, 0, 4) (N, 0, 4) = 0 := cmpC_self _
  have m0 : mayC (N, I, 1) = true := by simp [mayC, nodeB]; omega
  have m1 : mayC (N, I, 2) = true := by simp [mayC, nodeB]; omega
  have m2 : mayC (N, I, 3) = true := by simp [mayC, nodeB]; omega
  have m3 : mayC (N, I + (1 + M), 1) = true := by simp [mayC, nodeB]; omega
  have m4 : mayC (N, 0, 4) = true := by simp [mayC, nodeB]; omega
  simp only [all_leaf, all_fork, all_req, and_true, true_and, conjP, implies_true, yes_t, yes_f, yes_iff, f00, f01, f02, f03, f04, f10, f11, f12, f13, f14, f20, f21, f22, f23, f24, f30, f31, f32, f33, f34, f40, f41, f42, f43, f44, m0, m1, m2, m3, m4, bne_self_eq_false, Bool.not_true, Bool.or_self, Bool.false_eq_true, false_implies, Int.reduceBNe, Int.reduceNeg]
  omega
theorem left_ok : PureOK Tryd.prog 5 [i64, i64, i64] [.bool] (fun _ => True) (fun _ => (true, ())) :=
  fn_pure (E := J1) (n := 100) J1_ok Tryd.func5 (by kernel_rfl) .nil fun x _ => left_t x.1 x.2.1 x.2.2.1
theorem refC_cases (s i : Int) (c : ClaimD) : let G := nodeB s && (decide (0 ≤ i) && (decide (i ≤ 1000000) && mayC c))
    (G = false ∧ refC s i c = (0, 1)) ∨ (G = true ∧ ((c.1 = s ∧ (c.2.2 = 2 ∨ c.2.2 = 3) ∧ i ≤ c.2.1) ∧ c.2.1 = 1000000 ∧ refC s i c = (i, 6))) ∨
    (G = true ∧ ((c.1 = s ∧ (c.2.2 = 2 ∨ c.2.2 = 3) ∧ i ≤ c.2.1) ∧ c.2.1 ≠ 1000000 ∧ refC s i c = (c.2.1 + 1, 0))) ∨ (G = true ∧ (¬ (c.1 = s ∧ (c.2.2 = 2 ∨ c.2.2 = 3) ∧ i ≤ c.2.1) ∧ refC s i c = (i, 0))) := by
  intro G
  unfold refC
  by_cases h : (nodeB s && (decide (0 ≤ i) && (decide (i ≤ 1000000) && mayC c))) = true
  · rw [if_pos h]
    right
    by_cases d : c.1 = s ∧ (c.2.2 = 2 ∨ c.2.2 = 3) ∧ i ≤ c.2.1
    · rw [if_pos d]
      by_cases e : c.2.1 = 1000000
      · rw [if_pos e]; exact .inl ⟨h, d, e, rfl⟩
      · rw [if_neg e]; exact .inr (.inl ⟨h, d, e, rfl⟩)
    · rw [if_neg d]; exact .inr (.inr ⟨h, d, rfl⟩)
  · rw [if_neg h]; exact .inl ⟨eq_false_of_ne_true h, rfl⟩
theorem mayC_inc {c : ClaimD} (h : mayC c = true) : 0 ≤ c.2.1 ∧ c.2.1 ≤ 1000000 ∧ 0 ≤ c.2.2 ∧ c.2.2 ≤ 4 ∧ (c.2.2 = 0 → c.2.1 = 0) := by
  obtain ⟨n, i, k⟩ := c
  unfold mayC at h
  simp only [Bool.and_eq_true] at h
  by_cases e : k = 0
  · have h2 := h.2
    rw [if_pos e, decide_eq_true_eq] at h2
    simp only
    omega
  · have h2 := h.2
    rw [if_neg e] at h2
    simp only [Bool.and_eq_true, decide_eq_true_eq] at h2
    simp only
    omega
theorem refutes_t (s i : Int) (c : ClaimD) : (fnT J1 [] 100 Tryd.f4 [i64, i64, Claim] [.bool] (s, i, c, ())).all fun y => y = (true, ()) := by
  refine Tree.all_eq (tRe s i c) ?_
  show Tree.all (α := Bool × Unit) _ Yes
  simp only [all_leaf, all_fork, all_req, and_true, true_and, conjP, implies_true, yes_t, yes_f, yes_iff]
  have hG : ∀ h : (nodeB s && (decide (0 ≤ i) && (decide (i ≤ 1000000) && mayC c))) = true, nodeB s = true ∧ 0 ≤ s ∧ s < 8 ∧ 0 ≤ i ∧ i ≤ 1000000 ∧ mayC c = true := fun h => by
    simp only [Bool.and_eq_true, decide_eq_true_eq] at h
    have h1 := h.1
    simp only [nodeB, Bool.and_eq_true, decide_eq_true_eq] at h1
    exact ⟨h.1, h1.1, h1.2, h.2.1, h.2.2.1, h.2.2.2⟩
  have m1 : ∀ x : Int, nodeB s = true → 0 ≤ x → x ≤ 1000000 → mayC (s, x, 1) = true := fun x hn h0 h1 => by
    simp [mayC, hn, h0, h1]
  rcases refC_cases s i c with ⟨hg, e⟩ | ⟨hg, hd, hm, e⟩ | ⟨hg, hd, hm, e⟩ | ⟨hg, hd, e⟩
  · rw [e]
    refine ⟨fun _ => ?_, fun h => by simp at h⟩
    simp only [beq_self_eq_true, Bool.true_and]
    unfold nodeB at hg
    by_cases p1 : s ≥ 0 <;> by_cases p2 : s < 8 <;> by_cases p3 : i < 0 <;> by_cases p4 : i > 1000000 <;> simp [p1, p2, p3, p4]
    have a1 : decide (0 ≤ i) = true := decide_eq_true (by omega)
    have a2 : decide (i ≤ 1000000) = true := decide_eq_true (by omega)
    rw [decide_eq_true p1, decide_eq_true p2, a1, a2] at hg
    simpa using hg
  · rw [e]
    exact ⟨fun h => by simp at h, fun _ => ⟨fun _ => by simp [hm], fun h => by simp at h⟩⟩
  · obtain ⟨g1, g2, g3, g4, g5, g6⟩ := hG hg
    obtain ⟨k1, k2, k3, k4, k5⟩ := mayC_inc g6
    rw [e]
    have w : IntKind.i64.wrap (c.2.1 + 1) = c.2.1 + 1 := IntWalk.i64_in _ (by omega)
    refine ⟨fun h => by simp at h, fun _ => ⟨fun h => by simp at h, fun _ => ⟨fun h => ?_, fun _ => ⟨fun h => ?_, fun _ => ?_⟩⟩⟩⟩
    · rw [m1 _ g1 (by omega) (by omega)] at h
      simp only [Bool.or_eq_true, decide_eq_true_eq, Bool.not_true, bne_self_eq_false, Bool.false_eq_true, false_or, or_false] at h
      omega
    · exfalso
      have : cmpC (s, i, 1) c = -1 := cmpC_lt.1 (by
        have hk : kC c = (0, c.2.1, c.2.2) := by unfold kC; rw [if_neg (by rcases hd.2.1 with q | q <;> rw [q] <;> decide)]
        rw [hk]
        exact .inr ⟨rfl, by show i < c.2.1 ∨ (i = c.2.1 ∧ (1 : Int) < c.2.2); have q1 := hd.2.1; have q2 := hd.2.2; omega⟩)
      rw [this, hd.1] at h
      rcases hd.2.1 with q | q <;> rw [q] at h <;> simp at h
    · have : cmpC (s, c.2.1 + 1, 1) c = 1 := cmpC_gt.1 (by
        have hk : kC c = (0, c.2.1, c.2.2) := by unfold kC; rw [if_neg (by rcases hd.2.1 with q | q <;> rw [q] <;> decide)]
        rw [hk]
        exact .inr ⟨rfl, by show c.2.1 < c.2.1 + 1 ∨ (c.2.1 = c.2.1 + 1 ∧ c.2.2 < (1 : Int)); omega⟩)
      rw [this, w]
      rcases hd.2.1 with q | q <;> rw [q] <;> simp
  · obtain ⟨g1, g2, g3, g4, g5, g6⟩ := hG hg
    obtain ⟨k1, k2, k3, k4, k5⟩ := mayC_inc g6
    rw [e]
    refine ⟨fun h => by simp at h, fun _ => ⟨fun h => by simp at h, fun _ => ⟨fun h => ?_, fun _ => ⟨fun h => by simp, fun h => ?_⟩⟩⟩⟩
    · rw [m1 _ g1 g4 g5] at h
      simp only [Bool.or_eq_true, decide_eq_true_eq, Bool.not_true, bne_self_eq_false, Bool.false_eq_true, false_or, or_false] at h
      omega
    · simp only [Bool.or_eq_false_iff, bne_eq_false_iff_eq, beq_eq_false_iff_ne, decide_eq_false_iff_not] at h
      obtain ⟨a1, a2, a3⟩ := h
      have hlt : ltK (kC (s, i, 1)) (kC c) := by
        rcases cmpC_cases (s, i, 1) c with ⟨q, _⟩ | ⟨_, q⟩ | ⟨_, q⟩
        · exact q
        · omega
        · omega
      have hk : kC c = (0, c.2.1, c.2.2) := by unfold kC; rw [if_neg a2]
      rw [hk] at hlt
      have hlt : ltK (0, i, 1) (0, c.2.1, c.2.2) := hlt
      unfold ltK at hlt
      simp only at hlt
      have hh : c.2.2 = 1 := by
        by_cases q : c.2.2 = 2 ∨ c.2.2 = 3
        · exact absurd ⟨a1, q, by omega⟩ hd
        · by_cases z : c.2.2 = 0
          · have := k5 z; omega
          · omega
      rw [hh]; simp
theorem refutes_ok : PureOK Tryd.prog 4 [i64, i64, Claim] [.bool] (fun _ => True) (fun _ => (true, ())) :=
  fn_pure (E := J1) (n := 100) J1_ok Tryd.func4 (by kernel_rfl) .nil fun x _ => refutes_t x.1 x.2.1 x.2.2.1
end Pl
