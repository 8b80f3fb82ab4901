import Derived.Test.YtdjgbkmakjhdgaaDoorSqSpG
namespace Pl
open Go Sx Go.Proofs Go.RowKit
theorem getD_setS (l : List Int) (k i : Nat) (v : Int) (h : k < l.length) : (l.set k v).getD i 0 = if i = k then v else l.getD i 0 := by
  simp only [List.getD_eq_getElem?_getD, List.getElem?_set]
  by_cases e : k = i
  · subst e; simp [h]
  · rw [if_neg e, if_neg (Ne.symm e)]
theorem nxF_spec {a : List Int} {p n : Int} (h0 : 0 ≤ p) (h1 : p < 16) (h2 : atS a p = n) : ∀ (c : Nat) (s : Int), s + c = 17 → 1 ≤ s → 1 ≤ c → s ≤ nxF a n p c s ∧ nxF a n p c s ≤ 16 ∧ atS a ((p + nxF a n p c s) % 16) = n ∧ ∀ j, s ≤ j → j < nxF a n p c s → atS a ((p + j) % 16) ≠ n
  | 0, _, _, _, h => absurd h (by omega)
  | c + 1, s, hc, hs, _ => by
    rw [nxF]
    by_cases e : atS a ((p + s) % 16) = n
    · rw [if_pos e]
      exact ⟨by omega, by omega, e, fun j a1 a2 => by omega⟩
    · rw [if_neg e]
      by_cases c0 : c = 0
      · subst c0
        have : s = 16 := by omega
        subst this
        rw [show (p + 16) % 16 = p by omega] at e
        exact absurd h2 e
      · obtain ⟨k1, k2, k3, k4⟩ := nxF_spec h0 h1 h2 c (s + 1) (by omega) (by omega) (by omega)
        refine ⟨by omega, k2, k3, fun j a1 a2 => ?_⟩
        by_cases ej : j = s
        · subst ej; exact e
        · exact k4 j (by omega) a2
theorem next_spec {a : List Int} {p : Int} (h0 : 0 ≤ p) (h1 : p < 16) (h : atS a p ≠ -1) : 1 ≤ nextS a p ∧ nextS a p ≤ 16 ∧ atS a ((p + nextS a p) % 16) = atS a p ∧ ∀ j, 1 ≤ j → j < nextS a p → atS a ((p + j) % 16) ≠ atS a p := by
  unfold nextS
  rw [if_neg h]
  exact nxF_spec h0 h1 rfl 16 1 (by omega) (by omega) (by omega)
theorem cj_skip (a : List Int) (p : Int) (u : Nat) : ∀ k : Nat, (∀ j : Nat, j < k → atS a ((p + ((u + j : Nat) : Int)) % 16) ≠ atS a p) → cjS a p (u + k) = cjS a p u ∧ msS a p (u + k) = msS a p u
  | 0, _ => ⟨rfl, rfl⟩
  | k + 1, h => by
    obtain ⟨e1, e2⟩ := cj_skip a p u k (fun j hj => h j (by omega))
    rw [show u + (k + 1) = (u + k) + 1 by omega, cjS, msS, if_neg (h k (by omega)), if_neg (h k (by omega)), e1, e2]
    exact ⟨by omega, rfl⟩
theorem cj_step {a : List Int} {p t u : Int} (h0 : 0 ≤ u) (ht : t = (p + u) % 16) (h1 : atS a t = atS a p) (h2 : atS a p ≠ -1) : cjS a p (u + nextS a t).toNat = cjS a p u.toNat + 1 ∧ msS a p (u + nextS a t).toNat = if nextS a t < msS a p u.toNat then nextS a t else msS a p u.toNat := by
  obtain ⟨k1, k2, k3, k4⟩ := next_spec (a := a) (p := t) (by omega) (by omega) (by rw [h1]; exact h2)
  have e : (u + nextS a t).toNat = (u.toNat + 1) + (nextS a t - 1).toNat := by omega
  obtain ⟨s1, s2⟩ := cj_skip a p (u.toNat + 1) (nextS a t - 1).toNat (fun j hj => by
    have := k4 (j + 1) (by omega) (by omega)
    rw [h1] at this
    rw [show (p + ((u.toNat + 1 + j : Nat) : Int)) % 16 = (t + ((j : Int) + 1)) % 16 by omega]
    exact this)
  have hq : (p + ((u.toNat : Nat) : Int)) % 16 = t := by omega
  rw [e, s1, s2, cjS, msS, hq, if_pos h1, if_pos h1]
  exact ⟨rfl, rfl⟩
def vals (f : Int → Int) : List Int := (List.range 16).map (fun q : Nat => f (q : Int))
theorem rot0 (f : Int → Int) : vals (fun j => f ((0 + j) % 16)) = (vals f).drop (Int.toNat 0) ++ (vals f).take (Int.toNat 0) := by kernel_rfl
theorem rot1 (f : Int → Int) : vals (fun j => f ((1 + j) % 16)) = (vals f).drop (Int.toNat 1) ++ (vals f).take (Int.toNat 1) := by kernel_rfl
theorem rot2 (f : Int → Int) : vals (fun j => f ((2 + j) % 16)) = (vals f).drop (Int.toNat 2) ++ (vals f).take (Int.toNat 2) := by kernel_rfl
theorem rot3 (f : Int → Int) : vals (fun j => f ((3 + j) % 16)) = (vals f).drop (Int.toNat 3) ++ (vals f).take (Int.toNat 3) := by kernel_rfl
theorem rot4 (f : Int → Int) : vals (fun j => f ((4 + j) % 16)) = (vals f).drop (Int.toNat 4) ++ (vals f).take (Int.toNat 4) := by kernel_rfl
theorem rot5 (f : Int → Int) : vals (fun j => f ((5 + j) % 16)) = (vals f).drop (Int.toNat 5) ++ (vals f).take (Int.toNat 5) := by kernel_rfl
theorem rot6 (f : Int → Int) : vals (fun j => f ((6 + j) % 16)) = (vals f).drop (Int.toNat 6) ++ (vals f).take (Int.toNat 6) := by kernel_rfl
theorem rot7 (f : Int → Int) : vals (fun j => f ((7 + j) % 16)) = (vals f).drop (Int.toNat 7) ++ (vals f).take (Int.toNat 7) := by kernel_rfl
theorem rot8 (f : Int → Int) : vals (fun j => f ((8 + j) % 16)) = (vals f).drop (Int.toNat 8) ++ (vals f).take (Int.toNat 8) := by kernel_rfl
theorem rot9 (f : Int → Int) : vals (fun j => f ((9 + j) % 16)) = (vals f).drop (Int.toNat 9) ++ (vals f).take (Int.toNat 9) := by kernel_rfl
theorem rot10 (f : Int → Int) : vals (fun j => f ((10 + j) % 16)) = (vals f).drop (Int.toNat 10) ++ (vals f).take (Int.toNat 10) := by kernel_rfl
theorem rot11 (f : Int → Int) : vals (fun j => f ((11 + j) % 16)) = (vals f).drop (Int.toNat 11) ++ (vals f).take (Int.toNat 11) := by kernel_rfl
theorem rot12 (f : Int → Int) : vals (fun j => f ((12 + j) % 16)) = (vals f).drop (Int.toNat 12) ++ (vals f).take (Int.toNat 12) := by kernel_rfl
theorem rot13 (f : Int → Int) : vals (fun j => f ((13 + j) % 16)) = (vals f).drop (Int.toNat 13) ++ (vals f).take (Int.toNat 13) := by kernel_rfl
theorem rot14 (f : Int → Int) : vals (fun j => f ((14 + j) % 16)) = (vals f).drop (Int.toNat 14) ++ (vals f).take (Int.toNat 14) := by kernel_rfl
theorem rot15 (f : Int → Int) : vals (fun j => f ((15 + j) % 16)) = (vals f).drop (Int.toNat 15) ++ (vals f).take (Int.toNat 15) := by kernel_rfl
theorem rot_map (f : Int → Int) {x : Int} (h0 : 0 ≤ x) (h1 : x < 16) : vals (fun j => f ((x + j) % 16)) = (vals f).drop x.toNat ++ (vals f).take x.toNat := by
  have : x = 0 ∨ x = 1 ∨ x = 2 ∨ x = 3 ∨ x = 4 ∨ x = 5 ∨ x = 6 ∨ x = 7 ∨ x = 8 ∨ x = 9 ∨ x = 10 ∨ x = 11 ∨ x = 12 ∨ x = 13 ∨ x = 14 ∨ x = 15 := by omega
  clear h0 h1
  rcases this with rfl | rfl | rfl | rfl | rfl | rfl | rfl | rfl | rfl | rfl | rfl | rfl | rfl | rfl | rfl | rfl
  · exact rot0 f
  · exact rot1 f
  · exact rot2 f
  · exact rot3 f
  · exact rot4 f
  · exact rot5 f
  · exact rot6 f
  · exact rot7 f
  · exact rot8 f
  · exact rot9 f
  · exact rot10 f
  · exact rot11 f
  · exact rot12 f
  · exact rot13 f
  · exact rot14 f
  · exact rot15 f
theorem rot_perm (f : Int → Int) {x : Int} (h0 : 0 ≤ x) (h1 : x < 16) : (vals (fun j => f ((x + j) % 16))).Perm (vals f) := by
  rw [rot_map f h0 h1]
  exact List.perm_append_comm.trans (by rw [List.take_append_drop])
theorem cj_count (a : List Int) (p : Int) : ∀ t : Nat, cjS a p t = (((List.range t).map (fun j : Nat => atS a ((p + (j : Int)) % 16))).count (atS a p) : Nat)
  | 0 => rfl
  | t + 1 => by
    rw [cjS, cj_count a p t, List.range_succ, List.map_append, List.count_append]
    simp only [List.map_cons, List.map_nil, List.count_cons, List.count_nil, beq_iff_eq]
    split <;> omega
theorem cnF_get (l : List Int) {n : Int} (h0 : 0 ≤ n) : ∀ (c q : Nat) (o : List Int), o.length = 8 → (cnF l c q o).getD n.toNat 0 = o.getD n.toNat 0 + (((List.range' q c).map (fun j : Nat => atS l (j : Int))).count n : Nat)
  | 0, _, o, _ => by simp [cnF]
  | c + 1, q, o, h => by
    rw [cnF, cnF_get l h0 c (q + 1) _ (by split <;> simpa using h), List.range'_succ]
    simp only [List.map_cons, List.count_cons, beq_iff_eq]
    by_cases d : atS l q = -1
    · rw [if_pos d, if_neg (by omega)]; omega
    · have ha := atS_at d
      rw [if_neg d, getD_setS _ _ _ _ (by omega)]
      by_cases e : atS l q = n
      · rw [if_pos e, e, if_pos rfl]; omega
      · rw [if_neg e, if_neg (by omega)]; omega
theorem counts_get (l : List Int) {n : Int} (h0 : 0 ≤ n) (h1 : n < 8) : (countsS l).getD n.toNat 0 = ((vals (atS l)).count n : Nat) := by
  unfold countsS vals
  rw [cnF_get l h0 16 0 _ rfl, List.range_eq_range']
  have : (List.replicate 8 (0 : Int)).getD n.toNat 0 = 0 := by
    rw [getD_get 0 (by rw [List.length_replicate]; omega), List.getElem_replicate]
  omega
theorem counts_perm {l m : List Int} (h : (vals (atS l)).Perm (vals (atS m))) : countsS l = countsS m := by
  refine ext_getD 0 (by rw [counts_len, counts_len]) fun k hk => ?_
  rw [counts_len] at hk
  have e1 := counts_get l (n := (k : Int)) (by omega) (by omega)
  have e2 := counts_get m (n := (k : Int)) (by omega) (by omega)
  rw [Int.toNat_natCast] at e1 e2
  rw [e1, e2, h.count_eq]
def IsLeast (a : List Int) (n r : Int) : Prop := (∀ q : Int, 0 ≤ q → q < 16 → atS a q ≠ -1 → atS a q = n → r ≠ 0 ∧ r ≤ nextS a q) ∧ (r = 0 ∨ ∃ q : Int, 0 ≤ q ∧ q < 16 ∧ atS a q ≠ -1 ∧ atS a q = n ∧ nextS a q = r)
theorem isLeast_eq {a : List Int} {n r s : Int} (h : IsLeast a n r) (g : IsLeast a n s) : r = s := by
  obtain ⟨h1, h2⟩ := h
  obtain ⟨g1, g2⟩ := g
  rcases h2 with e | ⟨q, a1, a2, a3, a4, a5⟩
  · rcases g2 with f | ⟨q, a1, a2, a3, a4, a5⟩
    · rw [e, f]
    · exact absurd e (h1 q a1 a2 a3 a4).1
  · rcases g2 with f | ⟨q', b1, b2, b3, b4, b5⟩
    · exact absurd f (g1 q a1 a2 a3 a4).1
    · have := (h1 q' b1 b2 b3 b4).2
      have := (g1 q a1 a2 a3 a4).2
      omega
theorem lsF_is (a : List Int) (n : Int) : ∀ (c q : Nat) (o : Int), (∀ j : Nat, j < q → atS a (j : Int) ≠ -1 → atS a (j : Int) = n → o ≠ 0 ∧ o ≤ nextS a (j : Int)) → (o = 0 ∨ ∃ j : Nat, j < q ∧ atS a (j : Int) ≠ -1 ∧ atS a (j : Int) = n ∧ nextS a (j : Int) = o) → q + c = 16 → IsLeast a n (lsF a n c q o)
  | 0, q, o, h1, h2, h3 => by
    rw [lsF]
    refine ⟨fun z a1 a2 a3 a4 => ?_, ?_⟩
    · have := h1 z.toNat (by omega)
      rw [Int.toNat_of_nonneg a1] at this
      exact this a3 a4
    · rcases h2 with e | ⟨j, b1, b2, b3, b4⟩
      · exact .inl e
      · exact .inr ⟨j, by omega, by omega, b2, b3, b4⟩
  | c + 1, q, o, h1, h2, h3 => by
    rw [lsF]
    refine lsF_is a n c (q + 1) _ (fun j hj b1 b2 => ?_) ?_ (by omega)
    · by_cases e : j = q
      · subst e
        have hn := next_spec (a := a) (p := (j : Int)) (by omega) (by omega) b1
        rw [if_neg (fun g => g.elim b1 (fun c => c b2))]
        by_cases f : o = 0 ∨ nextS a (j : Int) < o
        · rw [if_pos f]; exact ⟨by omega, by omega⟩
        · rw [if_neg f]; exact ⟨fun g => f (.inl g), by omega⟩
      · have := h1 j (by omega) b1 b2
        split
        · exact this
        · rename_i d
          have d1 : atS a (q : Int) ≠ -1 := fun g => d (.inl g)
          have hn := next_spec (a := a) (p := (q : Int)) (by omega) (by omega) d1
          split <;> omega
    · split
      · rcases h2 with e | ⟨j, b1, b2, b3, b4⟩
        · exact .inl e
        · exact .inr ⟨j, by omega, b2, b3, b4⟩
      · rename_i d
        split
        · exact .inr ⟨q, by omega, fun g => d (.inl g), Classical.byContradiction fun g => d (.inr g), rfl⟩
        · rcases h2 with e | ⟨j, b1, b2, b3, b4⟩
          · exact .inl e
          · exact .inr ⟨j, by omega, b2, b3, b4⟩
theorem leastS_is (a : List Int) (n : Int) : IsLeast a n (leastS a n) := lsF_is a n 16 0 0 (fun j h => by omega) (.inl rfl) (by omega)
theorem ms_is {a : List Int} {p : Int} (h0 : 0 ≤ p) (h1 : p < 16) (h2 : atS a p ≠ -1) : ∀ t : Nat, (∀ j : Nat, j < t → atS a ((p + (j : Int)) % 16) = atS a p → msS a p t ≤ nextS a ((p + (j : Int)) % 16)) ∧ 1 ≤ msS a p t ∧ msS a p t ≤ 16 ∧ (msS a p t = 16 ∨ ∃ j : Nat, j < t ∧ atS a ((p + (j : Int)) % 16) = atS a p ∧ nextS a ((p + (j : Int)) % 16) = msS a p t)
  | 0 => ⟨fun j h => by omega, by rw [msS]; omega, by rw [msS]; omega, .inl rfl⟩
  | t + 1 => by
    obtain ⟨g1, g2, g3, g4⟩ := ms_is h0 h1 h2 t
    rw [msS]
    by_cases e : atS a ((p + (t : Int)) % 16) = atS a p
    · have hn := next_spec (a := a) (p := (p + (t : Int)) % 16) (by omega) (by omega) (by rw [e]; exact h2)
      rw [if_pos e]
      by_cases f : nextS a ((p + (t : Int)) % 16) < msS a p t
      · rw [if_pos f]
        refine ⟨fun j hj ha => ?_, by omega, by omega, .inr ⟨t, by omega, e, rfl⟩⟩
        by_cases jt : j = t
        · subst jt; omega
        · have := g1 j (by omega) ha; omega
      · rw [if_neg f]
        refine ⟨fun j hj ha => ?_, g2, g3, ?_⟩
        · by_cases jt : j = t
          · subst jt; omega
          · exact g1 j (by omega) ha
        · rcases g4 with k | ⟨j, b1, b2, b3⟩
          · exact .inl k
          · exact .inr ⟨j, by omega, b2, b3⟩
    · rw [if_neg e]
      refine ⟨fun j hj ha => ?_, g2, g3, ?_⟩
      · by_cases jt : j = t
        · subst jt; exact absurd ha e
        · exact g1 j (by omega) ha
      · rcases g4 with k | ⟨j, b1, b2, b3⟩
        · exact .inl k
        · exact .inr ⟨j, by omega, b2, b3⟩
theorem ms_least {a : List Int} {p : Int} (h0 : 0 ≤ p) (h1 : p < 16) (h2 : atS a p ≠ -1) : IsLeast a (atS a p) (msS a p 16) := by
  obtain ⟨g1, g2, g3, g4⟩ := ms_is h0 h1 h2 16
  refine ⟨fun q a1 a2 a3 a4 => ⟨by omega, ?_⟩, .inr ?_⟩
  · have := g1 ((q - p) % 16).toNat (by omega)
    rw [show (p + ((((q - p) % 16).toNat : Nat) : Int)) % 16 = q by omega] at this
    exact this a4
  · rcases g4 with k | ⟨j, b1, b2, b3⟩
    · refine ⟨p, h0, h1, h2, rfl, ?_⟩
      have := g1 0 (by omega)
      rw [show (p + ((0 : Nat) : Int)) % 16 = p by omega] at this
      have := this rfl
      have := (next_spec (a := a) h0 h1 h2).2.1
      omega
    · exact ⟨(p + (j : Int)) % 16, by omega, by omega, by rw [b2]; exact h2, b2, b3⟩
end Pl
