import Derived.Test.YtenjakhegeclhaaClChO
namespace Pl
open Go Sx Go.Proofs Go.RowKit
theorem fltB_nodup (f : Nat → Bool) : ∀ c j, (fltB f c j).Nodup
  | 0, _ => by simp [fltB]
  | c + 1, j => by
    simp only [fltB]
    split
    · refine List.nodup_cons.2 ⟨fun h => ?_, fltB_nodup f c (j + 1)⟩
      obtain ⟨k, h1, _, _, h4⟩ := (fltB_mem _ _ _ _).1 h
      omega
    · exact fltB_nodup f c (j + 1)
theorem memL_nodup (ms : List Int) : (memL ms).Nodup := fltB_nodup _ _ _
theorem nodup_getD {l : List Int} (h : l.Nodup) {i j : Nat} (hi : i < l.length) (hj : j < l.length) (e : l.getD i 0 = l.getD j 0) : i = j := by
  rw [getD_get 0 hi, getD_get 0 hj] at e
  exact (List.getElem_inj h).1 e
theorem getD_set (l : List Int) (k i : Nat) (v : Int) (h : k < l.length) : (l.set k v).getD i 0 = if i = k then v else l.getD i 0 := by
  by_cases e : i = k
  · subst e; simp [h]
  · rw [if_neg e]; simp [List.getElem?_set, Ne.symm e]
theorem asg0_inv (now m q : List Int) (hm : ∀ x ∈ m, 0 ≤ x) (hd : m.Nodup) : ∀ (c p : Nat) (to la : List Int), p + c = 16 → to.length = 16 → la.length = m.length → (∀ x ∈ la, 0 ≤ x ∧ x ≤ 40) → ((to.take p).count (-1) : Int) + c = la.sum →
    (∀ k, k < p → to.getD k 0 = -1 ∨ to.getD k 0 ∈ m) → (∀ i, i < m.length → ((to.take p).count (m.getD i 0) : Int) + la.getD i 0 = q.getD i 0) →
    (asg0 now m c p to la).1.length = 16 ∧ (asg0 now m c p to la).2.length = m.length ∧ (∀ x ∈ (asg0 now m c p to la).2, 0 ≤ x ∧ x ≤ 40) ∧ ((asg0 now m c p to la).1.count (-1) : Int) = (asg0 now m c p to la).2.sum ∧
    (∀ k, k < 16 → (asg0 now m c p to la).1.getD k 0 = -1 ∨ (asg0 now m c p to la).1.getD k 0 ∈ m) ∧ (∀ i, i < m.length → ((asg0 now m c p to la).1.count (m.getD i 0) : Int) + (asg0 now m c p to la).2.getD i 0 = q.getD i 0)
  | 0, p, to, la, hp, ht, hl, hx, hs, ha, hq => by
    rw [List.take_of_length_le (by omega)] at hs
    refine ⟨ht, hl, hx, by simpa [asg0] using hs, fun k hk => ha k (by omega), fun i hi => ?_⟩
    have := hq i hi
    rw [List.take_of_length_le (by omega)] at this
    exact this
  | c + 1, p, to, la, hp, ht, hl, hx, hs, ha, hq => by
    obtain ⟨i1, i2, i3⟩ := indexF_range m (atL now (p : Int))
    simp only [asg0]
    split
    · rename_i t
      simp only [Bool.and_eq_true, decide_eq_true_eq] at t
      have hlt : (indexF m (atL now (p : Int))).toNat < la.length := by omega
      have hg : la.getD (indexF m (atL now (p : Int))).toNat 0 ∈ la := by rw [getD_get 0 hlt]; exact List.getElem_mem hlt
      have hb := hx _ hg
      have hv : m.getD (indexF m (atL now (p : Int))).toNat 0 ∈ m := getD_mem 0 t.1 i2
      have hv0 := hm _ hv
      refine asg0_inv now m q hm hd c (p + 1) _ _ (by omega) (by simp [ht]) (by simp [hl]) (fun x h => ?_) ?_ (fun k hk => ?_) (fun i hi => ?_)
      · rcases set_mem h with h | h
        · exact hx x h
        · omega
      · rw [set_take_succ _ (by omega), sum_set _ _ _ hlt, List.count_append, List.count_singleton, if_neg (fun z => by have := eq_of_beq z; omega)]
        omega
      · rw [getD_set _ _ _ _ (by omega)]
        split
        · exact .inr hv
        · exact ha k (by omega)
      · have h0 := hq i hi
        rw [set_take_succ _ (by omega), List.count_append, List.count_singleton, getD_set _ _ _ _ hlt]
        by_cases e : i = (indexF m (atL now (p : Int))).toNat
        · subst e
          rw [if_pos (beq_self_eq_true _), if_pos rfl]; omega
        · rw [if_neg (fun z => e (nodup_getD hd hi (by omega) (eq_of_beq z).symm)), if_neg e]; omega
    · refine asg0_inv now m q hm hd c (p + 1) _ _ (by omega) (by simp [ht]) hl hx ?_ (fun k hk => ?_) (fun i hi => ?_)
      · rw [set_take_succ _ (by omega), List.count_append, List.count_singleton, if_pos (by simp)]
        omega
      · rw [getD_set _ _ _ _ (by omega)]
        split
        · exact .inl rfl
        · exact ha k (by omega)
      · have h0 := hq i hi
        have hv : m.getD i 0 ∈ m := getD_mem (i := (i : Int)) 0 (by omega) (by omega)
        have hv0 := hm _ hv
        rw [set_take_succ _ (by omega), List.count_append, List.count_singleton, if_neg (fun z => by have := eq_of_beq z; omega)]
        omega
theorem count_set' (l : List Int) (k : Nat) (v a : Int) (h : k < l.length) : ((l.set k v).count a : Int) = l.count a - (if l.getD k 0 = a then 1 else 0) + (if v = a then 1 else 0) := by
  induction l generalizing k with
  | nil => simp at h
  | cons b l ih =>
    cases k with
    | zero =>
      simp only [List.set_cons_zero, List.count_cons, List.getD_cons_zero, beq_iff_eq]
      split <;> split <;> simp <;> omega
    | succ k =>
      have := ih k (by simpa using h)
      simp only [List.set_cons_succ, List.count_cons, List.getD_cons_succ, beq_iff_eq]
      split <;> omega
theorem asg1_inv (m t0 q : List Int) (hm : ∀ x ∈ m, 0 ≤ x) (hd : m.Nodup) (hz : t0.length = 16) : ∀ (c p : Nat) (to la : List Int), p + c = 16 → to.length = 16 → la.length = m.length → (∀ x ∈ la, 0 ≤ x ∧ x ≤ 40) → ((t0.drop p).count (-1) : Int) = la.sum →
    (∀ k, k < p → to.getD k 0 ∈ m) → (∀ k, p ≤ k → k < 16 → to.getD k 0 = t0.getD k 0 ∧ (t0.getD k 0 = -1 ∨ t0.getD k 0 ∈ m)) → (∀ i, i < m.length → (to.count (m.getD i 0) : Int) + la.getD i 0 = q.getD i 0) →
    (asg1 m t0 c p to la).2.sum = 0 ∧ (asg1 m t0 c p to la).2.length = m.length ∧ (∀ x ∈ (asg1 m t0 c p to la).2, 0 ≤ x ∧ x ≤ 40) ∧
    (∀ k, k < 16 → (asg1 m t0 c p to la).1.getD k 0 ∈ m) ∧ (∀ i, i < m.length → ((asg1 m t0 c p to la).1.count (m.getD i 0) : Int) + (asg1 m t0 c p to la).2.getD i 0 = q.getD i 0) ∧ (∀ k, t0.getD k 0 ≠ -1 → (asg1 m t0 c p to la).1.getD k 0 = to.getD k 0) ∧ (∀ k, k < p → (asg1 m t0 c p to la).1.getD k 0 = to.getD k 0)
  | 0, p, to, la, hp, ht, hl, hx, hs, ha, hb, hq => by
    rw [List.drop_eq_nil_of_le (by omega)] at hs
    exact ⟨by simpa [asg1] using hs.symm, hl, hx, fun k hk => ha k (by omega), hq, fun _ _ => rfl, fun _ _ => rfl⟩
  | c + 1, p, to, la, hp, ht, hl, hx, hs, ha, hb, hq => by
    have hdr := drop_cons (l := t0) (i := (p : Int)) 0 (by omega) (by omega)
    have e3 : ((p : Int) + 1).toNat = p + 1 := by omega
    rw [e3, Int.toNat_natCast] at hdr
    rw [hdr, List.count_cons] at hs
    have hbp := hb p (by omega) (by omega)
    simp only [asg1]
    split
    · rename_i t
      have t' : t0.getD p 0 = -1 := by simpa using t
      rw [if_pos (by rw [t']; rfl)] at hs
      obtain ⟨p1, p2, p3⟩ := pick_range m la to (p : Int) hl (by omega)
      have hlt : (pick m la to (p : Int)).toNat < la.length := by omega
      have hg : la.getD (pick m la to (p : Int)).toNat 0 ∈ la := by rw [getD_get 0 hlt]; exact List.getElem_mem hlt
      have hbd := hx _ hg
      have hv : m.getD (pick m la to (p : Int)).toNat 0 ∈ m := getD_mem 0 p1 p2
      obtain ⟨r1, r2, r3, r4, r5, r6, r7⟩ := asg1_inv m t0 q hm hd hz c (p + 1) (to.set p (m.getD (pick m la to (p : Int)).toNat 0)) (la.set (pick m la to (p : Int)).toNat (la.getD (pick m la to (p : Int)).toNat 0 - 1)) (by omega) (by simp [ht]) (by simp [hl]) (fun x h => by
          rcases set_mem h with h | h
          · exact hx x h
          · omega) (by rw [sum_set _ _ _ hlt]; omega) (fun k hk => by
          rw [getD_set _ _ _ _ (by omega)]
          split
          · exact hv
          · exact ha k (by omega)) (fun k h1 h2 => by
          rw [getD_set _ _ _ _ (by omega), if_neg (by omega)]
          exact hb k (by omega) h2) (fun i hi => by
          have h0 := hq i hi
          have hvi : m.getD i 0 ∈ m := getD_mem (i := (i : Int)) 0 (by omega) (by omega)
          have hvi0 := hm _ hvi
          rw [count_set' _ _ _ _ (by omega), getD_set _ _ _ _ hlt, if_neg (by rw [hbp.1]; omega)]
          by_cases e : i = (pick m la to (p : Int)).toNat
          · subst e
            rw [if_pos rfl, if_pos rfl]; omega
          · rw [if_neg (fun z => e (nodup_getD hd hi (by omega) z.symm)), if_neg e]; omega)
      refine ⟨r1, r2, r3, r4, r5, fun k hk => ?_, fun k hk => ?_⟩
      · rw [r6 k hk, getD_set _ _ _ _ (by omega), if_neg (fun e => hk (by rw [e, t']))]
      · rw [r7 k (by omega), getD_set _ _ _ _ (by omega), if_neg (by omega)]
    · rename_i t
      have t' : t0.getD p 0 ≠ -1 := by simpa using t
      rw [if_neg (by simpa using t')] at hs
      obtain ⟨r1, r2, r3, r4, r5, r6, r7⟩ := asg1_inv m t0 q hm hd hz c (p + 1) to la (by omega) ht hl hx (by omega) (fun k hk => by
          by_cases e : k = p
          · subst e; rw [hbp.1]; exact hbp.2.resolve_left t'
          · exact ha k (by omega)) (fun k h1 h2 => hb k (by omega) h2) hq
      exact ⟨r1, r2, r3, r4, r5, r6, fun k hk => r7 k (by omega)⟩
theorem zero_of_sum : ∀ (l : List Int), (∀ x ∈ l, 0 ≤ x) → l.sum = 0 → ∀ i, l.getD i 0 = 0
  | [], _, _, i => by simp
  | a :: l, h, hs, i => by
    have h1 := h a (by simp)
    have h2 : 0 ≤ l.sum := by
      have h3 : ∀ x ∈ l, 0 ≤ x := fun x hx => h x (by simp [hx])
      clear hs h h1
      induction l with
      | nil => simp
      | cons b l ih => have := h3 b (by simp); have := ih (fun x hx => h3 x (by simp [hx])); simp only [List.sum_cons]; omega
    simp only [List.sum_cons] at hs
    cases i with
    | zero => simp; omega
    | succ i => simpa using zero_of_sum l (fun x hx => h x (by simp [hx])) (by omega) i
end Pl
