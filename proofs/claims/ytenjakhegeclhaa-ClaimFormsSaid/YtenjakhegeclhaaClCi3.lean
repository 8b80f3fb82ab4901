import Derived.Test.YtenjakhegeclhaaClChO
namespace Pl
open Go Sx Go.Proofs Go.RowKit
theorem fltB_nodup (f : Nat → Bool) : ∀ c j, (fltB f c j).Nodup
  | 0, _ => by simp [fltB]
  | c + 1, j => by
    simp only [fltB]
    split
    · refine List.nodup_cons.2 ⟨fun h => ?_, fltB_nodup f c (j + 1)⟩
      obtain ⟨k, h1, _, _, h4⟩ := (fltB_mem _ _ _ _).1 h
      omega
    · exact fltB_nodup f c (j + 1)
theorem memL_nodup (ms : List Int) : (memL ms).Nodup := fltB_nodup _ _ _
theorem nodup_getD {l : List Int} (h : l.Nodup) {i j : Nat} (hi : i < l.length) (hj : j < l.length) (e : l.getD i 0 = l.getD j 0) : i = j := by
  rw [getD_get 0 hi, getD_get 0 hj] at e
  exact (List.getElem_inj h).1 e
theorem getD_set (l : List Int) (k i : Nat) (v : Int) (h : k < l.length) : (l.set k v).getD i 0 = if i = k then v else l.getD i 0 := by
  by_cases e : i = k
  · subst e; simp [h]
  · rw [if_neg e]; simp [List.getElem?_set, Ne.symm e]
theorem asg0_inv (now m q : List Int) (hm : ∀ x ∈ m, 0 ≤ x) (hd : m.Nodup) : ∀ (c p : Nat) (to la : List Int), p + c = 16 → to.length = 16 → la.length = m.length → (∀ x ∈ la, 0 ≤ x ∧ x ≤ 40) → ((to.take p).count (-1) : Int) + c = la.sum →
    (∀ k, k < p → to.getD k 0 = -1 ∨ to.getD k 0 ∈ m) → (∀ i, i < m.length → ((to.take p).count (m.getD i 0) : Int) + la.getD i 0 = q.getD i 0) →
    (asg0 now m c p to la).1.length = 16 ∧ (asg0 now m c p to la).2.length = m.length ∧ (∀ x ∈ (asg0 now m c p to la).2, 0 ≤ x ∧ x ≤ 40) ∧ ((asg0 now m c p to la).1.count (-1) : Int) = (asg0 now m c p to la).2.sum ∧
    (∀ k, k < 16 → (asg0 now m c p to la).1.getD k 0 = -1 ∨ (asg0 now m c p to la).1.getD k 0 ∈ m) ∧ (∀ i, i < m.length → ((asg0 now m c p to la).1.count (m.getD i 0) : Int) + (asg0 now m c p to la).2.getD i 0 = q.getD i 0)
  | 0, p, to, la, hp, ht, hl, hx, hs, ha, hq => by
    rw [List.take_of_length_le (by omega)] at hs
    refine ⟨ht, hl, hx, by simpa [asg0] using hs, fun k hk => ha k (by omega), fun i hi => ?_⟩
    have := hq i hi
    rw [List.take_of_length_le (by omega)] at this
    exact this
  | c + 1, p, to, la, hp, ht, hl, hx, hs, ha, hq => by
    obtain ⟨i1, i2, i3⟩ := indexF_range m (atL now (p : Int))
    simp only [asg0]
    split
    · rename_i t
      simp only [Bool.and_eq_true, decide_eq_true_eq] at t
      have hlt : (indexF m (atL now (p : Int))).toNat < la.length := by omega
      have hg : la.getD (indexF m (atL now (p : Int))).toNat 0 ∈ la := by rw [getD_get 0 hlt]; exact List.getElem_mem hlt
      have hb := hx _ hg
      have hv : m.getD (indexF m (atL now (p : Int))).toNat 0 ∈ m := getD_mem 0 t.1 i2
      have hv0 := hm _ hv
      refine asg0_inv now m q hm hd c (p + 1) _ _ (by omega) (by simp [ht]) (by simp [hl]) (fun x h => ?_) ?_ (fun k hk => ?_) (fun i hi => ?_)
      · rcases set_mem h with h | h
        · exact hx x h
        · omega
      · rw [set_take_succ _ (by omega), sum_set _ _ _ hlt, List.count_append, List.count_singleton, if_neg (fun z => by have := eq_of_beq z; omega)]
        omega
      · rw [getD_set _ _ _ _ (by omega)]
        split
        · exact .inr hv
        · exact ha k (by omega)
      · have h0 := hq i hi
        rw [set_take_succ _ (by omega), List.count_append, List.count_singleton, getD_set _ _ _ _ hlt]
        by_cases e : i = (indexF m (atL now (p : Int))).toNat
        · subst e
          rw [if_pos (beq_self_eq_true _), if_pos rfl]; omega
        · rw [if_neg (fun z => e (nodup_getD hd hi (by omega) (eq_of_beq z).symm)), if_neg e]; omega
    · refine asg0_inv now m q hm hd c (p + 1) _ _ (by omega) (by simp [ht]) hl hx ?_ (fun k hk => ?_) (fun i hi => ?_)
      · rw [set_take_succ _ (by omega), List.count_append, List.count_singleton, if_pos (by simp)]
        omega
      · rw [getD_set _ _ _ _ (by omega)]
        split
        · exact .inl rfl
        · exact ha k (by omega)
      · have h0 := hq i hi
        have hv : m.getD i 0 ∈ m := getD_mem (i := (i : Int)) 0 (by omega) (by omega)
        have hv0 := hm _ hv
        rw [set_take_succ _ (by omega), List.count_append, List.count_singleton, if_neg (fun z => by have := eq_of_beq z; omega)]
        omega
theorem count_set' (l : List Int) (k : Nat) (v a : Int) (h : k < l.length) : ((l.set k v).count a : Int) = l.count a - (if l.getD k 0 = a then 1 else 0) + (if v = a then 1 else 0) := by
  induction l generalizing k with
  | nil => simp at h
  | cons b l ih =>
    cases k with
    | zero =>
      simp only [List.set_cons_zero, List.count_cons, List.getD_cons_zero, beq_iff_eq]
      split <;> split <;> simp <;> omega
    | succ k =>
      have := ih k (by simpa using h)
      simp only [List.set_cons_succ, List.count_cons, List.getD_cons_succ, beq_iff_eq]
      split <;> omega
theorem asg1_inv (m t0 q : List Int) (hm : ∀ x ∈ m, 0 ≤ x) (hd : m.Nodup) (hz : t0.length = 16) : ∀ (c p : Nat) (to la : List Int), p + c = 16 → to.length = 16 → la.length = m.length → (∀ x ∈ la, 0 ≤ x ∧ x ≤ 40) → ((t0.drop p).count (-1) : Int) = la.sum →
    (∀ k, k < p → to.getD k 0 ∈ m) → (∀ k, p ≤ k → k < 16 → to.getD k 0 = t0.getD k 0 ∧ (t0.getD k 0 = -1 ∨ t0.getD k 0 ∈ m)) → (∀ i, i < m.length → (to.count (m.getD i 0) : Int) + la.getD i 0 = q.getD i 0) →
    (asg1 m t0 c p to la).2.sum = 0 ∧ (asg1 m t0 c p to la).2.length = m.length ∧ (∀ x ∈ (asg1 m t0 c p to la).2, 0 ≤ x ∧ x ≤ 40) ∧
    (∀ k, k < 16 → (asg1 m t0 c p to la).1.getD k 0 ∈ m) ∧ (∀ i, i < m.length → ((asg1 m t0 c p to la).1.count (m.getD i 0) : Int) + (asg1 m t0 c p to la).2.getD i 0 = q.getD i 0) ∧ (∀ k, t0.getD k 0 ≠ -1 → (asg1 m t0 c p to la).1.getD k 0 = to.getD k 0) ∧ (∀ k, k < p → (asg1 m t0 c p to la).1.getD k 0 = to.getD k 0)
  | 0, p, to, la, hp, ht, hl, hx, hs, ha, hb, hq => by
    rw [List.drop_eq_nil_of_le (by omega)] at hs
    exact ⟨by simpa [asg1] using hs.symm, hl, hx, fun k hk => ha k (by omega), hq, fun _ _ => rfl, fun _ _ => rfl⟩
  | c + 1, p, to, la, hp, ht, hl, hx, hs, ha, hb, hq => by
    have hdr := drop_cons (l := t0) (i := (p : Int)) 0 (by omega) (by omega)
    have e3 : ((p : Int) + 1).toNat = p + 1 := by omega
    rw [e3, Int.toNat_natCast] at hdr
    rw [hdr, List.count_cons] at hs
    have hbp := hb p (by omega) (by omega)
    simp only [asg1]
    split
    · rename_i t
      have t' : t0.getD p 0 = -1 := by simpa using t
      rw [if_pos (by rw [t']; rfl)] at hs
      obtain ⟨p1, p2, p3⟩ := pick_range m la to (p : Int) hl (by omega)
      have hlt : (pick m la to (p : Int)).toNat < la.length := by omega
      have hg : la.getD (pick m la to (p : Int)).toNat 0 ∈ la := by rw [getD_get 0 hlt]; exact List.getElem_mem hlt
      have hbd := hx _ hg
      have hv : m.getD (pick m la to (p : Int)).toNat 0 ∈ m := getD_mem 0 p1 p2
      obtain ⟨r1, r2, r3, r4, r5, r6, r7⟩ := asg1_inv m t0 q hm hd hz c (p + 1) (to.set p (m.getD (pick m la to (p : Int)).toNat 0)) (la.set (pick m la to (p : Int)).toNat (la.getD (pick m la to (p : Int)).toNat 0 - 1)) (by omega) (by simp [ht]) (by simp [hl]) (fun x h => by
          rcases set_mem h with h | h
          · exact hx x h
          · omega) (by rw [sum_set _ _ _ hlt]; omega) (fun k hk => by
          rw [getD_set _ _ _ _ (by omega)]
          split
          · exact hv
          · exact ha k (by omega)) (fun k h1 h2 => by
          rw [getD_set _ _ _ _ (by omega), if_neg (by omega)]
          exact hb k (by omega) h2) (fun i hi => by
          have h0 := hq i hi
          have hvi : m.getD i 0 ∈ m := getD_mem (i := (i : Int)) 0 (by omega) (by omega)
          have hvi0 := hm _ hvi
          rw [count_set' _ _ _ _ (by omega), getD_set _ _ _ _ hlt, if_neg (by rw [hbp.1]; omega)]
          by_cases e : i = (pick m la to (p : Int)).toNat
          · subst e
            rw [if_pos rfl, if_pos rfl]; omega
          · rw [if_neg (fun z => e (nodup_getD hd hi (by omega) z.symm)), if_neg e]; omega)
      refine ⟨r1, r2, r3, r4, r5, fun k hk => ?_, fun k hk => ?_⟩
      · rw [r6 k hk, getD_set _ _ _ _ (by omega), if_neg (fun e => hk (by rw [e, t']))]
      · rw [r7 k (by omega), getD_set _ _ _ _ (by omega), if_neg (by omega)]
    · rename_i t
      have t' : t0.getD p 0 ≠ -1 := by simpa using t
      rw [if_neg (by simpa using t')] at hs
      obtain ⟨r1, r2, r3, r4, r5, r6, r7⟩ := asg1_inv m t0 q hm hd hz c (p + 1) to la (by omega) ht hl hx (by omega) (fun k hk => by
          by_cases e : k = p
          · subst e; rw [hbp.1]; exact hbp.2.resolve_left t'
          · exact ha k (by omega)) (fun k h1 h2 => hb k (by omega) h2) hq
      exact ⟨r1, r2, r3, r4, r5, r6, fun k hk => r7 k (by omega)⟩
theorem zero_of_sum : ∀ (l : List Int), (∀ x ∈ l, 0 ≤ x) → l.sum = 0 → ∀ i, l.getD i 0 = 0
  | [], _, _, i => by simp
  | a :: l, h, hs, i => by
    have h1 := h a (by simp)
    have h2 : 0 ≤ l.sum := by
      have h3 : ∀ x ∈ l, 0 ≤ x := fun x hx => h x (by simp [hx])
      clear hs h h1
      induction l with
      | nil => simp
      | cons b l ih => have := h3 b (by simp); have := ih (fun x hx => h3 x (by simp [hx])); simp only [List.sum_cons]; omega
    simp only [List.sum_cons] at hs
    cases i with
    | zero => simp; omega
    | succ i => simpa using zero_of_sum l (fun x hx => h x (by simp [hx])) (by omega) i
end Pl
namespace Pl
open Go Sx Go.Proofs Go.RowKit
theorem asgM_all (now m q : List Int) (hm : ∀ x ∈ m, 0 ≤ x) (hd : m.Nodup) (h1 : q.sum = 16) (h2 : q.length = m.length) (h3 : ∀ x ∈ q, 0 ≤ x ∧ x ≤ 40) :
    (∀ k, k < 16 → (asgM now m q).getD k 0 ∈ m) ∧ (∀ i, i < m.length → ((asgM now m q).count (m.getD i 0) : Int) = q.getD i 0) ∧ (∀ k, (asg0 now m 16 0 (List.replicate 16 0) q).1.getD k 0 ≠ -1 → (asgM now m q).getD k 0 = (asg0 now m 16 0 (List.replicate 16 0) q).1.getD k 0) := by
  obtain ⟨a1, a2, a3, a4, a5, a6⟩ := asg0_inv now m q hm hd 16 0 (List.replicate 16 0) q (by omega) (by simp) h2 h3 (by simp; omega) (fun k hk => by omega) (fun i hi => by simp)
  unfold asgM
  generalize asg0 now m 16 0 (List.replicate 16 0) q = r at *
  obtain ⟨r1, r2, r3, r4, r5, r6, r7⟩ := asg1_inv m r.1 q hm hd a1 16 0 r.1 r.2 (by omega) a1 a2 a3 (by simpa using a4) (fun k hk => by omega) (fun k _ hk => ⟨rfl, a5 k hk⟩) a6
  refine ⟨r4, fun i hi => ?_, r6⟩
  have := r5 i hi
  rw [zero_of_sum _ (fun x hx => (r3 x hx).1) r1 i] at this
  omega
theorem memL_idem (ms : List Int) : memL (memL ms) = memL ms := memL_congr fun k hk => by
  constructor
  · intro h
    obtain ⟨j, _, _, h4, h5⟩ := (fltB_mem _ _ _ _).1 h
    have e : j = k := by omega
    subst e
    simpa using h4
  · exact fun h => (fltB_mem _ _ _ _).2 ⟨k, by omega, by omega, by simpa using h, rfl⟩
theorem memL_iff (ms : List Int) (x : Int) : x ∈ memL ms ↔ x ∈ ms ∧ 0 ≤ x ∧ x < 8 := by
  constructor
  · intro h
    obtain ⟨j, _, h3, h4, h5⟩ := (fltB_mem _ _ _ _).1 h
    subst h5
    exact ⟨by simpa using h4, by omega, by omega⟩
  · rintro ⟨h1, h2, h3⟩
    exact (fltB_mem _ _ _ _).2 ⟨x.toNat, by omega, by omega, by rw [Int.toNat_of_nonneg h2]; simpa using h1, by omega⟩
theorem asgL_all (now ms : List Int) (h : (memL ms).length ≠ 0) :
    (asgL now ms).length = 16 ∧ (∀ k, k < 16 → (asgL now ms).getD k 0 ∈ memL ms) ∧ (∀ i, i < (memL ms).length → ((asgL now ms).count ((memL ms).getD i 0) : Int) = (quotaL now ms).getD i 0) := by
  obtain ⟨q1, q2, q3⟩ := quotaL_all now ms h
  have := asgM_all now (memL ms) (quotaL now ms) (fun x hx => (memL_nn ms x hx).1) (memL_nodup ms) q1 q2 q3
  unfold asgL
  rw [if_neg h]
  exact ⟨asgM_len _ _ _, this.1, this.2.1⟩
theorem cntB_congr (f g : Nat → Bool) : ∀ (c j : Nat), (∀ k, j ≤ k → k < j + c → f k = g k) → cntB f c j = cntB g c j
  | 0, _, _ => rfl
  | c + 1, j, h => by
    simp only [cntB]
    rw [h j (by omega) (by omega), cntB_congr f g c (j + 1) (fun k a b => h k (by omega) (by omega))]
theorem cntB_const (b : Bool) : ∀ (c j : Nat), cntB (fun _ => b) c j = if b then (c : Int) else 0
  | 0, _ => by cases b <;> rfl
  | c + 1, j => by
    simp only [cntB, cntB_const b c (j + 1)]
    cases b <;> simp <;> omega
theorem cntB_all {f : Nat → Bool} {b : Bool} {c j : Nat} (h : ∀ k, j ≤ k → k < j + c → f k = b) : cntB f c j = if b then (c : Int) else 0 := by
  rw [cntB_congr f (fun _ => b) c j h, cntB_const]
theorem qLoop_congr {now now' : List Int} (e : Int) (b : Bool) : ∀ (l : List Int) (i : Int) (out : List Int) (m : Int), (∀ x ∈ l, hasL now x = hasL now' x) → qLoop now e b l i out m = qLoop now' e b l i out m
  | [], _, _, _, _ => rfl
  | x :: r, i, out, m, h => by
    simp only [qLoop]
    rw [h x (by simp)]
    split
    · exact qLoop_congr e b r _ _ _ fun y hy => h y (by simp [hy])
    · exact qLoop_congr e b r _ _ _ fun y hy => h y (by simp [hy])
theorem quotaL_has {now now' ms : List Int} (h : ∀ x ∈ memL ms, hasL now x = hasL now' x) : quotaL now ms = quotaL now' ms := by
  unfold quotaL quotaM
  simp only [qLoop_congr _ _ _ _ _ _ h]
theorem asg0_congr {now now' m : List Int} (h : ∀ p : Nat, p < 16 → indexF m (atL now (p : Int)) = indexF m (atL now' (p : Int))) : ∀ (c p : Nat) (to la : List Int), p + c = 16 → asg0 now m c p to la = asg0 now' m c p to la
  | 0, _, _, _, _ => rfl
  | c + 1, p, to, la, hp => by
    simp only [asg0]
    rw [h p (by omega)]
    split
    · exact asg0_congr h c (p + 1) _ _ (by omega)
    · exact asg0_congr h c (p + 1) _ _ (by omega)
theorem hasL_zero {now : List Int} {x : Int} (h : ∀ p : Nat, p < 16 → atL now (p : Int) ≠ x) : hasL now x = 0 := by
  unfold hasL
  rw [cntB_all (b := false) (fun k _ hk => by simpa using h k (by omega))]; rfl
theorem index_none {m : List Int} {v : Int} (h : v ∉ m) : indexF m v = -1 := by
  unfold indexF
  rw [if_neg (by simpa using h)]
theorem far {now ms : List Int} (h : ∀ p : Nat, p < 16 → atL now (p : Int) ∉ memL ms) : quotaL now ms = quotaL [] ms ∧ asgL now ms = asgL [] ms := by
  have h0 : ∀ p : Nat, atL [] (p : Int) ∉ memL ms := fun p hp => by
    have := (memL_nn ms _ hp).1
    have e : atL [] (p : Int) = -1 := by unfold atL; rw [if_neg (by simp)]
    omega
  have hq : quotaL now ms = quotaL [] ms := quotaL_has fun x hx => by
    rw [hasL_zero (fun p hp e => h p hp (e ▸ hx)), hasL_zero (fun p hp e => h0 p (e ▸ hx))]
  refine ⟨hq, ?_⟩
  unfold asgL
  rw [hq]
  split
  · rfl
  · unfold asgM
    rw [asg0_congr (now := now) (now' := []) (fun p hp => by rw [index_none (h p hp), index_none (h0 p)]) 16 0 _ _ (by omega)]
theorem atL_in {l : List Int} (h : l.length = 16) {p : Nat} (hp : p < 16) : atL l (p : Int) = l.getD p 0 := by
  unfold atL
  rw [if_pos (by omega), Int.toNat_natCast]
end Pl
namespace Pl
open Go Sx Go.Proofs Go.RowKit
theorem qLoop_cons (now : List Int) (e : Int) (b : Bool) (x : Int) (r : List Int) (n : Nat) (out : List Int) (m : Int) : qLoop now e b (x :: r) (n : Int) out m = if decide (m > 0) && (decide (hasL now x > e) == b) then qLoop now e b r ((n + 1 : Nat) : Int) (out.set n (out.getD n 0 + 1)) (m - 1) else qLoop now e b r ((n + 1 : Nat) : Int) out m := rfl
theorem qLoop_A (now : List Int) (e : Int) (b : Bool) (k : Nat) : ∀ (l : List Int) (n : Nat) (out : List Int) (m : Int), n + l.length ≤ out.length → out.getD k 0 ≤ (qLoop now e b l (n : Int) out m).1.getD k 0 ∧ (qLoop now e b l (n : Int) out m).1.getD k 0 ≤ out.getD k 0 + 1 ∧ (k < n → (qLoop now e b l (n : Int) out m).1.getD k 0 = out.getD k 0)
  | [], _, _, _, _ => ⟨by simp only [qLoop]; omega, by simp only [qLoop]; omega, fun _ => rfl⟩
  | x :: r, n, out, m, h => by
    simp only [List.length_cons] at h
    rw [qLoop_cons]
    split
    · have := qLoop_A now e b k r (n + 1) (out.set n (out.getD n 0 + 1)) (m - 1) (by simp only [List.length_set]; omega)
      rw [getD_set _ _ _ _ (by omega)] at this
      by_cases c : k = n
      · subst c
        rw [if_pos rfl] at this
        have h3 := this.2.2 (by omega)
        exact ⟨by omega, by omega, fun z => by omega⟩
      · rw [if_neg c] at this
        exact ⟨this.1, this.2.1, fun z => this.2.2 (by omega)⟩
    · have := qLoop_A now e b k r (n + 1) out m (by omega)
      exact ⟨this.1, this.2.1, fun z => this.2.2 (by omega)⟩
theorem qLoop_B (now : List Int) (e : Int) (b : Bool) (k : Nat) : ∀ (l : List Int) (n : Nat) (out : List Int) (m : Int), n + l.length ≤ out.length → (n ≤ k → k < n + l.length → (decide (hasL now (l.getD (k - n) 0) > e) == b) = false) → (qLoop now e b l (n : Int) out m).1.getD k 0 = out.getD k 0
  | [], _, _, _, _, _ => rfl
  | x :: r, n, out, m, h, hk => by
    simp only [List.length_cons] at h hk
    have hr : n + 1 ≤ k → k < n + 1 + r.length → (decide (hasL now (r.getD (k - (n + 1)) 0) > e) == b) = false := fun h1 h2 => by
      have := hk (by omega) (by omega)
      rwa [show k - n = (k - (n + 1)) + 1 by omega, List.getD_cons_succ] at this
    rw [qLoop_cons]
    split
    · rename_i t
      rw [qLoop_B now e b k r (n + 1) _ (m - 1) (by simp only [List.length_set]; omega) hr, getD_set _ _ _ _ (by omega)]
      split
      · rename_i c
        subst c
        have := hk (by omega) (by omega)
        rw [Nat.sub_self, List.getD_cons_zero] at this
        simp only [Bool.and_eq_true] at t
        rw [this] at t
        exact absurd t.2 (by decide)
      · rfl
    · exact qLoop_B now e b k r (n + 1) out m (by omega) hr
theorem qLoop_C (now : List Int) (e : Int) (b : Bool) (k : Nat) : ∀ (l : List Int) (n : Nat) (out : List Int) (m : Int), n + l.length ≤ out.length → rch now e b l ≤ m → n ≤ k → k < n + l.length → (decide (hasL now (l.getD (k - n) 0) > e) == b) = true → (qLoop now e b l (n : Int) out m).1.getD k 0 = out.getD k 0 + 1
  | [], n, _, _, _, _, h1, h2, _ => by simp only [List.length_nil] at h2; omega
  | x :: r, n, out, m, h, hm, h1, h2, hk => by
    simp only [List.length_cons] at h h2
    simp only [rch] at hm
    have hn := rch_nn now e b r
    rw [qLoop_cons]
    by_cases c : k = n
    · subst c
      rw [Nat.sub_self, List.getD_cons_zero] at hk
      rw [if_pos hk] at hm
      rw [if_pos (by rw [hk]; simp only [Bool.and_eq_true, decide_eq_true_eq]; exact ⟨by omega, trivial⟩)]
      have := (qLoop_A now e b k r (k + 1) (out.set k (out.getD k 0 + 1)) (m - 1) (by simp only [List.length_set]; omega)).2.2 (by omega)
      rw [this, getD_set _ _ _ _ (by omega), if_pos rfl]
    · rw [show k - n = (k - (n + 1)) + 1 by omega, List.getD_cons_succ] at hk
      split
      · rename_i t
        simp only [Bool.and_eq_true, decide_eq_true_eq] at t
        rw [if_pos t.2] at hm
        rw [qLoop_C now e b k r (n + 1) _ (m - 1) (by simp only [List.length_set]; omega) (by omega) (by omega) (by omega) hk, getD_set _ _ _ _ (by omega), if_neg c]
      · refine qLoop_C now e b k r (n + 1) out m (by omega) ?_ (by omega) (by omega) hk
        split at hm <;> omega
theorem qLoop_D (now : List Int) (e : Int) (b : Bool) : ∀ (l : List Int) (i : Int) (out : List Int) (m : Int), m ≤ 0 → (qLoop now e b l i out m).1 = out
  | [], _, _, _, _ => rfl
  | x :: r, i, out, m, h => by
    simp only [qLoop]
    rw [if_neg (by simp; omega)]
    exact qLoop_D now e b r _ _ _ h
theorem rep_getD (k i : Nat) (v : Int) (h : i < k) : (List.replicate k v).getD i 0 = v := by
  simp [List.getD_eq_getElem?_getD, h]
theorem quotaM_between (now m : List Int) (i : Nat) (h1 : 1 ≤ m.length) (h8 : m.length ≤ 8) (hi : i < m.length) : qEach (m.length : Int) ≤ (quotaM now m).getD i 0 ∧ (quotaM now m).getD i 0 ≤ qEach (m.length : Int) + 1 := by
  have e : quotaM now m = (qLoop now (qEach (m.length : Int)) false m ((0 : Nat) : Int) (qLoop now (qEach (m.length : Int)) true m ((0 : Nat) : Int) (List.replicate m.length (qEach (m.length : Int))) (Int.tmod 16 (m.length : Int))).1 (qLoop now (qEach (m.length : Int)) true m ((0 : Nat) : Int) (List.replicate m.length (qEach (m.length : Int))) (Int.tmod 16 (m.length : Int))).2).1 := rfl
  rw [e]
  have hl := qLoop_len now (qEach (m.length : Int)) true m ((0 : Nat) : Int) (List.replicate m.length (qEach (m.length : Int))) (Int.tmod 16 (m.length : Int))
  rw [List.length_replicate] at hl
  have a1 := qLoop_A now (qEach (m.length : Int)) true i m 0 (List.replicate m.length (qEach (m.length : Int))) (Int.tmod 16 (m.length : Int)) (by simp)
  rw [rep_getD _ _ _ hi] at a1
  have a2 := qLoop_A now (qEach (m.length : Int)) false i m 0 (qLoop now (qEach (m.length : Int)) true m ((0 : Nat) : Int) (List.replicate m.length (qEach (m.length : Int))) (Int.tmod 16 (m.length : Int))).1 (qLoop now (qEach (m.length : Int)) true m ((0 : Nat) : Int) (List.replicate m.length (qEach (m.length : Int))) (Int.tmod 16 (m.length : Int))).2 (by omega)
  by_cases c : (decide (hasL now (m.getD i 0) > qEach (m.length : Int)) == true) = true
  · rw [qLoop_B now (qEach (m.length : Int)) false i m 0 _ _ (by omega) (fun _ _ => by rw [Nat.sub_zero]; revert c; cases decide (hasL now (m.getD i 0) > qEach (m.length : Int)) <;> simp)]
    exact ⟨a1.1, a1.2.1⟩
  · have b1 := qLoop_B now (qEach (m.length : Int)) true i m 0 (List.replicate m.length (qEach (m.length : Int))) (Int.tmod 16 (m.length : Int)) (by simp) (fun _ _ => by rw [Nat.sub_zero]; simpa using c)
    rw [rep_getD _ _ _ hi] at b1
    rw [b1] at a2
    exact ⟨a2.1, a2.2.1⟩
theorem rch_sum (now : List Int) (e : Int) : ∀ (m q : List Int), q.length = m.length → (∀ i, i < m.length → hasL now (m.getD i 0) = q.getD i 0 ∧ e ≤ q.getD i 0 ∧ q.getD i 0 ≤ e + 1) → rch now e true m = q.sum - m.length * e
  | [], [], _, _ => by simp [rch]
  | x :: m, y :: q, h, ha => by
    have h0 := ha 0 (by simp)
    simp only [List.getD_cons_zero] at h0
    have := rch_sum now e m q (by simpa using h) (fun i hi => by simpa using ha (i + 1) (by simpa using hi))
    simp only [rch, List.sum_cons, List.length_cons, this, h0.1, Int.natCast_add, Int.add_mul]
    split
    · rename_i c
      simp only [beq_iff_eq, decide_eq_true_eq] at c
      omega
    · rename_i c
      simp only [beq_iff_eq, decide_eq_true_eq] at c
      omega
  | [], _ :: _, h, _ => by simp at h
  | _ :: _, [], h, _ => by simp at h
theorem n16 {n : Nat} (h1 : 1 ≤ n) (h8 : n ≤ 8) : (n : Int) * qEach (n : Int) + Int.tmod 16 (n : Int) = 16 := by
  have : n = 1 ∨ n = 2 ∨ n = 3 ∨ n = 4 ∨ n = 5 ∨ n = 6 ∨ n = 7 ∨ n = 8 := by omega
  rcases this with h | h | h | h | h | h | h | h <;> rw [h] <;> decide
theorem quotaM_again (now m q : List Int) (h1 : 1 ≤ m.length) (h8 : m.length ≤ 8) (hq : q.length = m.length) (hs : q.sum = 16) (ha : ∀ i, i < m.length → hasL now (m.getD i 0) = q.getD i 0 ∧ qEach (m.length : Int) ≤ q.getD i 0 ∧ q.getD i 0 ≤ qEach (m.length : Int) + 1) : quotaM now m = q := by
  have hr := rch_sum now (qEach (m.length : Int)) m q hq ha
  have hn := qNum (n := (m.length : Int)) (by omega) (by omega)
  have h16 := n16 h1 h8
  have hm := qLoop_more now (qEach (m.length : Int)) true m ((0 : Nat) : Int) (List.replicate m.length (qEach (m.length : Int))) (Int.tmod 16 (m.length : Int)) hn.2.2.1
  have e : quotaM now m = (qLoop now (qEach (m.length : Int)) false m ((0 : Nat) : Int) (qLoop now (qEach (m.length : Int)) true m ((0 : Nat) : Int) (List.replicate m.length (qEach (m.length : Int))) (Int.tmod 16 (m.length : Int))).1 (qLoop now (qEach (m.length : Int)) true m ((0 : Nat) : Int) (List.replicate m.length (qEach (m.length : Int))) (Int.tmod 16 (m.length : Int))).2).1 := rfl
  rw [e, qLoop_D _ _ _ _ _ _ _ (by omega)]
  have hl := qLoop_len now (qEach (m.length : Int)) true m ((0 : Nat) : Int) (List.replicate m.length (qEach (m.length : Int))) (Int.tmod 16 (m.length : Int))
  rw [List.length_replicate] at hl
  refine ext_getD 0 (by omega) fun k hk => ?_
  have hk' : k < m.length := by omega
  obtain ⟨k1, k2, k3⟩ := ha k hk'
  by_cases c : hasL now (m.getD k 0) > qEach (m.length : Int)
  · rw [qLoop_C now (qEach (m.length : Int)) true k m 0 _ _ (by simp) (by omega) (by omega) (by omega) (by rw [Nat.sub_zero]; simpa using c), rep_getD _ _ _ hk']
    omega
  · rw [qLoop_B now (qEach (m.length : Int)) true k m 0 _ _ (by simp) (fun _ _ => by rw [Nat.sub_zero]; simpa using c), rep_getD _ _ _ hk']
    omega
end Pl
