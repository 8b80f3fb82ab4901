import Derived.Test.YtenjakhegeclhaaClCi
namespace Pl
open Go Sx Go.Proofs Go.RowKit
theorem asgM_all (now m q : List Int) (hm : ∀ x ∈ m, 0 ≤ x) (hd : m.Nodup) (h1 : q.sum = 16) (h2 : q.length = m.length) (h3 : ∀ x ∈ q, 0 ≤ x ∧ x ≤ 40) :
    (∀ k, k < 16 → (asgM now m q).getD k 0 ∈ m) ∧ (∀ i, i < m.length → ((asgM now m q).count (m.getD i 0) : Int) = q.getD i 0) ∧ (∀ k, (asg0 now m 16 0 (List.replicate 16 0) q).1.getD k 0 ≠ -1 → (asgM now m q).getD k 0 = (asg0 now m 16 0 (List.replicate 16 0) q).1.getD k 0) := by
  obtain ⟨a1, a2, a3, a4, a5, a6⟩ := asg0_inv now m q hm hd 16 0 (List.replicate 16 0) q (by omega) (by simp) h2 h3 (by simp; omega) (fun k hk => by omega) (fun i hi => by simp)
  unfold asgM
  generalize asg0 now m 16 0 (List.replicate 16 0) q = r at *
  obtain ⟨r1, r2, r3, r4, r5, r6, r7⟩ := asg1_inv m r.1 q hm hd a1 16 0 r.1 r.2 (by omega) a1 a2 a3 (by simpa using a4) (fun k hk => by omega) (fun k _ hk => ⟨rfl, a5 k hk⟩) a6
  refine ⟨r4, fun i hi => ?_, r6⟩
  have := r5 i hi
  rw [zero_of_sum _ (fun x hx => (r3 x hx).1) r1 i] at this
  omega
theorem memL_idem (ms : List Int) : memL (memL ms) = memL ms := memL_congr fun k hk => by
  constructor
  · intro h
    obtain ⟨j, _, _, h4, h5⟩ := (fltB_mem _ _ _ _).1 h
    have e : j = k := by omega
    subst e
    simpa using h4
  · exact fun h => (fltB_mem _ _ _ _).2 ⟨k, by omega, by omega, by simpa using h, rfl⟩
theorem memL_iff (ms : List Int) (x : Int) : x ∈ memL ms ↔ x ∈ ms ∧ 0 ≤ x ∧ x < 8 := by
  constructor
  · intro h
    obtain ⟨j, _, h3, h4, h5⟩ := (fltB_mem _ _ _ _).1 h
    subst h5
    exact ⟨by simpa using h4, by omega, by omega⟩
  · rintro ⟨h1, h2, h3⟩
    exact (fltB_mem _ _ _ _).2 ⟨x.toNat, by omega, by omega, by rw [Int.toNat_of_nonneg h2]; simpa using h1, by omega⟩
theorem asgL_all (now ms : List Int) (h : (memL ms).length ≠ 0) :
    (asgL now ms).length = 16 ∧ (∀ k, k < 16 → (asgL now ms).getD k 0 ∈ memL ms) ∧ (∀ i, i < (memL ms).length → ((asgL now ms).count ((memL ms).getD i 0) : Int) = (quotaL now ms).getD i 0) := by
  obtain ⟨q1, q2, q3⟩ := quotaL_all now ms h
  have := asgM_all now (memL ms) (quotaL now ms) (fun x hx => (memL_nn ms x hx).1) (memL_nodup ms) q1 q2 q3
  unfold asgL
  rw [if_neg h]
  exact ⟨asgM_len _ _ _, this.1, this.2.1⟩
theorem cntB_congr (f g : Nat → Bool) : ∀ (c j : Nat), (∀ k, j ≤ k → k < j + c → f k = g k) → cntB f c j = cntB g c j
  | 0, _, _ => rfl
  | c + 1, j, h => by
    simp only [cntB]
    rw [h j (by omega) (by omega), cntB_congr f g c (j + 1) (fun k a b => h k (by omega) (by omega))]
theorem cntB_const (b : Bool) : ∀ (c j : Nat), cntB (fun _ => b) c j = if b then (c : Int) else 0
  | 0, _ => by cases b <;> rfl
  | c + 1, j => by
    simp only [cntB, cntB_const b c (j + 1)]
    cases b <;> simp <;> omega
theorem cntB_all {f : Nat → Bool} {b : Bool} {c j : Nat} (h : ∀ k, j ≤ k → k < j + c → f k = b) : cntB f c j = if b then (c : Int) else 0 := by
  rw [cntB_congr f (fun _ => b) c j h, cntB_const]
theorem qLoop_congr {now now' : List Int} (e : Int) (b : Bool) : ∀ (l : List Int) (i : Int) (out : List Int) (m : Int), (∀ x ∈ l, hasL now x = hasL now' x) → qLoop now e b l i out m = qLoop now' e b l i out m
  | [], _, _, _, _ => rfl
  | x :: r, i, out, m, h => by
    simp only [qLoop]
    rw [h x (by simp)]
    split
    · exact qLoop_congr e b r _ _ _ fun y hy => h y (by simp [hy])
    · exact qLoop_congr e b r _ _ _ fun y hy => h y (by simp [hy])
theorem quotaL_has {now now' ms : List Int} (h : ∀ x ∈ memL ms, hasL now x = hasL now' x) : quotaL now ms = quotaL now' ms := by
  unfold quotaL quotaM
  simp only [qLoop_congr _ _ _ _ _ _ h]
theorem asg0_congr {now now' m : List Int} (h : ∀ p : Nat, p < 16 → indexF m (atL now (p : Int)) = indexF m (atL now' (p : Int))) : ∀ (c p : Nat) (to la : List Int), p + c = 16 → asg0 now m c p to la = asg0 now' m c p to la
  | 0, _, _, _, _ => rfl
  | c + 1, p, to, la, hp => by
    simp only [asg0]
    rw [h p (by omega)]
    split
    · exact asg0_congr h c (p + 1) _ _ (by omega)
    · exact asg0_congr h c (p + 1) _ _ (by omega)
theorem hasL_zero {now : List Int} {x : Int} (h : ∀ p : Nat, p < 16 → atL now (p : Int) ≠ x) : hasL now x = 0 := by
  unfold hasL
  rw [cntB_all (b := false) (fun k _ hk => by simpa using h k (by omega))]; rfl
theorem index_none {m : List Int} {v : Int} (h : v ∉ m) : indexF m v = -1 := by
  unfold indexF
  rw [if_neg (by simpa using h)]
theorem far {now ms : List Int} (h : ∀ p : Nat, p < 16 → atL now (p : Int) ∉ memL ms) : quotaL now ms = quotaL [] ms ∧ asgL now ms = asgL [] ms := by
  have h0 : ∀ p : Nat, atL [] (p : Int) ∉ memL ms := fun p hp => by
    have := (memL_nn ms _ hp).1
    have e : atL [] (p : Int) = -1 := by unfold atL; rw [if_neg (by simp)]
    omega
  have hq : quotaL now ms = quotaL [] ms := quotaL_has fun x hx => by
    rw [hasL_zero (fun p hp e => h p hp (e ▸ hx)), hasL_zero (fun p hp e => h0 p (e ▸ hx))]
  refine ⟨hq, ?_⟩
  unfold asgL
  rw [hq]
  split
  · rfl
  · unfold asgM
    rw [asg0_congr (now := now) (now' := []) (fun p hp => by rw [index_none (h p hp), index_none (h0 p)]) 16 0 _ _ (by omega)]
theorem atL_in {l : List Int} (h : l.length = 16) {p : Nat} (hp : p < 16) : atL l (p : Int) = l.getD p 0 := by
  unfold atL
  rw [if_pos (by omega), Int.toNat_natCast]
end Pl
