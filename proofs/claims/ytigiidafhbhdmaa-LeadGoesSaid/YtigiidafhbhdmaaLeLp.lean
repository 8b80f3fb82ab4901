import Derived.Test.YtigiidafhbhdmaaLeCp1
namespace Pl
open Go Sx Go.Proofs Go.RowKit
theorem qLoop_cons (now : List Int) (e : Int) (b : Bool) (x : Int) (r : List Int) (n : Nat) (out : List Int) (m : Int) : qLoop now e b (x :: r) (n : Int) out m = if decide (m > 0) && (decide (hasL now x > e) == b) then qLoop now e b r ((n + 1 : Nat) : Int) (out.set n (out.getD n 0 + 1)) (m - 1) else qLoop now e b r ((n + 1 : Nat) : Int) out m := rfl
theorem qLoop_A (now : List Int) (e : Int) (b : Bool) (k : Nat) : ∀ (l : List Int) (n : Nat) (out : List Int) (m : Int), n + l.length ≤ out.length → out.getD k 0 ≤ (qLoop now e b l (n : Int) out m).1.getD k 0 ∧ (qLoop now e b l (n : Int) out m).1.getD k 0 ≤ out.getD k 0 + 1 ∧ (k < n → (qLoop now e b l (n : Int) out m).1.getD k 0 = out.getD k 0)
  | [], _, _, _, _ => ⟨by simp only [qLoop]; omega, by simp only [qLoop]; omega, fun _ => rfl⟩
  | x :: r, n, out, m, h => by
    simp only [List.length_cons] at h
    rw [qLoop_cons]
    split
    · have := qLoop_A now e b k r (n + 1) (out.set n (out.getD n 0 + 1)) (m - 1) (by simp only [List.length_set]; omega)
      rw [getD_set _ _ _ _ (by omega)] at this
      by_cases c : k = n
      · subst c
        rw [if_pos rfl] at this
        have h3 := this.2.2 (by omega)
        exact ⟨by omega, by omega, fun z => by omega⟩
      · rw [if_neg c] at this
        exact ⟨this.1, this.2.1, fun z => this.2.2 (by omega)⟩
    · have := qLoop_A now e b k r (n + 1) out m (by omega)
      exact ⟨this.1, this.2.1, fun z => this.2.2 (by omega)⟩
theorem qLoop_B (now : List Int) (e : Int) (b : Bool) (k : Nat) : ∀ (l : List Int) (n : Nat) (out : List Int) (m : Int), n + l.length ≤ out.length → (n ≤ k → k < n + l.length → (decide (hasL now (l.getD (k - n) 0) > e) == b) = false) → (qLoop now e b l (n : Int) out m).1.getD k 0 = out.getD k 0
  | [], _, _, _, _, _ => rfl
  | x :: r, n, out, m, h, hk => by
    simp only [List.length_cons] at h hk
    have hr : n + 1 ≤ k → k < n + 1 + r.length → (decide (hasL now (r.getD (k - (n + 1)) 0) > e) == b) = false := fun h1 h2 => by
      have := hk (by omega) (by omega)
      rwa [show k - n = (k - (n + 1)) + 1 by omega, List.getD_cons_succ] at this
    rw [qLoop_cons]
    split
    · rename_i t
      rw [qLoop_B now e b k r (n + 1) _ (m - 1) (by simp only [List.length_set]; omega) hr, getD_set _ _ _ _ (by omega)]
      split
      · rename_i c
        subst c
        have := hk (by omega) (by omega)
        rw [Nat.sub_self, List.getD_cons_zero] at this
        simp only [Bool.and_eq_true] at t
        rw [this] at t
        exact absurd t.2 (by decide)
      · rfl
    · exact qLoop_B now e b k r (n + 1) out m (by omega) hr
theorem qLoop_C (now : List Int) (e : Int) (b : Bool) (k : Nat) : ∀ (l : List Int) (n : Nat) (out : List Int) (m : Int), n + l.length ≤ out.length → rch now e b l ≤ m → n ≤ k → k < n + l.length → (decide (hasL now (l.getD (k - n) 0) > e) == b) = true → (qLoop now e b l (n : Int) out m).1.getD k 0 = out.getD k 0 + 1
  | [], n, _, _, _, _, h1, h2, _ => by simp only [List.length_nil] at h2; omega
  | x :: r, n, out, m, h, hm, h1, h2, hk => by
    simp only [List.length_cons] at h h2
    simp only [rch] at hm
    have hn := rch_nn now e b r
    rw [qLoop_cons]
    by_cases c : k = n
    · subst c
      rw [Nat.sub_self, List.getD_cons_zero] at hk
      rw [if_pos hk] at hm
      rw [if_pos (by rw [hk]; simp only [Bool.and_eq_true, decide_eq_true_eq]; exact ⟨by omega, trivial⟩)]
      have := (qLoop_A now e b k r (k + 1) (out.set k (out.getD k 0 + 1)) (m - 1) (by simp only [List.length_set]; omega)).2.2 (by omega)
      rw [this, getD_set _ _ _ _ (by omega), if_pos rfl]
    · rw [show k - n = (k - (n + 1)) + 1 by omega, List.getD_cons_succ] at hk
      split
      · rename_i t
        simp only [Bool.and_eq_true, decide_eq_true_eq] at t
        rw [if_pos t.2] at hm
        rw [qLoop_C now e b k r (n + 1) _ (m - 1) (by simp only [List.length_set]; omega) (by omega) (by omega) (by omega) hk, getD_set _ _ _ _ (by omega), if_neg c]
      · refine qLoop_C now e b k r (n + 1) out m (by omega) ?_ (by omega) (by omega) hk
        split at hm <;> omega
theorem qLoop_D (now : List Int) (e : Int) (b : Bool) : ∀ (l : List Int) (i : Int) (out : List Int) (m : Int), m ≤ 0 → (qLoop now e b l i out m).1 = out
  | [], _, _, _, _ => rfl
  | x :: r, i, out, m, h => by
    simp only [qLoop]
    rw [if_neg (by simp; omega)]
    exact qLoop_D now e b r _ _ _ h
theorem rep_getD (k i : Nat) (v : Int) (h : i < k) : (List.replicate k v).getD i 0 = v := by
  simp [List.getD_eq_getElem?_getD, h]
theorem quotaM_between (now m : List Int) (i : Nat) (h1 : 1 ≤ m.length) (h8 : m.length ≤ 8) (hi : i < m.length) : qEach (m.length : Int) ≤ (quotaM now m).getD i 0 ∧ (quotaM now m).getD i 0 ≤ qEach (m.length : Int) + 1 := by
  have e : quotaM now m = (qLoop now (qEach (m.length : Int)) false m ((0 : Nat) : Int) (qLoop now (qEach (m.length : Int)) true m ((0 : Nat) : Int) (List.replicate m.length (qEach (m.length : Int))) (Int.tmod 16 (m.length : Int))).1 (qLoop now (qEach (m.length : Int)) true m ((0 : Nat) : Int) (List.replicate m.length (qEach (m.length : Int))) (Int.tmod 16 (m.length : Int))).2).1 := rfl
  rw [e]
  have hl := qLoop_len now (qEach (m.length : Int)) true m ((0 : Nat) : Int) (List.replicate m.length (qEach (m.length : Int))) (Int.tmod 16 (m.length : Int))
  rw [List.length_replicate] at hl
  have a1 := qLoop_A now (qEach (m.length : Int)) true i m 0 (List.replicate m.length (qEach (m.length : Int))) (Int.tmod 16 (m.length : Int)) (by simp)
  rw [rep_getD _ _ _ hi] at a1
  have a2 := qLoop_A now (qEach (m.length : Int)) false i m 0 (qLoop now (qEach (m.length : Int)) true m ((0 : Nat) : Int) (List.replicate m.length (qEach (m.length : Int))) (Int.tmod 16 (m.length : Int))).1 (qLoop now (qEach (m.length : Int)) true m ((0 : Nat) : Int) (List.replicate m.length (qEach (m.length : Int))) (Int.tmod 16 (m.length : Int))).2 (by omega)
  by_cases c : (decide (hasL now (m.getD i 0) > qEach (m.length : Int)) == true) = true
  · rw [qLoop_B now (qEach (m.length : Int)) false i m 0 _ _ (by omega) (fun _ _ => by rw [Nat.sub_zero]; revert c; cases decide (hasL now (m.getD i 0) > qEach (m.length : Int)) <;> simp)]
    exact ⟨a1.1, a1.2.1⟩
  · have b1 := qLoop_B now (qEach (m.length : Int)) true i m 0 (List.replicate m.length (qEach (m.length : Int))) (Int.tmod 16 (m.length : Int)) (by simp) (fun _ _ => by rw [Nat.sub_zero]; simpa using c)
    rw [rep_getD _ _ _ hi] at b1
    rw [b1] at a2
    exact ⟨a2.1, a2.2.1⟩
theorem rch_sum (now : List Int) (e : Int) : ∀ (m q : List Int), q.length = m.length → (∀ i, i < m.length → hasL now (m.getD i 0) = q.getD i 0 ∧ e ≤ q.getD i 0 ∧ q.getD i 0 ≤ e + 1) → rch now e true m = q.sum - m.length * e
  | [], [], _, _ => by simp [rch]
  | x :: m, y :: q, h, ha => by
    have h0 := ha 0 (by simp)
    simp only [List.getD_cons_zero] at h0
    have := rch_sum now e m q (by simpa using h) (fun i hi => by simpa using ha (i + 1) (by simpa using hi))
    simp only [rch, List.sum_cons, List.length_cons, this, h0.1, Int.natCast_add, Int.add_mul]
    split
    · rename_i c
      simp only [beq_iff_eq, decide_eq_true_eq] at c
      omega
    · rename_i c
      simp only [beq_iff_eq, decide_eq_true_eq] at c
      omega
  | [], _ :: _, h, _ => by simp at h
  | _ :: _, [], h, _ => by simp at h
theorem n16 {n : Nat} (h1 : 1 ≤ n) (h8 : n ≤ 8) : (n : Int) * qEach (n : Int) + Int.tmod 16 (n : Int) = 16 := by
  have : n = 1 ∨ n = 2 ∨ n = 3 ∨ n = 4 ∨ n = 5 ∨ n = 6 ∨ n = 7 ∨ n = 8 := by omega
  rcases this with h | h | h | h | h | h | h | h <;> rw [h] <;> decide
theorem quotaM_again (now m q : List Int) (h1 : 1 ≤ m.length) (h8 : m.length ≤ 8) (hq : q.length = m.length) (hs : q.sum = 16) (ha : ∀ i, i < m.length → hasL now (m.getD i 0) = q.getD i 0 ∧ qEach (m.length : Int) ≤ q.getD i 0 ∧ q.getD i 0 ≤ qEach (m.length : Int) + 1) : quotaM now m = q := by
  have hr := rch_sum now (qEach (m.length : Int)) m q hq ha
  have hn := qNum (n := (m.length : Int)) (by omega) (by omega)
  have h16 := n16 h1 h8
  have hm := qLoop_more now (qEach (m.length : Int)) true m ((0 : Nat) : Int) (List.replicate m.length (qEach (m.length : Int))) (Int.tmod 16 (m.length : Int)) hn.2.2.1
  have e : quotaM now m = (qLoop now (qEach (m.length : Int)) false m ((0 : Nat) : Int) (qLoop now (qEach (m.length : Int)) true m ((0 : Nat) : Int) (List.replicate m.length (qEach (m.length : Int))) (Int.tmod 16 (m.length : Int))).1 (qLoop now (qEach (m.length : Int)) true m ((0 : Nat) : Int) (List.replicate m.length (qEach (m.length : Int))) (Int.tmod 16 (m.length : Int))).2).1 := rfl
  rw [e, qLoop_D _ _ _ _ _ _ _ (by omega)]
  have hl := qLoop_len now (qEach (m.length : Int)) true m ((0 : Nat) : Int) (List.replicate m.length (qEach (m.length : Int))) (Int.tmod 16 (m.length : Int))
  rw [List.length_replicate] at hl
  refine ext_getD 0 (by omega) fun k hk => ?_
  have hk' : k < m.length := by omega
  obtain ⟨k1, k2, k3⟩ := ha k hk'
  by_cases c : hasL now (m.getD k 0) > qEach (m.length : Int)
  · rw [qLoop_C now (qEach (m.length : Int)) true k m 0 _ _ (by simp) (by omega) (by omega) (by omega) (by rw [Nat.sub_zero]; simpa using c), rep_getD _ _ _ hk']
    omega
  · rw [qLoop_B now (qEach (m.length : Int)) true k m 0 _ _ (by simp) (fun _ _ => by rw [Nat.sub_zero]; simpa using c), rep_getD _ _ _ hk']
    omega
def fairP (m l q : List Int) : Bool := (List.range m.length).all (fun i => decide ((l.count (m.getD i 0) : Int) = q.getD i 0) && decide (qEach (m.length : Int) ≤ q.getD i 0) && decide (q.getD i 0 ≤ qEach (m.length : Int) + 1))
theorem hasL_count {l : List Int} (h : l.length = 16) (x : Int) : hasL l x = l.count x := by
  have aux : ∀ (c j : Nat), j + c = 16 → cntB (fun p => atL l (p : Int) == x) c j = ((l.drop j).count x : Int) := by
    intro c
    induction c with
    | zero => intro j hj; rw [List.drop_eq_nil_of_le (by omega)]; rfl
    | succ c ih =>
      intro j hj
      have hd := drop_cons (l := l) (i := (j : Int)) 0 (by omega) (by omega)
      have e3 : ((j : Int) + 1).toNat = j + 1 := by omega
      rw [e3, Int.toNat_natCast] at hd
      rw [hd, List.count_cons]
      simp only [cntB, ih (j + 1) (by omega), atL_in h (by omega : j < 16)]
      split <;> omega
  have := aux 16 0 rfl
  exact this
theorem fair_good (now ms : List Int) (h : (memL ms).length ≠ 0) : fairP (memL ms) (asgL now ms) (quotaL now ms) = true := by
  obtain ⟨a1, a2, a3⟩ := asgL_all now ms h
  unfold fairP
  rw [List.all_eq_true]
  intro i hi
  have hi' := List.mem_range.1 hi
  have hb := quotaM_between now (memL ms) i (by omega) (memL_len ms) hi'
  have hq : quotaL now ms = quotaM now (memL ms) := by unfold quotaL; rw [if_neg h]
  simp only [Bool.and_eq_true, decide_eq_true_eq]
  exact ⟨⟨a3 i hi', by rw [hq]; exact hb.1⟩, by rw [hq]; exact hb.2⟩
theorem asg1_id (m t0 : List Int) (h : ∀ k, k < 16 → t0.getD k 0 ≠ -1) : ∀ (c p : Nat) (to la : List Int), p + c = 16 → asg1 m t0 c p to la = (to, la)
  | 0, _, _, _, _ => rfl
  | c + 1, p, to, la, hp => by
    simp only [asg1]
    rw [if_neg (by simpa using h p (by omega)), asg1_id m t0 h c (p + 1) to la (by omega)]
theorem asg0_same (l m q : List Int) (hl : l.length = 16) (hm : ∀ k, k < 16 → l.getD k 0 ∈ m) (hd : m.Nodup) (hq : q.length = m.length) (hc : ∀ i, i < m.length → (l.count (m.getD i 0) : Int) = q.getD i 0) :
    ∀ (c p : Nat) (to la : List Int), p + c = 16 → to.length = 16 → la.length = m.length → to.take p = l.take p → (∀ i, i < m.length → la.getD i 0 = q.getD i 0 - ((l.take p).count (m.getD i 0) : Int)) → (asg0 l m c p to la).1 = l
  | 0, p, to, la, hp, ht, _, hk, _ => by
    rw [List.take_of_length_le (by omega), List.take_of_length_le (by omega)] at hk
    exact hk
  | c + 1, p, to, la, hp, ht, hla, hk, hv => by
    have hmp := hm p (by omega)
    have hx : m.contains (l.getD p 0) = true := by simpa using hmp
    have hi : indexF m (l.getD p 0) = idxF (l.getD p 0) m 0 := by unfold indexF; rw [if_pos hx]
    obtain ⟨i1, _, i2, i3⟩ := idxF_ge (l.getD p 0) m 0 (by omega) hx
    rw [← hi] at i1 i2 i3
    rw [Int.sub_zero] at i3
    have hat := atL_in hl (by omega : p < 16)
    have hlt : (indexF m (l.getD p 0)).toNat < m.length := by omega
    have htk : l.take (p + 1) = l.take p ++ [l.getD p 0] := by
      have := take_succ (l := l) (i := (p : Int)) 0 (by omega) (by omega)
      rwa [show ((p : Int) + 1).toNat = p + 1 by omega, Int.toNat_natCast] at this
    have hpos : la.getD (indexF m (l.getD p 0)).toNat 0 > 0 := by
      rw [hv _ hlt, ← hc _ hlt, i3]
      have h1 : l.count (l.getD p 0) = (l.take (p + 1)).count (l.getD p 0) + (l.drop (p + 1)).count (l.getD p 0) := by
        rw [← List.count_append, List.take_append_drop]
      rw [htk, List.count_append, List.count_singleton, if_pos (beq_self_eq_true _)] at h1
      omega
    simp only [asg0]
    rw [hat, if_pos (by simp only [Bool.and_eq_true, decide_eq_true_eq]; exact ⟨by omega, hpos⟩), i3]
    refine asg0_same l m q hl hm hd hq hc c (p + 1) _ _ (by omega) (by simp [ht]) (by simp [hla]) ?_ (fun i hi' => ?_)
    · rw [set_take_succ _ (by omega), hk, htk]
    · rw [getD_set _ _ _ _ (by omega), htk, List.count_append, List.count_singleton]
      have h0 := hv i hi'
      split
      · rename_i e
        subst e
        rw [if_pos (by rw [i3]; exact beq_self_eq_true _)]; omega
      · rename_i e
        rw [if_neg (fun z => e (nodup_getD hd hi' hlt (by rw [i3]; exact (eq_of_beq z).symm)))]; omega
theorem again (now ms : List Int) (h : (memL ms).length ≠ 0) : quotaL (asgL now ms) ms = quotaL now ms ∧ asgL (asgL now ms) ms = asgL now ms := by
  obtain ⟨a1, a2, a3⟩ := asgL_all now ms h
  obtain ⟨q1, q2, q3⟩ := quotaL_all now ms h
  have hq : quotaL now ms = quotaM now (memL ms) := by unfold quotaL; rw [if_neg h]
  have hh : ∀ i, i < (memL ms).length → hasL (asgL now ms) ((memL ms).getD i 0) = (quotaL now ms).getD i 0 := fun i hi => by
    rw [hasL_count a1, a3 i hi]
  have e1 : quotaL (asgL now ms) ms = quotaL now ms := by
    have : quotaL (asgL now ms) ms = quotaM (asgL now ms) (memL ms) := by unfold quotaL; rw [if_neg h]
    rw [this]
    refine quotaM_again _ _ _ (by omega) (memL_len ms) q2 q1 fun i hi => ⟨hh i hi, ?_⟩
    rw [hq]
    exact quotaM_between now (memL ms) i (by omega) (memL_len ms) hi
  refine ⟨e1, ?_⟩
  have e2 : asgL (asgL now ms) ms = asgM (asgL now ms) (memL ms) (quotaL now ms) := by
    conv => lhs; unfold asgL
    rw [if_neg h]
    have : (if (memL ms).length = 0 then [] else asgM now (memL ms) (quotaL now ms)) = asgL now ms := rfl
    rw [this, e1]
  rw [e2]
  have e3 := asg0_same (asgL now ms) (memL ms) (quotaL now ms) a1 a2 (memL_nodup ms) q2 a3 16 0 (List.replicate 16 0) (quotaL now ms) (by omega) (by simp) q2 rfl (fun i _ => by simp)
  unfold asgM
  rw [e3, asg1_id _ _ (fun k hk e => by have := (memL_nn ms _ (a2 k hk)).1; omega) 16 0 _ _ (by omega)]
theorem mov_self (l : List Int) : movL l l = 0 := by
  unfold movL
  rw [cntB_all (b := false) (fun k _ _ => by simp)]; rfl
end Pl
namespace Pl
open Go Sx Go.Proofs Go.RowKit
theorem next_zero {p : PlanD} {n : Int} {t : List Int} (h : (nextP p n t).2 = 0) : nextP p n t = ((p.1 + 1, n, t), 0) ∧ mayB p = true ∧ nodeB n = true ∧ fullB t = true ∧ p.1 ≠ 1000000 ∧ 0 ≤ p.1 ∧ p.1 ≤ 1000000 := by
  unfold nextP at h ⊢
  split at h
  · rename_i hc
    simp only [Bool.and_eq_true] at hc
    split at h
    · simp at h
    · rename_i h6
      have := mayB_bound (v := p.1) (b := p.2.1) (l := p.2.2) hc.1.1
      simp [hc, h6]; omega
  · simp at h
theorem next_above (v b : Int) (l : List Int) (n : Int) (t : List Int) : cmpP (v + 1, n, t) (v, b, l) = 1 := by
  have : cmpI (v + 1) v = 1 := by unfold cmpI; rw [if_neg (by omega), if_pos (by omega)]
  simp [cmpP, orL, this]
theorem may_next {v b : Int} {l : List Int} {n : Int} {t : List Int} (h : (nextP (v, b, l) n t).2 = 0) : mayB (v + 1, n, t) = true := by
  obtain ⟨_, _, h2, h3, h4, h5, h6⟩ := next_zero h
  simp only at h4 h5 h6
  have : t.length = 16 := by simp only [fullB, Bool.and_eq_true, decide_eq_true_eq] at h3; exact h3.1
  simp [mayB, this, h2, h3]
  omega
theorem ofL_flt (s : List Int) (f t : Int) : ∀ c j, ofL s f t c j = fltB (fun k => decide (s.getD k 0 ≥ f) && decide (s.getD k 0 ≤ t)) c j
  | 0, _ => rfl
  | c + 1, j => by simp only [ofL, fltB, ofL_flt s f t c (j + 1)]
theorem ofR_mem {r : RingD} {f t x : Int} : x ∈ ofR r f t ↔ 0 ≤ x ∧ x < 8 ∧ f ≤ r.1.getD x.toNat 0 ∧ r.1.getD x.toNat 0 ≤ t := by
  unfold ofR
  rw [ofL_flt, fltB_mem]
  constructor
  · rintro ⟨k, _, h2, h3, rfl⟩
    simp only [Bool.and_eq_true, decide_eq_true_eq] at h3
    simp only [Int.toNat_natCast]
    exact ⟨by omega, by omega, h3.1, h3.2⟩
  · rintro ⟨h1, h2, h3, h4⟩
    exact ⟨x.toNat, by omega, by omega, by simp only [Bool.and_eq_true, decide_eq_true_eq]; exact ⟨h3, h4⟩, by omega⟩
theorem memL_ofR (r : RingD) (f t : Int) : memL (ofR r f t) = ofR r f t := by
  have e : ofR r f t = fltB (fun k => decide (r.1.getD k 0 ≥ f) && decide (r.1.getD k 0 ≤ t)) 8 0 := ofL_flt _ _ _ _ _
  refine Eq.trans ?_ e.symm
  unfold memL
  refine fltB_congr _ _ _ _ fun k _ hk => ?_
  rw [Bool.eq_iff_iff, List.contains_iff_mem, ofR_mem]
  simp only [Int.toNat_natCast, Bool.and_eq_true, decide_eq_true_eq]
  constructor
  · rintro ⟨_, _, a, b⟩; exact ⟨a, b⟩
  · rintro ⟨a, b⟩; exact ⟨by omega, by omega, a, b⟩
def stG (ow tg : List Int) (st : List Int) : List Int := tabL 8 (fun j => if st.getD j 0 = 1 then 2 else if st.getD j 0 = 3 ∧ (ow.contains (j : Int) || tg.contains (j : Int)) = false then 4 else st.getD j 0)
theorem stG_getD (ow tg st : List Int) {j : Nat} (h : j < 8) : (stG ow tg st).getD j 0 = if st.getD j 0 = 1 then 2 else if st.getD j 0 = 3 ∧ (ow.contains (j : Int) || tg.contains (j : Int)) = false then 4 else st.getD j 0 := tabL_getD _ _ _ h
def planS (r : RingD) (self : Int) : PlanD × Int :=
  if (ofR r 1 2).length = 0 then (r.2.1, 0) else if asgL (nowR r) (ofR r 1 2) = r.2.1.2.2 then (r.2.1, 0) else nextP r.2.1 self (asgL (nowR r) (ofR r 1 2))
def outS (r : RingD) (self : Int) : RingD := (stG (ownL r) (tgtL (r.1, (planS r self).1, r.2.2)) r.1, (planS r self).1, r.2.2)
def stageR (r : RingD) (self : Int) (h : List Int) : RingD × Int :=
  if mayR r = false ∨ nodeB self = false then (zeroR, 1) else if leadR r h ≠ self then (zeroR, 10) else
  if (planS r self).2 ≠ 0 then (zeroR, (planS r self).2) else if outS r self = r then (zeroR, 9) else (outS r self, 0)
theorem stage_zero {r s : RingD} {self : Int} {h : List Int} (e : stageR r self h = (s, 0)) : mayR r = true ∧ nodeB self = true ∧ leadR r h = self ∧ (planS r self).2 = 0 ∧ s = outS r self ∧ s ≠ r := by
  unfold stageR at e
  split at e
  · injection e with _ e; exact absurd e (by decide)
  · rename_i h1
    split at e
    · injection e with _ e; exact absurd e (by decide)
    · rename_i h2
      split at e
      · rename_i h3; injection e with _ e; exact absurd e h3
      · rename_i h3
        split at e
        · injection e with _ e; exact absurd e (by decide)
        · rename_i h4
          injection e with e _
          simp only [not_or, Bool.not_eq_false] at h1
          exact ⟨h1.1, h1.2, Decidable.of_not_not h2, Decidable.of_not_not h3, e.symm, by rw [← e]; exact h4⟩
theorem stage_err {r s : RingD} {self : Int} {h : List Int} {e : Int} (he : stageR r self h = (s, e)) (h0 : e ≠ 0) : s = zeroR := by
  unfold stageR at he
  repeat' split at he
  all_goals first | (injection he with a b; exact a.symm) | (injection he with a b; exact absurd b.symm h0)
theorem tgtL_eq {r : RingD} (h : mayB r.2.1 = true) (h0 : r.2.1.2.2.length ≠ 0) : tgtL r = r.2.1.2.2 := by
  have hl := (may_full h h0).2
  refine ext_getD 0 (by unfold tgtL; rw [tabL_len, hl]) fun k hk => ?_
  unfold tgtL at hk ⊢
  rw [tabL_len] at hk
  rw [tabL_getD _ _ _ hk]
  unfold targetR
  rw [if_pos]
  · simp only [Int.toNat_natCast]
  · have a1 : ((k : Int) ≥ 0) := by omega
    have a2 : ((k : Int) < 16) := by omega
    have a3 : ¬ ((r.2.1.2.2.length : Int) = 0) := by omega
    simp [a1, a2, h]
    intro e; rw [e] at h0; exact h0 rfl
theorem planS_may {r : RingD} {self : Int} (h : mayB r.2.1 = true) (h0 : (planS r self).2 = 0) : mayB (planS r self).1 = true := by
  unfold planS at h0 ⊢
  split
  · exact h
  · rename_i h1
    rw [if_neg h1] at h0
    split
    · exact h
    · rename_i h2
      rw [if_neg h2] at h0
      rw [(next_zero h0).1]
      exact may_next (v := r.2.1.1) (b := r.2.1.2.1) (l := r.2.1.2.2) h0
theorem planS_join {r : RingD} {self : Int} (h0 : (planS r self).2 = 0) : joinP r.2.1 (planS r self).1 = (planS r self).1 := by
  unfold planS at h0 ⊢
  split
  · exact join_self _
  · rename_i h1
    rw [if_neg h1] at h0
    split
    · exact join_self _
    · rename_i h2
      rw [if_neg h2] at h0
      rw [(next_zero h0).1]
      unfold joinP
      rw [if_pos]
      have := next_above r.2.1.1 r.2.1.2.1 r.2.1.2.2 self (asgL (nowR r) (ofR r 1 2))
      show cmpP (r.2.1.1 + 1, self, asgL (nowR r) (ofR r 1 2)) (r.2.1.1, r.2.1.2.1, r.2.1.2.2) > 0
      rw [this]; decide
theorem planS_to {r : RingD} {self : Int} (h0 : (planS r self).2 = 0) (hm : (ofR r 1 2).length ≠ 0) : (planS r self).1.2.2 = asgL (nowR r) (ofR r 1 2) := by
  unfold planS at h0 ⊢
  rw [if_neg hm] at h0 ⊢
  split
  · rename_i h2; exact h2.symm
  · rename_i h2
    rw [if_neg h2] at h0
    rw [(next_zero h0).1]
theorem ofR_stG (r : RingD) (p : PlanD) (q : List EntryD) (ow tg : List Int) : ofR (stG ow tg r.1, p, q) 1 2 = ofR r 1 2 := by
  unfold ofR; rw [ofL_flt, ofL_flt]
  refine fltB_congr _ _ _ _ fun k _ hk => ?_
  dsimp only
  rw [stG_getD _ _ _ (by omega), Bool.eq_iff_iff]
  simp only [Bool.and_eq_true, decide_eq_true_eq]
  split
  · omega
  · split <;> omega
theorem asg_all {r : RingD} (hm : (ofR r 1 2).length ≠ 0) (now : List Int) : (asgL now (ofR r 1 2)).length = 16 ∧ ∀ k, k < 16 → (asgL now (ofR r 1 2)).getD k 0 ∈ ofR r 1 2 := by
  have := asgL_all now (ofR r 1 2) (by rw [memL_ofR]; exact hm)
  rw [memL_ofR] at this
  exact ⟨this.1, this.2.1⟩
theorem out_ok (r : RingD) (self : Int) (h : okR r) : okR (outS r self) := ⟨tabL_len _ _, h.2⟩
theorem stB_iff {x : Int} : stB x = true ↔ 0 ≤ x ∧ x ≤ 4 := by
  simp [stB]
theorem mem_getD16 {α : Type} {l : List α} {x z : α} (h : x ∈ l) : ∃ k, k < l.length ∧ l.getD k z = x := by
  obtain ⟨k, hk, e⟩ := List.mem_iff_getElem.1 h
  exact ⟨k, hk, by rw [getD_get z hk, e]⟩
theorem may_st {r : RingD} (h : okR r) (hm : mayR r = true) {k : Nat} (hk : k < 8) : 0 ≤ r.1.getD k 0 ∧ r.1.getD k 0 ≤ 4 := by
  rw [mayR_iff h] at hm
  simp only [Bool.and_eq_true, List.all_eq_true] at hm
  refine stB_iff.1 (hm.1 _ ?_)
  rw [getD_get 0 (by rw [h.1]; exact hk)]
  exact List.getElem_mem _
theorem may_plan {r : RingD} (h : okR r) (hm : mayR r = true) : mayB r.2.1 = true := by
  rw [mayR_iff h] at hm
  simp only [Bool.and_eq_true] at hm
  exact hm.2.1
theorem out_may {r : RingD} {self : Int} (h : okR r) (hm : mayR r = true) (h0 : (planS r self).2 = 0) : mayR (outS r self) = true := by
  have hp := planS_may (may_plan h hm) h0
  rw [mayR_iff (out_ok r self h)]
  have hm' := hm
  rw [mayR_iff h] at hm'
  simp only [Bool.and_eq_true, List.all_eq_true] at hm' ⊢
  refine ⟨fun x hx => ?_, hp, hm'.2.2⟩
  obtain ⟨k, hk, rfl⟩ := mem_getD16 (z := 0) hx
  have hk : k < 8 := by have := (out_ok r self h).1; omega
  have := may_st h hm hk
  show stB ((stG _ _ r.1).getD k 0) = true
  rw [stG_getD _ _ _ hk, stB_iff]
  split
  · omega
  · split <;> omega
theorem mxI_le {x y : Int} (h : x ≤ y) : mxI x y = y := by unfold mxI; split <;> omega
theorem out_join {r : RingD} {self : Int} (h : okR r) (h0 : (planS r self).2 = 0) : joinR r (outS r self) = outS r self := by
  unfold joinR
  refine Prod.ext ?_ (Prod.ext (planS_join h0) ?_)
  · refine ext_getD 0 (by rw [tabL_len]; exact (out_ok r self h).1.symm) fun k hk => ?_
    rw [tabL_len] at hk
    rw [tabL_getD _ _ _ hk]
    show mxI (r.1.getD k 0) ((stG _ _ r.1).getD k 0) = (stG _ _ r.1).getD k 0
    rw [stG_getD _ _ _ hk]
    refine mxI_le ?_
    split
    · omega
    · split <;> omega
  · show tabL 16 (fun j => joinE (r.2.2.getD j (0, 0)) (r.2.2.getD j (0, 0))) = r.2.2
    simp only [joinE_self]
    exact tabL_self h.2
theorem planS_again {r : RingD} {self self' : Int} (h : okR r) (hm : mayR r = true) (h0 : (planS r self).2 = 0) : planS (outS r self) self' = ((planS r self).1, 0) := by
  have hof : ofR (outS r self) 1 2 = ofR r 1 2 := ofR_stG r _ _ _ _
  by_cases c : (ofR r 1 2).length = 0
  · unfold planS
    rw [hof, if_pos c]; rfl
  · have hto := planS_to h0 c
    have hp := planS_may (may_plan h hm) h0
    have ha := asg_all c (nowR r)
    have hl : (planS r self).1.2.2.length = 16 := by rw [hto]; exact ha.1
    have hn : nowR (outS r self) = asgL (nowR r) (ofR r 1 2) := by
      unfold nowR
      show (if (planS r self).1.2.2.length = 0 then _ else tgtL (outS r self)) = _
      rw [if_neg (by omega), tgtL_eq (r := outS r self) hp (by show (planS r self).1.2.2.length ≠ 0; omega)]
      exact hto
    conv => lhs; unfold planS
    rw [hof, if_neg c, hn, (again (nowR r) (ofR r 1 2) (by rw [memL_ofR]; exact c)).2, if_pos (show asgL (nowR r) (ofR r 1 2) = (outS r self).2.1.2.2 from hto.symm)]
    rfl
theorem out_again {r : RingD} {self self' : Int} (h : okR r) (hm : mayR r = true) (h0 : (planS r self).2 = 0) : outS (outS r self) self' = outS r self := by
  have hp := planS_again (self' := self') h hm h0
  have e : (planS (outS r self) self').1 = (planS r self).1 := by rw [hp]
  have e1 : outS (outS r self) self' = (stG (ownL r) (tgtL (r.1, (planS r self).1, r.2.2)) (outS r self).1, (planS r self).1, r.2.2) := by
    show (stG (ownL (outS r self)) (tgtL ((outS r self).1, (planS (outS r self) self').1, (outS r self).2.2)) (outS r self).1, (planS (outS r self) self').1, (outS r self).2.2) = _
    rw [e]; rfl
  rw [e1]
  refine Prod.ext ?_ rfl
  refine ext_getD 0 (by rw [(out_ok r self h).1]; exact tabL_len _ _) fun k hk => ?_
  have hk : k < 8 := by have : (stG (ownL r) (tgtL (r.1, (planS r self).1, r.2.2)) (outS r self).1).length = 8 := tabL_len _ _; dsimp only at hk; omega
  have e2 : (outS r self).1.getD k 0 = _ := stG_getD (ownL r) (tgtL (r.1, (planS r self).1, r.2.2)) r.1 hk
  dsimp only
  rw [stG_getD _ _ _ hk, e2]
  generalize r.1.getD k 0 = x
  cases (ownL r).contains (k : Int) || (tgtL (r.1, (planS r self).1, r.2.2)).contains (k : Int)
  · simp only [and_true]
    by_cases a : x = 1
    · subst a; simp
    · by_cases b : x = 3
      · subst b; simp
      · simp [a, b]
  · simp only [Bool.true_eq_false, and_false, if_false]
    by_cases a : x = 1
    · subst a; simp
    · simp [a]
theorem stage_again {r : RingD} {self self' : Int} (h' : List Int) (h : okR r) (hm : mayR r = true) (h0 : (planS r self).2 = 0) : stageR (outS r self) self' h' = (zeroR, if nodeB self' = false then 1 else if leadR (outS r self) h' ≠ self' then 10 else 9) := by
  unfold stageR
  rw [out_may h hm h0, planS_again h hm h0, out_again h hm h0]
  simp only [Bool.true_eq_false, false_or]
  split
  · rfl
  · split
    · rfl
    · simp
end Pl
