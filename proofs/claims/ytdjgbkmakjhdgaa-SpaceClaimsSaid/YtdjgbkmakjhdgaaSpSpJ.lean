import Derived.Test.YtdjgbkmakjhdgaaSpCp1
import Derived.Test.YtdjgbkmakjhdgaaSpCa3
namespace Pl
open Go Sx Go.Proofs Go.RowKit
theorem qLoop_cons (now : List Int) (e : Int) (b : Bool) (x : Int) (r : List Int) (n : Nat) (out : List Int) (m : Int) : qLoop now e b (x :: r) (n : Int) out m = if decide (m > 0) && (decide (hasL now x > e) == b) then qLoop now e b r ((n + 1 : Nat) : Int) (out.set n (out.getD n 0 + 1)) (m - 1) else qLoop now e b r ((n + 1 : Nat) : Int) out m := rfl
theorem qLoop_A (now : List Int) (e : Int) (b : Bool) (k : Nat) : ∀ (l : List Int) (n : Nat) (out : List Int) (m : Int), n + l.length ≤ out.length → out.getD k 0 ≤ (qLoop now e b l (n : Int) out m).1.getD k 0 ∧ (qLoop now e b l (n : Int) out m).1.getD k 0 ≤ out.getD k 0 + 1 ∧ (k < n → (qLoop now e b l (n : Int) out m).1.getD k 0 = out.getD k 0)
  | [], _, _, _, _ => ⟨by simp only [qLoop]; omega, by simp only [qLoop]; omega, fun _ => rfl⟩
  | x :: r, n, out, m, h => by
    simp only [List.length_cons] at h
    rw [qLoop_cons]
    split
    · have := qLoop_A now e b k r (n + 1) (out.set n (out.getD n 0 + 1)) (m - 1) (by simp only [List.length_set]; omega)
      rw [getD_set _ _ _ _ (by omega)] at this
      by_cases c : k = n
      · subst c
        rw [if_pos rfl] at this
        have h3 := this.2.2 (by omega)
        exact ⟨by omega, by omega, fun z => by omega⟩
      · rw [if_neg c] at this
        exact ⟨this.1, this.2.1, fun z => this.2.2 (by omega)⟩
    · have := qLoop_A now e b k r (n + 1) out m (by omega)
      exact ⟨this.1, this.2.1, fun z => this.2.2 (by omega)⟩
theorem qLoop_B (now : List Int) (e : Int) (b : Bool) (k : Nat) : ∀ (l : List Int) (n : Nat) (out : List Int) (m : Int), n + l.length ≤ out.length → (n ≤ k → k < n + l.length → (decide (hasL now (l.getD (k - n) 0) > e) == b) = false) → (qLoop now e b l (n : Int) out m).1.getD k 0 = out.getD k 0
  | [], _, _, _, _, _ => rfl
  | x :: r, n, out, m, h, hk => by
    simp only [List.length_cons] at h hk
    have hr : n + 1 ≤ k → k < n + 1 + r.length → (decide (hasL now (r.getD (k - (n + 1)) 0) > e) == b) = false := fun h1 h2 => by
      have := hk (by omega) (by omega)
      rwa [show k - n = (k - (n + 1)) + 1 by omega, List.getD_cons_succ] at this
    rw [qLoop_cons]
    split
    · rename_i t
      rw [qLoop_B now e b k r (n + 1) _ (m - 1) (by simp only [List.length_set]; omega) hr, getD_set _ _ _ _ (by omega)]
      split
      · rename_i c
        subst c
        have := hk (by omega) (by omega)
        rw [Nat.sub_self, List.getD_cons_zero] at this
        simp only [Bool.and_eq_true] at t
        rw [this] at t
        exact absurd t.2 (by decide)
      · rfl
    · exact qLoop_B now e b k r (n + 1) out m (by omega) hr
theorem qLoop_C (now : List Int) (e : Int) (b : Bool) (k : Nat) : ∀ (l : List Int) (n : Nat) (out : List Int) (m : Int), n + l.length ≤ out.length → rch now e b l ≤ m → n ≤ k → k < n + l.length → (decide (hasL now (l.getD (k - n) 0) > e) == b) = true → (qLoop now e b l (n : Int) out m).1.getD k 0 = out.getD k 0 + 1
  | [], n, _, _, _, _, h1, h2, _ => by simp only [List.length_nil] at h2; omega
  | x :: r, n, out, m, h, hm, h1, h2, hk => by
    simp only [List.length_cons] at h h2
    simp only [rch] at hm
    have hn := rch_nn now e b r
    rw [qLoop_cons]
    by_cases c : k = n
    · subst c
      rw [Nat.sub_self, List.getD_cons_zero] at hk
      rw [if_pos hk] at hm
      rw [if_pos (by rw [hk]; simp only [Bool.and_eq_true, decide_eq_true_eq]; exact ⟨by omega, trivial⟩)]
      have := (qLoop_A now e b k r (k + 1) (out.set k (out.getD k 0 + 1)) (m - 1) (by simp only [List.length_set]; omega)).2.2 (by omega)
      rw [this, getD_set _ _ _ _ (by omega), if_pos rfl]
    · rw [show k - n = (k - (n + 1)) + 1 by omega, List.getD_cons_succ] at hk
      split
      · rename_i t
        simp only [Bool.and_eq_true, decide_eq_true_eq] at t
        rw [if_pos t.2] at hm
        rw [qLoop_C now e b k r (n + 1) _ (m - 1) (by simp only [List.length_set]; omega) (by omega) (by omega) (by omega) hk, getD_set _ _ _ _ (by omega), if_neg c]
      · refine qLoop_C now e b k r (n + 1) out m (by omega) ?_ (by omega) (by omega) hk
        split at hm <;> omega
theorem qLoop_D (now : List Int) (e : Int) (b : Bool) : ∀ (l : List Int) (i : Int) (out : List Int) (m : Int), m ≤ 0 → (qLoop now e b l i out m).1 = out
  | [], _, _, _, _ => rfl
  | x :: r, i, out, m, h => by
    simp only [qLoop]
    rw [if_neg (by simp; omega)]
    exact qLoop_D now e b r _ _ _ h
theorem rep_getD (k i : Nat) (v : Int) (h : i < k) : (List.replicate k v).getD i 0 = v := by
  simp [List.getD_eq_getElem?_getD, h]
theorem quotaM_between (now m : List Int) (i : Nat) (h1 : 1 ≤ m.length) (h8 : m.length ≤ 8) (hi : i < m.length) : qEach (m.length : Int) ≤ (quotaM now m).getD i 0 ∧ (quotaM now m).getD i 0 ≤ qEach (m.length : Int) + 1 := by
  have e : quotaM now m = (qLoop now (qEach (m.length : Int)) false m ((0 : Nat) : Int) (qLoop now (qEach (m.length : Int)) true m ((0 : Nat) : Int) (List.replicate m.length (qEach (m.length : Int))) (Int.tmod 16 (m.length : Int))).1 (qLoop now (qEach (m.length : Int)) true m ((0 : Nat) : Int) (List.replicate m.length (qEach (m.length : Int))) (Int.tmod 16 (m.length : Int))).2).1 := rfl
  rw [e]
  have hl := qLoop_len now (qEach (m.length : Int)) true m ((0 : Nat) : Int) (List.replicate m.length (qEach (m.length : Int))) (Int.tmod 16 (m.length : Int))
  rw [List.length_replicate] at hl
  have a1 := qLoop_A now (qEach (m.length : Int)) true i m 0 (List.replicate m.length (qEach (m.length : Int))) (Int.tmod 16 (m.length : Int)) (by simp)
  rw [rep_getD _ _ _ hi] at a1
  have a2 := qLoop_A now (qEach (m.length : Int)) false i m 0 (qLoop now (qEach (m.length : Int)) true m ((0 : Nat) : Int) (List.replicate m.length (qEach (m.length : Int))) (Int.tmod 16 (m.length : Int))).1 (qLoop now (qEach (m.length : Int)) true m ((0 : Nat) : Int) (List.replicate m.length (qEach (m.length : Int))) (Int.tmod 16 (m.length : Int))).2 (by omega)
  by_cases c : (decide (hasL now (m.getD i 0) > qEach (m.length : Int)) == true) = true
  · rw [qLoop_B now (qEach (m.length : Int)) false i m 0 _ _ (by omega) (fun _ _ => by rw [Nat.sub_zero]; revert c; cases decide (hasL now (m.getD i 0) > qEach (m.length : Int)) <;> simp)]
    exact ⟨a1.1, a1.2.1⟩
  · have b1 := qLoop_B now (qEach (m.length : Int)) true i m 0 (List.replicate m.length (qEach (m.length : Int))) (Int.tmod 16 (m.length : Int)) (by simp) (fun _ _ => by rw [Nat.sub_zero]; simpa using c)
    rw [rep_getD _ _ _ hi] at b1
    rw [b1] at a2
    exact ⟨a2.1, a2.2.1⟩
theorem rch_sum (now : List Int) (e : Int) : ∀ (m q : List Int), q.length = m.length → (∀ i, i < m.length → hasL now (m.getD i 0) = q.getD i 0 ∧ e ≤ q.getD i 0 ∧ q.getD i 0 ≤ e + 1) → rch now e true m = q.sum - m.length * e
  | [], [], _, _ => by simp [rch]
  | x :: m, y :: q, h, ha => by
    have h0 := ha 0 (by simp)
    simp only [List.getD_cons_zero] at h0
    have := rch_sum now e m q (by simpa using h) (fun i hi => by simpa using ha (i + 1) (by simpa using hi))
    simp only [rch, List.sum_cons, List.length_cons, this, h0.1, Int.natCast_add, Int.add_mul]
    split
    · rename_i c
      simp only [beq_iff_eq, decide_eq_true_eq] at c
      omega
    · rename_i c
      simp only [beq_iff_eq, decide_eq_true_eq] at c
      omega
  | [], _ :: _, h, _ => by simp at h
  | _ :: _, [], h, _ => by simp at h
theorem n16 {n : Nat} (h1 : 1 ≤ n) (h8 : n ≤ 8) : (n : Int) * qEach (n : Int) + Int.tmod 16 (n : Int) = 16 := by
  have : n = 1 ∨ n = 2 ∨ n = 3 ∨ n = 4 ∨ n = 5 ∨ n = 6 ∨ n = 7 ∨ n = 8 := by omega
  rcases this with h | h | h | h | h | h | h | h <;> rw [h] <;> decide
theorem quotaM_again (now m q : List Int) (h1 : 1 ≤ m.length) (h8 : m.length ≤ 8) (hq : q.length = m.length) (hs : q.sum = 16) (ha : ∀ i, i < m.length → hasL now (m.getD i 0) = q.getD i 0 ∧ qEach (m.length : Int) ≤ q.getD i 0 ∧ q.getD i 0 ≤ qEach (m.length : Int) + 1) : quotaM now m = q := by
  have hr := rch_sum now (qEach (m.length : Int)) m q hq ha
  have hn := qNum (n := (m.length : Int)) (by omega) (by omega)
  have h16 := n16 h1 h8
  have hm := qLoop_more now (qEach (m.length : Int)) true m ((0 : Nat) : Int) (List.replicate m.length (qEach (m.length : Int))) (Int.tmod 16 (m.length : Int)) hn.2.2.1
  have e : quotaM now m = (qLoop now (qEach (m.length : Int)) false m ((0 : Nat) : Int) (qLoop now (qEach (m.length : Int)) true m ((0 : Nat) : Int) (List.replicate m.length (qEach (m.length : Int))) (Int.tmod 16 (m.length : Int))).1 (qLoop now (qEach (m.length : Int)) true m ((0 : Nat) : Int) (List.replicate m.length (qEach (m.length : Int))) (Int.tmod 16 (m.length : Int))).2).1 := rfl
  rw [e, qLoop_D _ _ _ _ _ _ _ (by omega)]
  have hl := qLoop_len now (qEach (m.length : Int)) true m ((0 : Nat) : Int) (List.replicate m.length (qEach (m.length : Int))) (Int.tmod 16 (m.length : Int))
  rw [List.length_replicate] at hl
  refine ext_getD 0 (by omega) fun k hk => ?_
  have hk' : k < m.length := by omega
  obtain ⟨k1, k2, k3⟩ := ha k hk'
  by_cases c : hasL now (m.getD k 0) > qEach (m.length : Int)
  · rw [qLoop_C now (qEach (m.length : Int)) true k m 0 _ _ (by simp) (by omega) (by omega) (by omega) (by rw [Nat.sub_zero]; simpa using c), rep_getD _ _ _ hk']
    omega
  · rw [qLoop_B now (qEach (m.length : Int)) true k m 0 _ _ (by simp) (fun _ _ => by rw [Nat.sub_zero]; simpa using c), rep_getD _ _ _ hk']
    omega
def fairP (m l q : List Int) : Bool := (List.range m.length).all (fun i => decide ((l.count (m.getD i 0) : Int) = q.getD i 0) && decide (qEach (m.length : Int) ≤ q.getD i 0) && decide (q.getD i 0 ≤ qEach (m.length : Int) + 1))
theorem hasL_count {l : List Int} (h : l.length = 16) (x : Int) : hasL l x = l.count x := by
  have aux : ∀ (c j : Nat), j + c = 16 → cntB (fun p => atL l (p : Int) == x) c j = ((l.drop j).count x : Int) := by
    intro c
    induction c with
    | zero => intro j hj; rw [List.drop_eq_nil_of_le (by omega)]; rfl
    | succ c ih =>
      intro j hj
      have hd := drop_cons (l := l) (i := (j : Int)) 0 (by omega) (by omega)
      have e3 : ((j : Int) + 1).toNat = j + 1 := by omega
      rw [e3, Int.toNat_natCast] at hd
      rw [hd, List.count_cons]
      simp only [cntB, ih (j + 1) (by omega), atL_in h (by omega : j < 16)]
      split <;> omega
  have := aux 16 0 rfl
  exact this
theorem fair_good (now ms : List Int) (h : (memL ms).length ≠ 0) : fairP (memL ms) (asgL now ms) (quotaL now ms) = true := by
  obtain ⟨a1, a2, a3⟩ := asgL_all now ms h
  unfold fairP
  rw [List.all_eq_true]
  intro i hi
  have hi' := List.mem_range.1 hi
  have hb := quotaM_between now (memL ms) i (by omega) (memL_len ms) hi'
  have hq : quotaL now ms = quotaM now (memL ms) := by unfold quotaL; rw [if_neg h]
  simp only [Bool.and_eq_true, decide_eq_true_eq]
  exact ⟨⟨a3 i hi', by rw [hq]; exact hb.1⟩, by rw [hq]; exact hb.2⟩
theorem asg1_id (m t0 : List Int) (h : ∀ k, k < 16 → t0.getD k 0 ≠ -1) : ∀ (c p : Nat) (to la : List Int), p + c = 16 → asg1 m t0 c p to la = (to, la)
  | 0, _, _, _, _ => rfl
  | c + 1, p, to, la, hp => by
    simp only [asg1]
    rw [if_neg (by simpa using h p (by omega)), asg1_id m t0 h c (p + 1) to la (by omega)]
theorem asg0_same (l m q : List Int) (hl : l.length = 16) (hm : ∀ k, k < 16 → l.getD k 0 ∈ m) (hd : m.Nodup) (hq : q.length = m.length) (hc : ∀ i, i < m.length → (l.count (m.getD i 0) : Int) = q.getD i 0) :
    ∀ (c p : Nat) (to la : List Int), p + c = 16 → to.length = 16 → la.length = m.length → to.take p = l.take p → (∀ i, i < m.length → la.getD i 0 = q.getD i 0 - ((l.take p).count (m.getD i 0) : Int)) → (asg0 l m c p to la).1 = l
  | 0, p, to, la, hp, ht, _, hk, _ => by
    rw [List.take_of_length_le (by omega), List.take_of_length_le (by omega)] at hk
    exact hk
  | c + 1, p, to, la, hp, ht, hla, hk, hv => by
    have hmp := hm p (by omega)
    have hx : m.contains (l.getD p 0) = true := by simpa using hmp
    have hi : indexF m (l.getD p 0) = idxF (l.getD p 0) m 0 := by unfold indexF; rw [if_pos hx]
    obtain ⟨i1, _, i2, i3⟩ := idxF_ge (l.getD p 0) m 0 (by omega) hx
    rw [← hi] at i1 i2 i3
    rw [Int.sub_zero] at i3
    have hat := atL_in hl (by omega : p < 16)
    have hlt : (indexF m (l.getD p 0)).toNat < m.length := by omega
    have htk : l.take (p + 1) = l.take p ++ [l.getD p 0] := by
      have := take_succ (l := l) (i := (p : Int)) 0 (by omega) (by omega)
      rwa [show ((p : Int) + 1).toNat = p + 1 by omega, Int.toNat_natCast] at this
    have hpos : la.getD (indexF m (l.getD p 0)).toNat 0 > 0 := by
      rw [hv _ hlt, ← hc _ hlt, i3]
      have h1 : l.count (l.getD p 0) = (l.take (p + 1)).count (l.getD p 0) + (l.drop (p + 1)).count (l.getD p 0) := by
        rw [← List.count_append, List.take_append_drop]
      rw [htk, List.count_append, List.count_singleton, if_pos (beq_self_eq_true _)] at h1
      omega
    simp only [asg0]
    rw [hat, if_pos (by simp only [Bool.and_eq_true, decide_eq_true_eq]; exact ⟨by omega, hpos⟩), i3]
    refine asg0_same l m q hl hm hd hq hc c (p + 1) _ _ (by omega) (by simp [ht]) (by simp [hla]) ?_ (fun i hi' => ?_)
    · rw [set_take_succ _ (by omega), hk, htk]
    · rw [getD_set _ _ _ _ (by omega), htk, List.count_append, List.count_singleton]
      have h0 := hv i hi'
      split
      · rename_i e
        subst e
        rw [if_pos (by rw [i3]; exact beq_self_eq_true _)]; omega
      · rename_i e
        rw [if_neg (fun z => e (nodup_getD hd hi' hlt (by rw [i3]; exact (eq_of_beq z).symm)))]; omega
theorem again (now ms : List Int) (h : (memL ms).length ≠ 0) : quotaL (asgL now ms) ms = quotaL now ms ∧ asgL (asgL now ms) ms = asgL now ms := by
  obtain ⟨a1, a2, a3⟩ := asgL_all now ms h
  obtain ⟨q1, q2, q3⟩ := quotaL_all now ms h
  have hq : quotaL now ms = quotaM now (memL ms) := by unfold quotaL; rw [if_neg h]
  have hh : ∀ i, i < (memL ms).length → hasL (asgL now ms) ((memL ms).getD i 0) = (quotaL now ms).getD i 0 := fun i hi => by
    rw [hasL_count a1, a3 i hi]
  have e1 : quotaL (asgL now ms) ms = quotaL now ms := by
    have : quotaL (asgL now ms) ms = quotaM (asgL now ms) (memL ms) := by unfold quotaL; rw [if_neg h]
    rw [this]
    refine quotaM_again _ _ _ (by omega) (memL_len ms) q2 q1 fun i hi => ⟨hh i hi, ?_⟩
    rw [hq]
    exact quotaM_between now (memL ms) i (by omega) (memL_len ms) hi
  refine ⟨e1, ?_⟩
  have e2 : asgL (asgL now ms) ms = asgM (asgL now ms) (memL ms) (quotaL now ms) := by
    conv => lhs; unfold asgL
    rw [if_neg h]
    have : (if (memL ms).length = 0 then [] else asgM now (memL ms) (quotaL now ms)) = asgL now ms := rfl
    rw [this, e1]
  rw [e2]
  have e3 := asg0_same (asgL now ms) (memL ms) (quotaL now ms) a1 a2 (memL_nodup ms) q2 a3 16 0 (List.replicate 16 0) (quotaL now ms) (by omega) (by simp) q2 rfl (fun i _ => by simp)
  unfold asgM
  rw [e3, asg1_id _ _ (fun k hk e => by have := (memL_nn ms _ (a2 k hk)).1; omega) 16 0 _ _ (by omega)]
theorem mov_self (l : List Int) : movL l l = 0 := by
  unfold movL
  rw [cntB_all (b := false) (fun k _ _ => by simp)]; rfl
end Pl
namespace Pl
open Go Sx Go.Proofs Go.RowKit
noncomputable abbrev M10 : Ex := mkExM Try.prog [KAw, KsU, KsC, (14, pureSp [ints, ints] [ints] (fun x => (List.length (α := Int) x.2.1 : Int) < big) (fun x => (asgL x.1 x.2.1, ()))), (16, pureSp [ints, ints] [ints] (fun x => (List.length (α := Int) x.2.1 : Int) < big) (fun x => (quotaL x.1 x.2.1, ()))), (15, pureSp [ints] [ints] (fun x => (List.length (α := Int) x.1 : Int) < big) (fun x => (memL x.1, ())))]
theorem M10_ok : M10.Sound := mkExM_sound ⟨pureSp_ok aw_ok, pureSp_ok uneven_ok, pureSp_ok counts_ok, pureSp_ok assign_ok, pureSp_ok quotas_ok, pureSp_ok mem_ok, trivial⟩
structure ASc where
  c : List Int
  q : List Int
  m : List Int
  i : Int
  s : Int
def LSc : LoopC ASc where
  n0 := 6
  det st := match rowS st 8 i64, rowS st 7 i64, rowS st 47 i64, intS st 49, intS st 9 with | some l0, some l1, some l2, some i3, some i4 => some ⟨l0, l1, l2, i3, i4⟩ | _, _, _, _, _ => none
  inv a := ⟨[(49, iv a.i), (48, iv (↑a.m.length : Int)), (47, .one (.row 3)), (9, iv a.s), (8, .one (.row 5)), (7, .one (.row 4)), (6, .one (.row 3))],
    [(5, .ro i64 a.c), (4, .ro i64 a.q), (3, .ro i64 a.m)], 6⟩
  ok a := 0 ≤ a.i ∧ a.i ≤ a.m.length ∧ a.m.length ≤ 8 ∧ a.c.length = 8 ∧ a.q.length = a.m.length ∧ (∀ j : Nat, j < a.m.length → 0 ≤ a.m.getD j 0 ∧ a.m.getD j 0 < 8 ∧ a.c.getD (a.m.getD j 0).toNat 0 = a.q.getD j 0 ∧ 0 ≤ a.q.getD j 0 ∧ a.q.getD j 0 ≤ 40) ∧ 0 ≤ a.s ∧ a.s ≤ 40 * a.i ∧ a.s + (a.q.drop a.i.toNat).sum = a.q.sum
  mu a := a.m.length - a.i.toNat
  fin a := .leaf ⟨2, ⟨[(9, iv a.q.sum), (6, .one (.row 3))],
    [(3, .ro i64 a.m)], 6⟩⟩
theorem rSc (c q m : List Int) (i s : Int) : @Eq _
  (LSc.round M10 [] 100 Try.f6 0 ⟨c, q, m, i, s⟩)
  (.fork (decide (i < (↑m.length : Int))) (
 .req ((0 : Int) ≤ i ∧ i < (↑m.length : Int)) (
  .req ((0 : Int) ≤ i ∧ i < (↑m.length : Int)) (
   .req (decide (m.getD i.toNat (0 : Int) < (0 : Int)) = false → conjP [decide (m.getD i.toNat (0 : Int) ≥ (8 : Int)) = false → conjP [(0 : Int) ≤ m.getD i.toNat (0 : Int) ∧ m.getD i.toNat (0 : Int) < (↑c.length : Int), (0 : Int) ≤ m.getD i.toNat (0 : Int) ∧ m.getD i.toNat (0 : Int) < (↑c.length : Int), (0 : Int) ≤ i ∧ i < (↑q.length : Int), (0 : Int) ≤ i ∧ i < (↑q.length : Int)]]) (
    .fork (decide (m.getD i.toNat (0 : Int) < (0 : Int)) || (decide (m.getD i.toNat (0 : Int) ≥ (8 : Int)) || c.getD (m.getD i.toNat (0 : Int)).toNat (0 : Int) != q.getD i.toNat (0 : Int))) (
     .req (False) (
      .leaf (Option.none))) (
     .req ((0 : Int) ≤ m.getD i.toNat (0 : Int) ∧ m.getD i.toNat (0 : Int) < (↑c.length : Int)) (
      .req ((0 : Int) ≤ m.getD i.toNat (0 : Int) ∧ m.getD i.toNat (0 : Int) < (↑c.length : Int)) (
       .req (IntKind.i64.wrap (i + (1 : Int)) = IntKind.i64.wrap (i + (1 : Int)) ∧ (↑m.length : Int) = (↑m.length : Int) ∧ IntKind.i64.wrap (s + c.getD (m.getD i.toNat (0 : Int)).toNat (0 : Int)) = IntKind.i64.wrap (s + c.getD (m.getD i.toNat (0 : Int)).toNat (0 : Int)) ∧ c = c ∧ q = q ∧ m = m) (
        .leaf (Option.some { c := c, q := q, m := m, i := IntKind.i64.wrap (i + (1 : Int)), s := IntKind.i64.wrap (s + c.getD (m.getD i.toNat (0 : Int)).toNat (0 : Int)) }))))))))) (
 .req (s = q.sum ∧ m = m) (
  .leaf (Option.none))) : Tree (Option Pl.ASc)) := by kernel_rfl
theorem tSc (a b : List Int) : @Eq _
  (fnT M10 [(0, LSc.sp)] 100 Try.f6 [ints, ints] [.bool] (a, b, ()))
  (.req (True) (
 .fork (decide ((↑a.length : Int) > (100 : Int)) || decide ((↑b.length : Int) > (100 : Int))) (
  .req (True) (
   .leaf ((true, ())))) (
  .req ((↑b.length : Int) < (4611686018427387904 : Int)) (
   .req ((↑b.length : Int) < (4611686018427387904 : Int)) (
    .req ((↑b.length : Int) < (4611686018427387904 : Int)) (
     .req (True) (
      .req (((↑(Pl.countsS (Pl.asgL a b)).length : Int) != (8 : Int)) = false → conjP [((↑(Pl.quotaL a b).length : Int) != (↑(Pl.memL b).length : Int)) = false → conjP [(↑b.length : Int) < (4611686018427387904 : Int)]]) (
       .fork ((↑(Pl.countsS (Pl.asgL a b)).length : Int) != (8 : Int) || ((↑(Pl.quotaL a b).length : Int) != (↑(Pl.memL b).length : Int) || decide (Pl.unevenS (Pl.asgL a b) b > (1 : Int)))) (
        .leaf ((false, ()))) (
        .req ((0 : Int) ≤ (0 : Int) ∧ (0 : Int) ≤ (↑(Pl.memL b).length : Int) ∧ (Pl.memL b).length ≤ 8 ∧ (Pl.countsS (Pl.asgL a b)).length = 8 ∧ (Pl.quotaL a b).length = (Pl.memL b).length ∧ (∀ (j : Nat), j < (Pl.memL b).length → (0 : Int) ≤ (Pl.memL b).getD j (0 : Int) ∧ (Pl.memL b).getD j (0 : Int) < (8 : Int) ∧ (Pl.countsS (Pl.asgL a b)).getD ((Pl.memL b).getD j (0 : Int)).toNat (0 : Int) = (Pl.quotaL a b).getD j (0 : Int) ∧ (0 : Int) ≤ (Pl.quotaL a b).getD j (0 : Int) ∧ (Pl.quotaL a b).getD j (0 : Int) ≤ (40 : Int)) ∧ (0 : Int) ≤ (0 : Int) ∧ (0 : Int) ≤ (0 : Int) ∧ (0 : Int) + (List.drop 0 (Pl.quotaL a b)).sum = (Pl.quotaL a b).sum) (
         .req ((0 : Int) = (0 : Int) ∧ (↑(Pl.memL b).length : Int) = (↑(Pl.memL b).length : Int) ∧ (0 : Int) = (0 : Int) ∧ Pl.countsS (Pl.asgL a b) = Pl.countsS (Pl.asgL a b) ∧ Pl.quotaL a b = Pl.quotaL a b ∧ Pl.memL b = Pl.memL b) (
          .req ((((↑(Pl.memL b).length : Int) == (0 : Int)) = true → conjP [True]) ∧ (((↑(Pl.memL b).length : Int) == (0 : Int)) = false → conjP ((((Pl.quotaL a b).sum == (16 : Int)) = true → conjP [True]) :: ([] : List Prop)))) (
           .leaf ((bif (↑(Pl.memL b).length : Int) == (0 : Int) then true else (Pl.quotaL a b).sum == (16 : Int) && true, ()))))))))))))) : Tree (Bool × PUnit)) := by kernel_rfl
end Pl
namespace Pl
open Go Sx Go.Proofs Go.RowKit
theorem lSc : LpsOK Try.prog Try.f6 [(0, LSc.sp)] := by
  refine .cons (LSc.sound M10_ok (lps := []) (n := 100) (inner rfl) (fun _ => rfl) ?_) .nil
  rintro ⟨c, q, m, i, s⟩ ⟨h1, h2, h3, h4, h5, h6, h7, h8, h9⟩
  simp only at h1 h2 h3 h4 h5 h6 h7 h8 h9
  rw [rSc]
  simp only [all_leaf, all_fork, all_req, conjP, true_and, and_true, decide_eq_true_eq, decide_eq_false_iff_not, Bool.or_eq_true, Bool.or_eq_false_iff, bne_iff_ne, bne_eq_false_iff_eq, ne_eq]
  refine ⟨fun d => ?_, fun d => ⟨?_, trivial⟩⟩
  · obtain ⟨g1, g2, g3, g4, g5⟩ := h6 i.toNat (by omega)
    have hd := drop_cons (l := q) 0 h1 (by omega)
    rw [hd, List.sum_cons] at h9
    have b1 : 0 ≤ m.getD i.toNat 0 ∧ m.getD i.toNat 0 < (c.length : Int) := ⟨g1, by omega⟩
    rw [IntWalk.i64_in (i + 1) (by omega), IntWalk.i64_in (s + c.getD (m.getD i.toNat 0).toNat 0) (by omega)]
    refine ⟨⟨h1, d⟩, ⟨h1, d⟩, fun _ _ => ⟨b1, b1, ⟨h1, by omega⟩, h1, by omega⟩, fun e => ?_, fun _ => ⟨b1, b1, ?_⟩⟩
    · rcases e with e | e | e
      · omega
      · omega
      · exact absurd g3 e
    · exact ⟨⟨by dsimp only; omega, by dsimp only; omega, h3, h4, h5, h6, by dsimp only; omega, by dsimp only; omega, by dsimp only; omega⟩, by simp only [LSc]; omega, rfl⟩
  · rw [List.drop_eq_nil_of_le (by omega)] at h9
    simpa using h9
theorem unF_all {m : List Int} {P : Int → Prop} : ∀ (c : List Int) (i : Nat), (∀ k : Nat, k < c.length → m.contains ((i + k : Nat) : Int) = true → P (c.getD k 0)) → ∀ x ∈ unF m c (i : Int), P x
  | [], _, _, x, hx => by cases hx
  | y :: r, i, h, x, hx => by
    have hr : ∀ x ∈ unF m r ((i : Int) + 1), P x := fun z hz => unF_all (m := m) (P := P) r (i + 1) (fun k hk hc => by
      have := h (k + 1) (by simpa using hk) (by rw [show i + (k + 1) = i + 1 + k by omega]; exact hc)
      simpa using this) z hz
    rw [unF] at hx
    by_cases c : m.contains (i : Int) = true
    · rw [if_pos c] at hx
      rcases List.mem_cons.1 hx with e | e
      · have := h 0 (by simp) (by simpa using c)
        rw [e]; simpa using this
      · exact hr x e
    · rw [if_neg c] at hx
      exact hr x hx
theorem vals_self {l : List Int} (h : l.length = 16) (hl : ∀ k, k < 16 → 0 ≤ l.getD k 0 ∧ l.getD k 0 < 8) : vals (atS l) = l := by
  refine ext_getD 0 (by unfold vals; simp [h]) fun k hk => ?_
  have hk : k < 16 := by unfold vals at hk; simpa using hk
  have := hl k hk
  unfold vals
  rw [getD_get 0 (by simpa using hk), List.getElem_map, List.getElem_range, atS_eq l (by omega) (by omega), h, Int.toNat_natCast, decide_eq_true (by omega : (k : Int) < ((16 : Nat) : Int)), decide_eq_true (by omega : l.getD k 0 ≥ 0), decide_eq_true this.2]
  rfl
theorem claims_all (a b : List Int) : unevenS (asgL a b) b ≤ 1 ∧ (quotaL a b).length = (memL b).length ∧ (∀ j : Nat, j < (memL b).length → 0 ≤ (memL b).getD j 0 ∧ (memL b).getD j 0 < 8 ∧ (countsS (asgL a b)).getD ((memL b).getD j 0).toNat 0 = (quotaL a b).getD j 0 ∧ 0 ≤ (quotaL a b).getD j 0 ∧ (quotaL a b).getD j 0 ≤ 40) ∧ ((memL b).length ≠ 0 → (quotaL a b).sum = 16) := by
  by_cases h : (memL b).length = 0
  · have hq : quotaL a b = [] := by unfold quotaL; rw [if_pos h]
    refine ⟨?_, by rw [hq, h]; rfl, fun j hj => by omega, fun g => absurd h g⟩
    have hu : unF b (countsS (asgL a b)) ((0 : Nat) : Int) = [] := by
      refine List.eq_nil_iff_forall_not_mem.2 fun x hx => ?_
      refine unF_all (m := b) (P := fun _ => False) _ 0 (fun k hk hc => ?_) x hx
      rw [counts_len] at hk
      have : ((0 + k : Nat) : Int) ∈ memL b := (memL_iff b _).2 ⟨by simpa using hc, by omega, by omega⟩
      rw [List.eq_nil_of_length_eq_zero h] at this
      cases this
    unfold unevenS
    rw [show unF b (countsS (asgL a b)) 0 = [] from hu]
    decide
  · obtain ⟨a1, a2, a3⟩ := asgL_all a b h
    obtain ⟨q1, q2, q3⟩ := quotaL_all a b h
    have h8 := memL_len b
    have hq : quotaL a b = quotaM a (memL b) := by unfold quotaL; rw [if_neg h]
    have hv := vals_self a1 (fun k hk => memL_nn b _ (a2 k hk))
    have hc : ∀ v ∈ memL b, (countsS (asgL a b)).getD v.toNat 0 = ((asgL a b).count v : Int) := fun v hm => by
      have := memL_nn b v hm
      rw [counts_get _ this.1 this.2, hv]
    have hj : ∀ j, j < (memL b).length → (memL b).getD j 0 ∈ memL b := fun j hj => by
      rw [getD_get 0 hj]; exact List.getElem_mem _
    refine ⟨?_, q2, fun j jl => ?_, fun _ => q1⟩
    · have hb : ∀ x ∈ unF b (countsS (asgL a b)) ((0 : Nat) : Int), qEach ((memL b).length : Int) ≤ x ∧ x ≤ qEach ((memL b).length : Int) + 1 := by
        refine unF_all _ 0 (fun k hk hcn => ?_)
        rw [counts_len] at hk
        have hm : ((k : Nat) : Int) ∈ memL b := (memL_iff b _).2 ⟨by simpa using hcn, by omega, by omega⟩
        obtain ⟨i, hi, e⟩ := List.mem_iff_getElem.1 hm
        have e' : (memL b).getD i 0 = (k : Int) := by rw [getD_get 0 hi, e]
        have g := hc _ hm
        rw [Int.toNat_natCast] at g
        have g3 := a3 i hi
        rw [e'] at g3
        have gb := quotaM_between a (memL b) i (by omega) h8 hi
        rw [hq] at g3
        omega
      unfold unevenS
      split
      · omega
      · rename_i hz
        have m1 := hb _ (maxL_mem hz)
        have m2 := hb _ (minL_mem hz)
        rw [show (((0 : Nat) : Int)) = 0 from rfl] at m1 m2
        omega
    · have g := memL_nn b _ (hj j jl)
      have g3 := a3 j jl
      have gq := q3 _ (show (quotaL a b).getD j 0 ∈ quotaL a b by rw [getD_get 0 (by omega)]; exact List.getElem_mem _)
      exact ⟨g.1, g.2, by rw [hc _ (hj j jl)]; exact g3, gq.1, gq.2⟩
theorem claims_ok : PureOK Try.prog 6 [ints, ints] [.bool] (fun _ => True) (fun _ => (true, ())) :=
  fn_pure (E := M10) (n := 100) M10_ok Try.func6 (by kernel_rfl) lSc fun x _ => by
    obtain ⟨a, b, _⟩ : List Int × List Int × Unit := x
    refine Tree.all_eq (tSc a b) ?_
    show Tree.all (α := Bool × Unit) _ Yes
    obtain ⟨c1, c2, c3, c4⟩ := claims_all a b
    have hl := counts_len (asgL a b)
    have h8 := memL_len b
    simp only [all_leaf, all_fork, all_req, conjP, true_and, and_true, yes_t, yes_f, yes_iff]
    refine ⟨fun _ => trivial, fun d => ?_⟩
    rw [Bool.or_eq_false_iff, decide_eq_false_iff_not, decide_eq_false_iff_not] at d
    have hb : (b.length : Int) < 4611686018427387904 := by omega
    refine ⟨hb, hb, hb, fun _ _ => hb, fun e => ?_, fun _ => ⟨⟨by omega, by omega, h8, hl, c2, c3, by omega, by omega, by rw [List.drop_zero]; omega⟩, ⟨fun _ => trivial, fun _ _ => trivial⟩, ?_⟩⟩
    · rw [Bool.or_eq_true, Bool.or_eq_true, bne_iff_ne, bne_iff_ne, decide_eq_true_eq] at e
      exfalso; omega
    · by_cases h : (memL b).length = 0
      · rw [h]; rfl
      · rw [c4 h]; cases (((memL b).length : Int) == 0) <;> rfl
end Pl
