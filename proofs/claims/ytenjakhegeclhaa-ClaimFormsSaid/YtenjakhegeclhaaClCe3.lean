import Derived.Test.YtenjakhegeclhaaClCe
namespace Pl
open Go Sx Go.Proofs Go.RowKit
theorem indexF_range (l : List Int) (v : Int) : -1 ≤ indexF l v ∧ indexF l v < l.length ∧ (0 ≤ indexF l v → l.getD (indexF l v).toNat 0 = v) := by
  unfold indexF
  split
  · rename_i h
    obtain ⟨a, b, c, d⟩ := idxF_ge v l 0 (by omega) h
    refine ⟨by omega, by omega, fun _ => ?_⟩
    rw [Int.sub_zero] at d; exact d
  · exact ⟨by omega, by omega, fun h => by omega⟩
theorem set_mem {l : List Int} {k : Nat} {v x : Int} (h : x ∈ l.set k v) : x ∈ l ∨ x = v := List.mem_or_eq_of_mem_set h
theorem sum_set (v : Int) : ∀ (l : List Int) (k : Nat), k < l.length → (l.set k v).sum = l.sum - l.getD k 0 + v
  | [], _, h => by simp at h
  | a :: l, 0, _ => by simp; omega
  | a :: l, k + 1, h => by
    have := sum_set v l k (by simpa using h)
    simp only [List.set_cons_succ, List.sum_cons, List.getD_cons_succ, this]; omega
theorem tabL_put2 {xs : List Int} {z s t : Int} {n : Nat} {i : Int} (h : xs.length = n) (h0 : 0 ≤ i) : tabL n (fun j => bif decide (i = (j : Int)) then s else bif decide (i = (j : Int)) then t else xs.getD j z) = xs.set i.toNat s := by
  rw [← tabL_put h h0 (z := z) (s := s)]
  exact congrArg (tabL n) (funext fun j => by cases decide (i = (j : Int)) <;> rfl)
theorem asg0_step (now m : List Int) (p : Int) (to la : List Int) (h0 : 0 ≤ p) (h1 : p < 16) : asg0 now m (16 - p.toNat) p.toNat to la = if decide (indexF m (atL now p) ≥ 0) && decide (la.getD (indexF m (atL now p)).toNat 0 > 0) then asg0 now m (16 - (p + 1).toNat) (p + 1).toNat (to.set p.toNat (m.getD (indexF m (atL now p)).toNat 0)) (la.set (indexF m (atL now p)).toNat (la.getD (indexF m (atL now p)).toNat 0 - 1)) else asg0 now m (16 - (p + 1).toNat) (p + 1).toNat (to.set p.toNat (-1)) la := by
  have e1 : 16 - p.toNat = (16 - (p + 1).toNat) + 1 := by omega
  have e2 : (p.toNat : Int) = p := by omega
  have e3 : p.toNat + 1 = (p + 1).toNat := by omega
  rw [e1, asg0, e2, e3]
theorem lA0 : LpsOK Try.prog Try.f17 [(0, LA0.sp)] := by
  refine .cons (LA0.sound W2_ok (lps := []) (n := 100) (inner rfl) (fun _ => rfl) ?_) .nil
  rintro ⟨now, la, m, p, to⟩ ⟨h16, hl, h8, h0, h1, hx⟩
  simp only at h16 hl h8 h0 h1 hx
  rw [rA0]
  obtain ⟨i1, i2, i3⟩ := indexF_range m (atL now p)
  simp only [all_leaf, all_fork, all_req, conjP, and_true, decide_eq_true_eq, decide_eq_false_iff_not]
  have hii : indexF m (atL now p) ≥ 0 → 0 ≤ indexF m (atL now p) ∧ indexF m (atL now p) < (la.length : Int) := fun c => ⟨c, by omega⟩
  refine ⟨fun c => ⟨⟨h0, c⟩, ⟨h0, c⟩, h0, by omega, fun c' => ⟨hii c', hii c'⟩, fun t => ?_, fun t => ?_⟩, fun c => ⟨?_, trivial⟩⟩
  · have t' := t
    simp only [Bool.and_eq_true, decide_eq_true_eq] at t
    have hlt : (indexF m (atL now p)).toNat < la.length := by omega
    have hg : la.getD (indexF m (atL now p)).toNat 0 ∈ la := by rw [getD_get 0 hlt]; exact List.getElem_mem hlt
    have hb := hx _ hg
    refine ⟨⟨t.1, by omega⟩, ⟨t.1, by omega⟩, ⟨h0, c⟩, ⟨h0, c⟩, hii t.1, hii t.1, hii t.1, hii t.1, by repeat' (first | exact trivial | rfl | apply And.intro), ?_⟩
    rw [tabL_put2 h16 h0, IntWalk.i64_in (p + 1) (by omega), IntWalk.i64_in _ (by omega)]
    refine ⟨⟨by simp [h16], by simp [hl], h8, by dsimp only; omega, by dsimp only; omega, fun x h => ?_⟩, by simp only [LA0]; omega, ?_⟩
    · rcases set_mem h with h | h
      · exact hx x h
      · omega
    · simp only [LA0]
      rw [asg0_step now m p to la h0 c, if_pos t']
  · refine ⟨by repeat' (first | exact trivial | rfl | apply And.intro), ?_⟩
    rw [tabL_put h16 h0, IntWalk.i64_in (p + 1) (by omega)]
    refine ⟨⟨by simp [h16], hl, h8, by dsimp only; omega, by dsimp only; omega, hx⟩, by simp only [LA0]; omega, ?_⟩
    simp only [LA0]
    rw [asg0_step now m p to la h0 c, if_neg (by rw [t]; decide)]
  · have e : 16 - p.toNat = 0 := by omega
    rw [e, asg0]; repeat' (first | exact trivial | rfl | apply And.intro)
end Pl
namespace Pl
open Go Sx Go.Proofs Go.RowKit
theorem qLoop_sum (now : List Int) (e : Int) (b : Bool) : ∀ (l : List Int) (i : Int) (out : List Int) (m : Int), 0 ≤ i → i + l.length ≤ out.length → (qLoop now e b l i out m).1.sum + (qLoop now e b l i out m).2 = out.sum + m
  | [], _, _, _, _, _ => rfl
  | x :: r, i, out, m, h0, h1 => by
    simp only [List.length_cons, Int.natCast_add] at h1
    simp only [qLoop]
    split
    · rw [qLoop_sum now e b r (i + 1) _ _ (by omega) (by simp only [List.length_set]; omega), sum_set _ _ _ (by omega)]; omega
    · rw [qLoop_sum now e b r (i + 1) _ _ (by omega) (by omega)]
def rch (now : List Int) (e : Int) (b : Bool) : List Int → Int
  | [] => 0
  | m :: r => (if decide (hasL now m > e) == b then 1 else 0) + rch now e b r
theorem rch_nn (now : List Int) (e : Int) (b : Bool) : ∀ l : List Int, 0 ≤ rch now e b l
  | [] => by simp [rch]
  | m :: r => by have := rch_nn now e b r; simp only [rch]; split <;> omega
theorem rch_both (now : List Int) (e : Int) : ∀ l : List Int, rch now e true l + rch now e false l = l.length
  | [] => by simp [rch]
  | m :: r => by
    have := rch_both now e r
    simp only [rch, List.length_cons]
    cases decide (hasL now m > e) <;> simp <;> omega
theorem qLoop_more (now : List Int) (e : Int) (b : Bool) : ∀ (l : List Int) (i : Int) (out : List Int) (m : Int), 0 ≤ m → (qLoop now e b l i out m).2 = max (m - rch now e b l) 0
  | [], _, _, m, h => by simp only [qLoop, rch]; omega
  | x :: r, i, out, m, h => by
    have hn := rch_nn now e b r
    simp only [qLoop, rch]
    by_cases c : (decide (hasL now x > e) == b) = true
    · by_cases d : m > 0
      · rw [if_pos (by rw [c]; simpa using d), if_pos c, qLoop_more now e b r _ _ _ (by omega)]; omega
      · rw [if_neg (by simp [d]), if_pos c, qLoop_more now e b r _ _ _ (by omega)]; omega
    · rw [if_neg (by simp only [Bool.and_eq_true]; exact fun z => c z.2), if_neg c, qLoop_more now e b r _ _ _ (by omega)]; omega
theorem sum_rep (k : Nat) (v : Int) : (List.replicate k v).sum = k * v := by
  induction k with
  | zero => simp
  | succ k ih => rw [List.replicate_succ, List.sum_cons, ih, Int.natCast_succ, Int.add_mul]; omega
theorem quotaM_all (now l : List Int) (h1 : 1 ≤ l.length) (h8 : l.length ≤ 8) : (quotaM now l).sum = 16 ∧ (quotaM now l).length = l.length ∧ ∀ x ∈ quotaM now l, 0 ≤ x ∧ x ≤ 40 := by
  have hn := qNum (n := (l.length : Int)) (by omega) (by omega)
  have hk := okQ0 (n := (l.length : Int)) (by omega) (by omega) l.length
  have hl1 := qLoop_len now (qEach (l.length : Int)) true l 0 (List.replicate l.length (qEach (l.length : Int))) (Int.tmod 16 (l.length : Int))
  have hs1 := qLoop_sum now (qEach (l.length : Int)) true l 0 (List.replicate l.length (qEach (l.length : Int))) (Int.tmod 16 (l.length : Int)) (by omega) (by simp)
  have hm1 := qLoop_more now (qEach (l.length : Int)) true l 0 (List.replicate l.length (qEach (l.length : Int))) (Int.tmod 16 (l.length : Int)) hn.2.2.1
  have ho1 := qLoop_ok now (qEach (l.length : Int)) true l 0 (List.replicate l.length (qEach (l.length : Int))) (Int.tmod 16 (l.length : Int)) (by omega) (by simp) hk
  have e : quotaM now l = (qLoop now (qEach (l.length : Int)) false l 0 (qLoop now (qEach (l.length : Int)) true l 0 (List.replicate l.length (qEach (l.length : Int))) (Int.tmod 16 (l.length : Int))).1 (qLoop now (qEach (l.length : Int)) true l 0 (List.replicate l.length (qEach (l.length : Int))) (Int.tmod 16 (l.length : Int))).2).1 := rfl
  rw [e]
  generalize hr : qLoop now (qEach (l.length : Int)) true l 0 (List.replicate l.length (qEach (l.length : Int))) (Int.tmod 16 (l.length : Int)) = r at *
  rw [List.length_replicate] at hl1
  have hs2 := qLoop_sum now (qEach (l.length : Int)) false l 0 r.1 r.2 (by omega) (by omega)
  have hm2 := qLoop_more now (qEach (l.length : Int)) false l 0 r.1 r.2 ho1.1
  have ho2 := qLoop_ok now (qEach (l.length : Int)) false l 0 r.1 r.2 (by omega) (by omega) ho1
  have hl2 := qLoop_len now (qEach (l.length : Int)) false l 0 r.1 r.2
  have hb := rch_both now (qEach (l.length : Int)) l
  have hrn := rch_nn now (qEach (l.length : Int)) true l
  have hrf := rch_nn now (qEach (l.length : Int)) false l
  have h16 : (l.length : Int) * qEach (l.length : Int) + Int.tmod 16 (l.length : Int) = 16 := by
    have : l.length = 1 ∨ l.length = 2 ∨ l.length = 3 ∨ l.length = 4 ∨ l.length = 5 ∨ l.length = 6 ∨ l.length = 7 ∨ l.length = 8 := by omega
    rcases this with h | h | h | h | h | h | h | h <;> rw [h] <;> decide
  rw [sum_rep, h16] at hs1
  refine ⟨by omega, by omega, fun x hx => ?_⟩
  have h2 := ho2.2 x hx
  have h3 := ho2.1
  omega
theorem memL_nn (ms : List Int) : ∀ x ∈ memL ms, 0 ≤ x ∧ x < 8 := by
  intro x hx
  obtain ⟨k, _, h2, _, h3⟩ := (fltB_mem _ _ _ _).1 hx
  omega
theorem asg0_all (now m : List Int) (hm : ∀ x ∈ m, 0 ≤ x) : ∀ (c p : Nat) (to la : List Int), p + c = 16 → to.length = 16 → la.length = m.length → (∀ x ∈ la, 0 ≤ x ∧ x ≤ 40) → ((to.take p).count (-1) : Int) + c ≤ la.sum →
    (asg0 now m c p to la).1.length = 16 ∧ (asg0 now m c p to la).2.length = m.length ∧ (∀ x ∈ (asg0 now m c p to la).2, 0 ≤ x ∧ x ≤ 40) ∧ ((asg0 now m c p to la).1.count (-1) : Int) ≤ (asg0 now m c p to la).2.sum
  | 0, p, to, la, hp, ht, hl, hx, hs => by
    rw [List.take_of_length_le (by omega)] at hs
    exact ⟨ht, hl, hx, by simpa [asg0] using hs⟩
  | c + 1, p, to, la, hp, ht, hl, hx, hs => by
    obtain ⟨i1, i2, i3⟩ := indexF_range m (atL now (p : Int))
    simp only [asg0]
    split
    · rename_i t
      simp only [Bool.and_eq_true, decide_eq_true_eq] at t
      have hlt : (indexF m (atL now (p : Int))).toNat < la.length := by omega
      have hg : la.getD (indexF m (atL now (p : Int))).toNat 0 ∈ la := by rw [getD_get 0 hlt]; exact List.getElem_mem hlt
      have hb := hx _ hg
      have hv : m.getD (indexF m (atL now (p : Int))).toNat 0 ∈ m := getD_mem 0 t.1 i2
      have hv0 := hm _ hv
      refine asg0_all now m hm c (p + 1) _ _ (by omega) (by simp [ht]) (by simp [hl]) (fun x h => ?_) ?_
      · rcases set_mem h with h | h
        · exact hx x h
        · omega
      · rw [set_take_succ _ (by omega), sum_set _ _ _ hlt, List.count_append, List.count_singleton, if_neg (fun z => by have := eq_of_beq z; omega)]
        omega
    · refine asg0_all now m hm c (p + 1) _ _ (by omega) (by simp [ht]) hl hx ?_
      rw [set_take_succ _ (by omega), List.count_append, List.count_singleton, if_pos (by simp)]
      omega
theorem bstC_pos (to la : List Int) (p : Int) (ap : Bool) : ∀ (l : List Int) (i out : Int), out < 0 ∨ la.getD out.toNat 0 > 0 → bstC to la p ap l i out < 0 ∨ la.getD (bstC to la p ap l i out).toNat 0 > 0
  | [], _, _, h => h
  | n :: r, i, out, h => by
    simp only [bstC]
    refine bstC_pos to la p ap r (i + 1) _ ?_
    split
    · rename_i t
      simp only [Bool.and_eq_true, decide_eq_true_eq] at t
      exact .inr t.1.1
    · exact h
theorem bstC_ge (to la : List Int) (p : Int) : ∀ (l : List Int) (i out : Int), 0 ≤ i → (0 ≤ out ∨ ∃ k : Nat, i.toNat ≤ k ∧ k < i.toNat + l.length ∧ la.getD k 0 > 0) → 0 ≤ bstC to la p false l i out
  | [], i, out, _, h => by
    rcases h with h | ⟨k, h1, h2, _⟩
    · exact h
    · simp only [List.length_nil] at h2; omega
  | n :: r, i, out, h0, h => by
    simp only [bstC]
    refine bstC_ge to la p r (i + 1) _ (by omega) ?_
    split
    · exact .inl h0
    · rename_i t
      rcases h with h | ⟨k, h1, h2, h3⟩
      · exact .inl h
      · simp only [List.length_cons] at h2
        by_cases e : k = i.toNat
        · subst e
          by_cases ho : out < 0
          · exact absurd (by simp only [Bool.and_eq_true, Bool.or_eq_true, decide_eq_true_eq]; exact ⟨⟨h3, rfl⟩, .inl ho⟩) t
          · exact .inl (by omega)
        · exact .inr ⟨k, by omega, by omega, h3⟩
theorem sum_pos : ∀ (l : List Int), 1 ≤ l.sum → ∃ k, k < l.length ∧ l.getD k 0 > 0
  | [], h => by simp at h
  | a :: l, h => by
    by_cases c : a > 0
    · exact ⟨0, by simp, by simpa using c⟩
    · obtain ⟨k, h1, h2⟩ := sum_pos l (by simp only [List.sum_cons] at h; omega)
      exact ⟨k + 1, by simpa using h1, by simpa using h2⟩
theorem bst_range (m la to : List Int) (p : Int) (ap : Bool) (hl : la.length = m.length) : -1 ≤ bstL (m, la, to) p ap ∧ bstL (m, la, to) p ap < m.length ∧ (bstL (m, la, to) p ap < 0 ∨ la.getD (bstL (m, la, to) p ap).toNat 0 > 0) := by
  by_cases h : m.length = 0
  · have : m = [] := List.eq_nil_of_length_eq_zero h
    subst this
    have e : bstL ([], la, to) p ap = -1 := rfl
    rw [e]
    exact ⟨by omega, by simp, .inl (by omega)⟩
  · have := bstC_range to la p ap m.length m 0 (-1) (by omega) (by omega) (by omega) (by omega)
    exact ⟨this.1, this.2, bstC_pos to la p ap m 0 (-1) (.inl (by omega))⟩
theorem bst_false (m la to : List Int) (p : Int) (hl : la.length = m.length) (hs : 1 ≤ la.sum) : 0 ≤ bstL (m, la, to) p false := by
  obtain ⟨k, h1, h2⟩ := sum_pos la hs
  exact bstC_ge to la p m 0 (-1) (by omega) (.inr ⟨k, by omega, by simp; omega, h2⟩)
theorem pick_range (m la to : List Int) (p : Int) (hl : la.length = m.length) (hs : 1 ≤ la.sum) : 0 ≤ pick m la to p ∧ pick m la to p < m.length ∧ la.getD (pick m la to p).toNat 0 > 0 := by
  have h1 := bst_range m la to p true hl
  have h2 := bst_range m la to p false hl
  have h3 := bst_false m la to p hl hs
  unfold pick
  split
  · exact ⟨h3, h2.2.1, h2.2.2.resolve_left (by omega)⟩
  · rename_i h
    simp only [decide_eq_true_eq] at h
    exact ⟨by omega, h1.2.1, h1.2.2.resolve_left h⟩
theorem asg1_step (m to0 : List Int) (p : Int) (to la : List Int) (h0 : 0 ≤ p) (h1 : p < 16) : asg1 m to0 (16 - p.toNat) p.toNat to la = if to0.getD p.toNat 0 == -1 then asg1 m to0 (16 - (p + 1).toNat) (p + 1).toNat (to.set p.toNat (m.getD (pick m la to p).toNat 0)) (la.set (pick m la to p).toNat (la.getD (pick m la to p).toNat 0 - 1)) else asg1 m to0 (16 - (p + 1).toNat) (p + 1).toNat to la := by
  have e1 : 16 - p.toNat = (16 - (p + 1).toNat) + 1 := by omega
  have e2 : (p.toNat : Int) = p := by omega
  have e3 : p.toNat + 1 = (p + 1).toNat := by omega
  rw [e1, asg1, e2, e3]
theorem lA1 : ∀ st out, (LA1.sp st).reach out → CodeOK Try.prog Try.f17.ntmps (.loop (loopAt (bodyOf Try.f17) 1)) st out := by
  refine LA1.sound W2_ok (lps := []) (n := 100) (inner rfl) (fun _ => rfl) ?_
  rintro ⟨la, m, t0, p, to⟩ ⟨h16, hz, hl, h8, h0, h1, hx, hs⟩
  simp only at h16 hz hl h8 h0 h1 hx hs
  rw [rA1]
  simp only [tab_eq h16, tab_eq hz]
  simp only [all_leaf, all_fork, all_req, conjP, and_true, decide_eq_true_eq, decide_eq_false_iff_not]
  refine ⟨fun c => ⟨⟨h0, c⟩, fun t => ⟨by repeat' (first | exact trivial | rfl | apply And.intro), ?_⟩, fun t => ?_⟩, fun c => ⟨?_, trivial⟩⟩
  · rw [IntWalk.i64_in (p + 1) (by omega)]
    have hd := drop_cons (l := t0) 0 h0 (by omega)
    rw [hd, List.count_cons] at hs
    refine ⟨⟨h16, hz, hl, h8, by dsimp only; omega, by dsimp only; omega, hx, by dsimp only; omega⟩, by simp only [LA1]; omega, ?_⟩
    simp only [LA1]
    rw [asg1_step m t0 p to la h0 c, if_neg (by simpa using t)]
  · have t' : t0.getD p.toNat 0 = -1 := by simpa using t
    have hd := drop_cons (l := t0) 0 h0 (by omega)
    rw [hd, List.count_cons, if_pos (by rw [t']; rfl)] at hs
    have hp := pick_range m la to p hl (by omega)
    have r1 := bst_range m la to p true hl
    have fin : ∀ v : Int, v = pick m la to p → LA1.Next ⟨la, m, t0, p, to⟩ (some ⟨la.set v.toNat (IntKind.i64.wrap (la.getD v.toNat 0 - 1)), m, t0, IntKind.i64.wrap (p + 1), to.set p.toNat (m.getD v.toNat 0)⟩) := by
      intro v hv
      subst hv
      have hlt : (pick m la to p).toNat < la.length := by omega
      have hg : la.getD (pick m la to p).toNat 0 ∈ la := by rw [getD_get 0 hlt]; exact List.getElem_mem hlt
      have hb := hx _ hg
      rw [IntWalk.i64_in (p + 1) (by omega), IntWalk.i64_in _ (by omega)]
      refine ⟨⟨by simp [h16], hz, by simp [hl], h8, by dsimp only; omega, by dsimp only; omega, fun x h => ?_, ?_⟩, by simp only [LA1]; omega, ?_⟩
      · rcases set_mem h with h | h
        · exact hx x h
        · omega
      · dsimp only; rw [sum_set _ _ _ hlt]; omega
      · simp only [LA1]
        rw [asg1_step m t0 p to la h0 c, if_pos (by rw [t']; rfl)]
    have eF : bstL (m, la, to) p true < 0 → pick m la to p = bstL (m, la, to) p false := fun d => by unfold pick; rw [if_pos (by simpa using d)]
    have eT : ¬ bstL (m, la, to) p true < 0 → pick m la to p = bstL (m, la, to) p true := fun d => by unfold pick; rw [if_neg (by simpa using d)]
    have pre : la.length = m.length ∧ m.length ≤ 8 ∧ 0 ≤ p ∧ p < 16 := ⟨hl, h8, h0, c⟩
    refine ⟨⟨trivial, pre⟩, fun d => ?_, fun d => ?_⟩
    · have e := eF d
      rw [e] at hp
      have q1 : 0 ≤ bstL (m, la, to) p false ∧ bstL (m, la, to) p false < (m.length : Int) := ⟨hp.1, hp.2.1⟩
      have q2 : 0 ≤ bstL (m, la, to) p false ∧ bstL (m, la, to) p false < (la.length : Int) := ⟨hp.1, by omega⟩
      refine ⟨⟨trivial, pre⟩, q1, q1, ⟨h0, c⟩, ⟨h0, c⟩, q2, q2, q2, q2, by repeat' (first | exact trivial | rfl | apply And.intro), ?_⟩
      rw [tabL_put h16 h0]
      exact fin _ e.symm
    · have e := eT d
      rw [e] at hp
      have q1 : 0 ≤ bstL (m, la, to) p true ∧ bstL (m, la, to) p true < (m.length : Int) := ⟨hp.1, hp.2.1⟩
      have q2 : 0 ≤ bstL (m, la, to) p true ∧ bstL (m, la, to) p true < (la.length : Int) := ⟨hp.1, by omega⟩
      refine ⟨q1, q1, ⟨h0, c⟩, ⟨h0, c⟩, q2, q2, q2, q2, by repeat' (first | exact trivial | rfl | apply And.intro), ?_⟩
      rw [tabL_put h16 h0]
      exact fin _ e.symm
  · have e : 16 - p.toNat = 0 := by omega
    rw [e, asg1]; repeat' (first | exact trivial | rfl | apply And.intro)
end Pl
