import Derived.Test.YtmbbdddbijonaaaRiRlO
namespace Pl
open Go Sx Go.Proofs Go.RowKit
theorem VO_ok : VO.Sound := mkExM_sound ⟨pureSp_ok rmay_ok, pureSp_ok aw_ok, pureSp_ok rof_ok, fnI_ok (E := E0) E0_ok Try.func8 bodyH .nil, trivial⟩
theorem cntB_addO {f g h : Nat → Bool} : ∀ (c j : Nat), (∀ k, j ≤ k → k < j + c → h k = (f k || g k) ∧ (f k && g k) = false) → cntB h c j = cntB f c j + cntB g c j
  | 0, _, _ => by simp [cntB]
  | c + 1, j, e => by
    have := cntB_addO (f := f) (g := g) (h := h) c (j + 1) (fun k a b => e k (by omega) (by omega))
    have h0 := e j (by omega) (by omega)
    simp only [cntB, h0.1, this]
    have h1 := h0.2
    cases hf : f j <;> cases hg : g j <;> simp [hf, hg] at h1 ⊢ <;> omega
theorem cntB_allO {f : Nat → Bool} {b : Bool} : ∀ (c j : Nat), (∀ k, j ≤ k → k < j + c → f k = b) → cntB f c j = if b then (c : Int) else 0
  | 0, _, _ => by cases b <;> rfl
  | c + 1, j, h => by
    simp only [cntB]
    rw [h j (by omega) (by omega), cntB_allO (f := f) c (j + 1) (fun k a b => h k (by omega) (by omega))]
    cases b <;> simp <;> omega
def inO (st : List Int) (f t : Int) (k : Nat) : Bool := decide (st.getD k 0 ≥ f) && decide (st.getD k 0 ≤ t)
theorem ofL_len (st : List Int) (f t : Int) : ∀ c j, ((ofL st f t c j).length : Int) = cntB (inO st f t) c j
  | 0, _ => rfl
  | c + 1, j => by
    have := ofL_len st f t c (j + 1)
    simp only [ofL, cntB]
    by_cases h : inO st f t j = true
    · have h' := h; unfold inO at h'
      rw [if_pos h', if_pos h, List.length_cons]; omega
    · have h' := h; unfold inO at h'
      rw [if_neg h', if_neg h]; omega
theorem ofL_mem (st : List Int) (f t : Int) : ∀ c j, ∀ x ∈ ofL st f t c j, ∃ k : Nat, j ≤ k ∧ k < j + c ∧ x = (k : Int) ∧ inO st f t k = true
  | 0, _, x, h => by simp [ofL] at h
  | c + 1, j, x, h => by
    simp only [ofL] at h
    split at h
    · rename_i d
      rcases List.mem_cons.1 h with e | h
      · exact ⟨j, by omega, by omega, e, d⟩
      · obtain ⟨k, a, b, e⟩ := ofL_mem st f t c (j + 1) x h
        exact ⟨k, by omega, by omega, e⟩
    · obtain ⟨k, a, b, e⟩ := ofL_mem st f t c (j + 1) x h
      exact ⟨k, by omega, by omega, e⟩
theorem ofL_inc (st : List Int) (f t : Int) : ∀ c j, (ofL st f t c j).Pairwise (· < ·)
  | 0, _ => by simp [ofL]
  | c + 1, j => by
    simp only [ofL]
    split
    · refine List.pairwise_cons.2 ⟨fun x hx => ?_, ofL_inc st f t c (j + 1)⟩
      obtain ⟨k, a, b, e, _⟩ := ofL_mem st f t c (j + 1) x hx
      omega
    · exact ofL_inc st f t c (j + 1)
theorem ofL_good (st : List Int) (s : Int) : goodO st (ofL st s s 8 0) s = true := by
  unfold goodO
  rw [List.all_eq_true]
  intro i hi
  have hi' := List.mem_range.1 hi
  have hm : (ofL st s s 8 0).getD i 0 ∈ ofL st s s 8 0 := getD_mem (i := (i : Int)) 0 (by omega) (by omega)
  obtain ⟨k, _, k2, k3, k4⟩ := ofL_mem st s s 8 0 _ hm
  unfold inO at k4
  simp only [Bool.and_eq_true, decide_eq_true_eq] at k4
  simp only [Bool.and_eq_true, Bool.or_eq_true, decide_eq_true_eq]
  refine ⟨⟨⟨by omega, by omega⟩, by rw [k3, Int.toNat_natCast]; omega⟩, ?_⟩
  by_cases e : i = 0
  · exact .inl e
  · right
    have := List.pairwise_iff_getElem.1 (ofL_inc st s s 8 0) (i - 1) i (by omega) hi' (by omega)
    rw [getD_get 0 (by omega), getD_get 0 hi']
    exact this
theorem cnt_split (st : List Int) (s : Int) (h : s ≤ 4) : cntB (inO st s 4) 8 0 = cntB (inO st s s) 8 0 + cntB (inO st (s + 1) 4) 8 0 := by
  refine cntB_addO 8 0 fun k _ _ => ?_
  unfold inO
  generalize st.getD k 0 = x
  by_cases a : x = s
  · rw [decide_eq_true (by omega : x ≥ s), decide_eq_true (by omega : x ≤ 4), decide_eq_true (by omega : x ≤ s), decide_eq_false (by omega : ¬ x ≥ s + 1)]; exact ⟨rfl, rfl⟩
  · by_cases b : x ≥ s
    · rw [decide_eq_true b, decide_eq_false (by omega : ¬ x ≤ s), decide_eq_true (by omega : x ≥ s + 1)]; simp
    · rw [decide_eq_false b, decide_eq_false (by omega : ¬ x ≥ s + 1)]; simp
theorem all8 (st : List Int) (h : ∀ k, k < 8 → 0 ≤ st.getD k 0 ∧ st.getD k 0 ≤ 4) : cntB (inO st 0 4) 8 0 = 8 := by
  rw [cntB_allO (b := true) 8 0 (fun k _ hk => by
    have := h k (by omega)
    unfold inO
    rw [decide_eq_true (by omega : st.getD k 0 ≥ 0), decide_eq_true (by omega : st.getD k 0 ≤ 4)]; rfl)]; rfl
theorem cntO_all (r : RingD) (h : ∀ k, k < 8 → 0 ≤ r.1.getD k 0 ∧ r.1.getD k 0 ≤ 4) : cntO r 5 0 = 8 := by
  have h0 := cnt_split r.1 0 (by omega)
  have h1 := cnt_split r.1 1 (by omega)
  have h2 := cnt_split r.1 2 (by omega)
  have h3 := cnt_split r.1 3 (by omega)
  have h4 := cnt_split r.1 4 (by omega)
  have h5 : cntB (inO r.1 5 4) 8 0 = 0 := by
    rw [cntB_allO (b := false) 8 0 (fun k _ hk => by
      unfold inO
      generalize r.1.getD k 0 = x
      by_cases a : x ≥ 5
      · rw [decide_eq_false (by omega : ¬ x ≤ 4), Bool.and_false]
      · rw [decide_eq_false a]; rfl)]; rfl
  have := all8 r.1 h
  simp only [cntO, ofR, ofL_len]
  simp only [Int.reduceAdd] at *
  omega
theorem lOb : LpsOK Try.prog Try.f6 [(1, LOb.sp)] := by
  refine .cons (LOb.sound VO_ok (lps := []) (n := 100) (inner rfl) (fun _ => rfl) ?_) .nil
  rintro ⟨r, f, t, s, n, l, i⟩ ⟨h1, h2, h3, h4, h5⟩
  simp only at h1 h2 h3 h4 h5
  rw [rOb, tab_eq h1.1, tab_eq h1.2]
  simp only [all_leaf, all_fork, all_req, conjP, and_true, decide_eq_true_eq, decide_eq_false_iff_not]
  refine ⟨fun c => ?_, fun c => by repeat' (first | exact trivial | rfl | apply And.intro)⟩
  have hf := h5
  unfold goodO at hf
  rw [List.all_eq_true] at hf
  have hi := hf i.toNat (List.mem_range.2 (by omega))
  simp only [Bool.and_eq_true, Bool.or_eq_true, decide_eq_true_eq] at hi
  obtain ⟨⟨⟨x0, x1⟩, x2⟩, x3⟩ := hi
  rw [IntWalk.i64_in (i - 1) (by omega)]
  have e1 : (i - 1).toNat = i.toNat - 1 := by omega
  refine ⟨⟨h3, c⟩, ⟨h3, c⟩, ?_, fun d => ?_, fun _ => ⟨by repeat' (first | exact trivial | rfl | apply And.intro), ?_⟩⟩
  · exact fun _ _ => ⟨⟨x0, x1⟩, ⟨x0, x1⟩, fun _ z => ⟨⟨by omega, by omega⟩, by omega, by omega⟩⟩
  · exfalso
    simp only [Bool.or_eq_true, Bool.and_eq_true, decide_eq_true_eq, bne_iff_ne, ne_eq] at d
    rw [e1] at d
    omega
  · rw [i64_inc (by omega) (by omega)]
    exact ⟨⟨h1, h2, by dsimp only; omega, by dsimp only; omega, h5⟩, by simp only [LOb]; omega, rfl⟩
theorem lOa : LpsOK Try.prog Try.f6 [(0, LOa.sp)] := by
  refine .cons (LOa.sound VO_ok (lps := [(1, LOb.sp)]) (n := 100) (lOb.within (by kernel_rfl)) (fun _ => rfl) ?_) .nil
  rintro ⟨r, f, t, s, n⟩ ⟨h1, h2, h3, h4, h5⟩
  simp only at h1 h2 h3 h4 h5
  rw [rOa, tab_eq h1.1, tab_eq h1.2]
  simp only [tab_eq h1.1]
  simp only [all_leaf, all_fork, all_req, conjP, and_true, decide_eq_true_eq, decide_eq_false_iff_not]
  have hl : ((ofR r s s).length : Int) = cntB (inO r.1 s s) 8 0 := ofL_len _ _ _ _ _
  have hr := cntB_range (inO r.1 s s) 8 0
  refine ⟨fun c => ⟨trivial, ⟨trivial, ?_, by omega, by omega, ofL_good r.1 s⟩, ?_⟩, fun c => ⟨?_, trivial⟩⟩
  · show (ofR r s s).length ≤ 8
    omega
  · refine ⟨trivial, trivial, ?_⟩
    have e0 : ofR (r.1, r.2.1, r.2.2) s s = ofR r s s := rfl
    rw [e0, i64_inc (by omega) (by omega), IntWalk.i64_in (n + _) (by omega)]
    refine ⟨⟨h1, by dsimp only; omega, by dsimp only; omega, by dsimp only; omega, by dsimp only; omega⟩, by simp only [LOa]; omega, ?_⟩
    simp only [LOa]
    have e1 : 5 - s.toNat = (5 - (s + 1).toNat) + 1 := by omega
    have e2 : n + cntO r (5 - s.toNat) s = n + ((ofR r s s).length : Int) + cntO r (5 - (s + 1).toNat) (s + 1) := by
      rw [e1, cntO]; omega
    rw [e2]
  · have : 5 - s.toNat = 0 := by omega
    rw [this]; simp [cntO]
theorem ringof_t (r : RingD) (f t : Int) (hr : okR r) : (fnT VO [(0, LOa.sp)] 100 Try.f6 [Ring, i64, i64] [.bool] (r, f, t, ())).all fun y => y = (true, ()) := by
  refine Tree.all_eq (tRO r f t) ?_
  show Tree.all (α := Bool × Unit) _ Yes
  simp only [tab_eq hr.1, tab_eq hr.2]
  simp only [all_leaf, all_fork, all_req, yes_t, yes_f, yes_iff, true_and, and_true, decide_eq_true_eq, decide_eq_false_iff_not, implies_true, conjP, beq_iff_eq, beq_eq_false_iff_ne, ne_eq, Bool.and_true]
  intro hp
  refine ⟨by omega, fun hm => ?_⟩
  have hm' : mayR r = true := by simpa using hm
  unfold mayR at hm'
  rw [tab_eq hr.1] at hm'
  have hst := (Bool.and_eq_true _ _ ▸ hm').1
  rw [List.all_eq_true] at hst
  have h8 : ∀ k, k < 8 → 0 ≤ r.1.getD k 0 ∧ r.1.getD k 0 ≤ 4 := fun k hk => by
    have h := hst _ (getD_mem (l := r.1) (i := (k : Int)) 0 (by omega) (by have := hr.1; omega))
    rw [Int.toNat_natCast] at h
    unfold stB at h
    simp only [Bool.and_eq_true, Bool.not_eq_true', decide_eq_false_iff_not] at h
    omega
  have hc : cntO (r.1, r.2.1, r.2.2) 5 0 = 8 := cntO_all r h8
  have hf : ((ofR (r.1, r.2.1, r.2.2) 0 4).length : Int) = 8 := by
    show ((ofL r.1 0 4 8 0).length : Int) = 8
    rw [ofL_len, all8 r.1 h8]
  have hft : ¬ f ≤ t → ((ofR (r.1, r.2.1, r.2.2) f t).length : Int) = 0 := fun h => by
    show ((ofL r.1 f t 8 0).length : Int) = 0
    rw [ofL_len, cntB_allO (b := false) 8 0 (fun k _ _ => by
      unfold inO
      generalize r.1.getD k 0 = x
      by_cases a : x ≥ f
      · rw [decide_eq_false (by omega : ¬ x ≤ t), Bool.and_false]
      · rw [decide_eq_false a]; rfl)]; rfl
  rw [hc, hf]
  exact ⟨⟨by omega, by omega, by omega, by omega⟩, fun _ => ⟨fun _ h z => absurd (hft h) z, fun z => absurd rfl z⟩, fun z => absurd (by omega) z⟩
theorem ringof_ok : PureOK Try.prog 6 [Ring, i64, i64] [.bool] (fun x => okR x.1) (fun _ => (true, ())) :=
  fn_pure (E := VO) (n := 100) VO_ok Try.func6 bodyRO lOa fun x h => ringof_t x.1 x.2.1 x.2.2.1 h
end Pl
