import Derived.Test.YtdjgbkmakjhdgaaDoorSqSpC
import Derived.Test.YtdjgbkmakjhdgaaDoorSqCa2
namespace Pl
open Go Sx Go.Proofs Go.RowKit
theorem atS_at {l : List Int} {p : Int} (h : atS l p ≠ -1) : 0 ≤ p ∧ p < 16 ∧ p < (l.length : Int) ∧ 0 ≤ atS l p ∧ atS l p < 8 ∧ atS l p = l.getD p.toNat 0 := by
  unfold atS at h ⊢
  split at h
  · rename_i c
    rw [if_pos c]
    simp only [Bool.and_eq_true, decide_eq_true_eq, nodeB_iff] at c
    exact ⟨c.1, c.2.2.1, c.2.1, c.2.2.2.1, c.2.2.2.2, rfl⟩
  · exact absurd rfl h
theorem lNx : LpsOK Tryd.prog Tryd.f7 [(0, LNx.sp)] := by
  refine .cons (LNx.sound M1_ok (lps := []) (n := 100) (inner rfl) (fun _ => rfl) ?_) .nil
  rintro ⟨l, p, n, s⟩ ⟨h1, h2, h3, h4, h5⟩
  simp only at h1 h2 h3 h4 h5
  have w1 : IntKind.i64.wrap (p + s) = p + s := IntWalk.i64_in _ (by omega)
  have w2 : IntKind.i64.wrap (s + 1) = s + 1 := IntWalk.i64_in _ (by omega)
  have w3 : (p + s).tmod 16 = (p + s) % 16 := Int.tmod_eq_emod_of_nonneg (by omega)
  have hstep : nxF l n p (17 - s.toNat) s = if atS l ((p + s) % 16) = n then s else nxF l n p (17 - (s + 1).toNat) (s + 1) := by
    rw [show 17 - s.toNat = (17 - (s + 1).toNat) + 1 by omega, nxF]
  rw [rNx, w1, w2, w3]
  simp only [all_leaf, all_fork, all_req, true_and, and_true, bne_iff_ne, ne_eq, bne_eq_false_iff_eq]
  refine ⟨by omega, fun c => ?_, fun c => ?_⟩
  · have : s ≠ 16 := fun e => by
      subst e
      rw [show (p + 16) % 16 = p by omega] at c
      exact c h3
    refine ⟨⟨h1, h2, h3, by dsimp only; omega, by dsimp only; omega⟩, by simp only [LNx]; omega, ?_⟩
    simp only [LNx]; rw [hstep, if_neg c]
  · exact ⟨by rw [hstep, if_pos c], trivial⟩
theorem next_ok : PureOK Tryd.prog 7 [ints, i64] [i64] (fun _ => True) (fun x => (nextS x.1 x.2.1, ())) :=
  fn_pure (E := M1) (n := 100) M1_ok Tryd.func7 sbN lNx fun x _ => by
    obtain ⟨l, p, _⟩ : List Int × Int × Unit := x
    refine Tree.all_eq (tNx l p) ?_
    show Tree.all (α := Int × Unit) _ (fun y => y = (nextS l p, ()))
    simp only [all_leaf, all_fork, all_req, true_and, and_true, beq_iff_eq, beq_eq_false_iff_ne, ne_eq]
    refine ⟨fun c => by unfold nextS; rw [if_pos c], fun c => ?_⟩
    have := atS_at c
    exact ⟨⟨by omega, by omega, by omega, by omega⟩, by unfold nextS; rw [if_neg c]⟩
theorem M2_ok : M2.Sound := mkExM_sound ⟨pureSp_ok atS_ok, pureSp_ok next_ok, trivial⟩
theorem lLt : LpsOK Tryd.prog Tryd.f9 [(0, LLt.sp)] := by
  refine .cons (LLt.sound M2_ok (lps := []) (n := 100) (inner rfl) (fun _ => rfl) ?_) .nil
  rintro ⟨l, nd, q, o⟩ ⟨h1, h2⟩
  simp only at h1 h2
  rw [rLt]
  simp only [all_leaf, all_fork, all_req, true_and, and_true, decide_eq_true_eq, decide_eq_false_iff_not]
  have hstep : q < 16 → lsF l nd (16 - q.toNat) q.toNat o = lsF l nd (16 - (q + 1).toNat) (q + 1).toNat (if atS l q = -1 ∨ atS l q ≠ nd then o else if o = 0 ∨ nextS l q < o then nextS l q else o) := fun c => by
    rw [show 16 - q.toNat = (16 - (q + 1).toNat) + 1 by omega, lsF, toNat_succ h1, Int.toNat_of_nonneg h1]
  refine ⟨fun c => ⟨fun d => ?_, fun d => ⟨fun e => ?_, fun e => ?_⟩⟩, fun c => ?_⟩
  all_goals try rw [IntWalk.i64_in (q + 1) (by omega)]
  · have d : atS l q = -1 ∨ atS l q ≠ nd := by simpa using d
    refine ⟨⟨by dsimp only; omega, by dsimp only; omega⟩, by simp only [LLt]; omega, ?_⟩
    simp only [LLt]; rw [hstep c, if_pos d]
  · have d : ¬ (atS l q = -1 ∨ atS l q ≠ nd) := by simpa using d
    have e : o = 0 ∨ nextS l q < o := by simpa using e
    refine ⟨⟨by dsimp only; omega, by dsimp only; omega⟩, by simp only [LLt]; omega, ?_⟩
    simp only [LLt]; rw [hstep c, if_neg d, if_pos e]
  · have d : ¬ (atS l q = -1 ∨ atS l q ≠ nd) := by simpa using d
    have e : ¬ (o = 0 ∨ nextS l q < o) := by simpa using e
    refine ⟨⟨by dsimp only; omega, by dsimp only; omega⟩, by simp only [LLt]; omega, ?_⟩
    simp only [LLt]; rw [hstep c, if_neg d, if_neg e]
  · exact ⟨by rw [show 16 - q.toNat = 0 by omega]; rfl, trivial⟩
theorem least_ok : PureOK Tryd.prog 9 [ints, i64] [i64] (fun _ => True) (fun x => (leastS x.1 x.2.1, ())) :=
  fn_pure (E := M2) (n := 100) M2_ok Tryd.func9 sbL lLt fun x _ => by
    obtain ⟨l, p, _⟩ : List Int × Int × Unit := x
    refine Tree.all_eq (tLt l p) ?_
    show Tree.all (α := Int × Unit) _ (fun y => y = (leastS l p, ()))
    simp only [all_leaf, all_fork, all_req, true_and, and_true]
    exact ⟨⟨by omega, by omega⟩, rfl⟩
theorem lCu : LpsOK Tryd.prog Tryd.f5 [(0, LCu.sp)] := by
  refine .cons (LCu.sound M4_ok (lps := []) (n := 100) (inner rfl) (fun _ => rfl) ?_) .nil
  rintro ⟨l, o, q⟩ ⟨h1, h2, h3, h4⟩
  simp only at h1 h2 h3 h4
  rw [rCu]
  simp only [all_leaf, all_fork, all_req, true_and, and_true, decide_eq_true_eq, decide_eq_false_iff_not, bne_iff_ne, ne_eq, bne_eq_false_iff_eq]
  have hstep : q < 16 → cnF l (16 - q.toNat) q.toNat o = cnF l (16 - (q + 1).toNat) (q + 1).toNat (if atS l q = -1 then o else o.set (atS l q).toNat (o.getD (atS l q).toNat 0 + 1)) := fun c => by
    rw [show 16 - q.toNat = (16 - (q + 1).toNat) + 1 by omega, cnF, toNat_succ h1, Int.toNat_of_nonneg h1]
  refine ⟨fun c => ⟨fun d => ?_, fun d => ?_⟩, fun c => ?_⟩
  · have ha := atS_at d
    have hi : (atS l q).toNat < o.length := by omega
    have hb := h4 _ (show o.getD (atS l q).toNat 0 ∈ o by rw [getD_get 0 hi]; exact List.getElem_mem _)
    rw [IntWalk.i64_in (q + 1) (by omega), IntWalk.i64_in (o.getD (atS l q).toNat 0 + 1) (by omega)]
    refine ⟨by omega, by omega, by omega, by omega, ⟨by dsimp only; omega, by dsimp only; omega, by simpa using h3, fun x hx => ?_⟩, by simp only [LCu]; omega, ?_⟩
    · rcases List.mem_or_eq_of_mem_set hx with e | e
      · have := h4 x e; dsimp only; omega
      · dsimp only; omega
    · simp only [LCu]; rw [hstep c, if_neg d]
  · rw [IntWalk.i64_in (q + 1) (by omega)]
    refine ⟨⟨by dsimp only; omega, by dsimp only; omega, h3, fun x hx => ?_⟩, by simp only [LCu]; omega, ?_⟩
    · have := h4 x hx; dsimp only; omega
    · simp only [LCu]; rw [hstep c, if_pos d]
  · exact ⟨by rw [show 16 - q.toNat = 0 by omega]; rfl, trivial⟩
theorem counts_ok : PureOK Tryd.prog 5 [ints] [ints] (fun _ => True) (fun x => (countsS x.1, ())) :=
  fn_pure (E := M4) (n := 100) M4_ok Tryd.func5 sbC lCu fun x _ => by
    obtain ⟨l, _⟩ : List Int × Unit := x
    refine Tree.all_eq (tCu l) ?_
    show Tree.all (α := List Int × Unit) _ (fun y => y = (countsS l, ()))
    simp only [all_leaf, all_fork, all_req, true_and, and_true]
    refine ⟨⟨by omega, by omega, by omega, by omega⟩, ⟨by omega, by omega, fun x hx => ?_⟩, rfl⟩
    rw [List.eq_of_mem_replicate hx]; omega
theorem cnF_len (l : List Int) : ∀ (c q : Nat) (o : List Int), (cnF l c q o).length = o.length
  | 0, _, _ => rfl
  | c + 1, q, o => by rw [cnF, cnF_len l c]; split <;> simp
theorem counts_len (l : List Int) : (countsS l).length = 8 := by unfold countsS; rw [cnF_len]; simp
theorem lMx : LpsOK Tryd.prog Tryd.f19 [(0, LMx.sp)] := by
  refine .cons (LMx.sound E0_ok (lps := []) (n := 100) (inner rfl) (fun _ => rfl) ?_) .nil
  rintro ⟨l, i, v⟩ ⟨h1, h2, h3⟩
  simp only at h1 h2 h3
  rw [rMx]
  simp only [all_leaf, all_fork, all_req, true_and, and_true, decide_eq_true_eq, decide_eq_false_iff_not]
  refine ⟨fun c => ⟨⟨h1, c⟩, ⟨h1, c⟩, ?_⟩, fun c => ?_⟩
  · rw [i64_inc (by omega) (by unfold big at h3; omega)]
    refine ⟨⟨by dsimp only; omega, by dsimp only; omega, h3⟩, by simp only [LMx]; omega, ?_⟩
    simp only [LMx]; rw [drop_cons (l := l) 0 h1 c, mxF]
  · exact ⟨by rw [drop_end c]; rfl, trivial⟩
theorem max_ok : PureOK Tryd.prog 19 [ints] [i64] (fun x => 1 ≤ List.length (α := Int) x.1 ∧ (List.length (α := Int) x.1 : Int) < big) (fun x => (maxL x.1, ())) :=
  fn_pure (E := E0) (n := 100) E0_ok Tryd.func19 sbMx lMx fun x h => by
    obtain ⟨l, _⟩ : List Int × Unit := x
    obtain ⟨h1, h2⟩ : 1 ≤ l.length ∧ (l.length : Int) < 4611686018427387904 := h
    refine Tree.all_eq (tMx l) ?_
    show Tree.all (α := Int × Unit) _ (fun y => y = (maxL l, ()))
    simp only [all_leaf, all_fork, all_req, true_and, and_true, decide_eq_true_eq, decide_eq_false_iff_not]
    exact ⟨fun c => by omega, fun c => ⟨by omega, by omega, ⟨by omega, by omega, h2⟩, rfl⟩⟩
theorem lMn : LpsOK Tryd.prog Tryd.f20 [(0, LMn.sp)] := by
  refine .cons (LMn.sound E0_ok (lps := []) (n := 100) (inner rfl) (fun _ => rfl) ?_) .nil
  rintro ⟨l, i, v⟩ ⟨h1, h2, h3⟩
  simp only at h1 h2 h3
  rw [rMn]
  simp only [all_leaf, all_fork, all_req, true_and, and_true, decide_eq_true_eq, decide_eq_false_iff_not]
  refine ⟨fun c => ⟨⟨h1, c⟩, ⟨h1, c⟩, ?_⟩, fun c => ?_⟩
  · rw [i64_inc (by omega) (by unfold big at h3; omega)]
    refine ⟨⟨by dsimp only; omega, by dsimp only; omega, h3⟩, by simp only [LMn]; omega, ?_⟩
    simp only [LMn]; rw [drop_cons (l := l) 0 h1 c, mnF]
  · exact ⟨by rw [drop_end c]; rfl, trivial⟩
theorem min_ok : PureOK Tryd.prog 20 [ints] [i64] (fun x => 1 ≤ List.length (α := Int) x.1 ∧ (List.length (α := Int) x.1 : Int) < big) (fun x => (minL x.1, ())) :=
  fn_pure (E := E0) (n := 100) E0_ok Tryd.func20 sbMn lMn fun x h => by
    obtain ⟨l, _⟩ : List Int × Unit := x
    obtain ⟨h1, h2⟩ : 1 ≤ l.length ∧ (l.length : Int) < 4611686018427387904 := h
    refine Tree.all_eq (tMn l) ?_
    show Tree.all (α := Int × Unit) _ (fun y => y = (minL l, ()))
    simp only [all_leaf, all_fork, all_req, true_and, and_true, decide_eq_true_eq, decide_eq_false_iff_not]
    exact ⟨fun c => by omega, fun c => ⟨by omega, by omega, ⟨by omega, by omega, h2⟩, rfl⟩⟩
theorem M5_ok : M5.Sound := mkExM_sound ⟨pureSp_ok counts_ok, pureSp_ok contains_ok, pureSp_ok max_ok, pureSp_ok min_ok, trivial⟩
theorem lUn : LpsOK Tryd.prog Tryd.f11 [(0, LUn.sp)] := by
  refine .cons (LUn.sound M5_ok (lps := []) (n := 100) (inner rfl) (fun _ => rfl) ?_) .nil
  rintro ⟨l, m, i, u⟩ ⟨h1, h2, h3, h4, h5⟩
  simp only at h1 h2 h3 h4 h5
  have h4' : (m.length : Int) < 4611686018427387904 := h4
  rw [rUn]
  simp only [all_leaf, all_fork, all_req, true_and, and_true, decide_eq_true_eq, decide_eq_false_iff_not]
  refine ⟨fun c => ⟨⟨h1, c⟩, ⟨h1, c⟩, h4', fun d => ?_, fun d => ?_⟩, fun c => ?_⟩
  · rw [i64_inc (by omega) (by omega)]
    refine ⟨by omega, ⟨by dsimp only; omega, by dsimp only; omega, h3, h4, by simp; omega⟩, by simp only [LUn]; omega, ?_⟩
    simp only [LUn]; rw [drop_cons (l := l) 0 h1 c, unF, if_pos d]; simp
  · rw [i64_inc (by omega) (by omega)]
    refine ⟨⟨by dsimp only; omega, by dsimp only; omega, h3, h4, by dsimp only; omega⟩, by simp only [LUn]; omega, ?_⟩
    simp only [LUn]; rw [drop_cons (l := l) 0 h1 c, unF, if_neg (by rw [d]; decide)]
  · exact ⟨by rw [drop_end c]; simp [unF], trivial⟩
theorem cnF_range (l : List Int) : ∀ (c q : Nat) (o : List Int) (N : Int), (∀ x ∈ o, 0 ≤ x ∧ x ≤ N) → ∀ x ∈ cnF l c q o, 0 ≤ x ∧ x ≤ N + c
  | 0, _, o, N, h, x, hx => by have := h x hx; omega
  | c + 1, q, o, N, h, x, hx => by
    rw [cnF] at hx
    have := cnF_range l c (q + 1) _ (N + 1) (fun y hy => ?_) x hx
    · omega
    · split at hy
      · have := h y hy; omega
      · rename_i d
        rcases List.mem_or_eq_of_mem_set hy with e | e
        · have := h y e; omega
        · by_cases hi : (atS l (q : Int)).toNat < o.length
          · have := h _ (show o.getD (atS l (q : Int)).toNat 0 ∈ o by rw [getD_get 0 hi]; exact List.getElem_mem _)
            omega
          · rw [List.set_eq_of_length_le (by omega)] at hy
            have := h y hy; omega
theorem counts_range (l : List Int) : ∀ x ∈ countsS l, 0 ≤ x ∧ x ≤ 16 := fun x hx => by
  have := cnF_range l 16 0 (List.replicate 8 0) 0 (fun y hy => by rw [List.eq_of_mem_replicate hy]; omega) x hx
  omega
theorem unF_sub (m : List Int) : ∀ (c : List Int) (i : Int), ∀ x ∈ unF m c i, x ∈ c
  | [], _, _, hx => hx
  | y :: r, i, x, hx => by
    rw [unF] at hx
    split at hx
    · rcases List.mem_cons.1 hx with e | e
      · exact List.mem_cons.2 (.inl e)
      · exact List.mem_cons_of_mem _ (unF_sub m r _ x e)
    · exact List.mem_cons_of_mem _ (unF_sub m r _ x hx)
theorem unF_len (m : List Int) : ∀ (c : List Int) (i : Int), (unF m c i).length ≤ c.length
  | [], _ => Nat.le_refl _
  | y :: r, i => by
    have := unF_len m r (i + 1)
    rw [unF]; split
    · simp only [List.length_cons]; omega
    · simp only [List.length_cons]; omega
theorem mxF_mem : ∀ (l : List Int) (v : Int), mxF l v = v ∨ mxF l v ∈ l
  | [], _ => .inl rfl
  | x :: r, v => by
    rw [mxF]
    split
    · rcases mxF_mem r x with e | e
      · right; rw [e]; simp
      · right; simp [e]
    · rcases mxF_mem r v with e | e
      · left; exact e
      · right; simp [e]
theorem mnF_mem : ∀ (l : List Int) (v : Int), mnF l v = v ∨ mnF l v ∈ l
  | [], _ => .inl rfl
  | x :: r, v => by
    rw [mnF]
    split
    · rcases mnF_mem r x with e | e
      · right; rw [e]; simp
      · right; simp [e]
    · rcases mnF_mem r v with e | e
      · left; exact e
      · right; simp [e]
theorem getD0_mem {l : List Int} (h : l.length ≠ 0) : l.getD 0 0 ∈ l := by
  rw [getD_get 0 (by omega)]; exact List.getElem_mem _
theorem maxL_mem {l : List Int} (h : l.length ≠ 0) : maxL l ∈ l := by
  unfold maxL
  rcases mxF_mem (l.drop 1) (l.getD 0 0) with e | e
  · rw [e]; exact getD0_mem h
  · exact List.mem_of_mem_drop e
theorem minL_mem {l : List Int} (h : l.length ≠ 0) : minL l ∈ l := by
  unfold minL
  rcases mnF_mem (l.drop 1) (l.getD 0 0) with e | e
  · rw [e]; exact getD0_mem h
  · exact List.mem_of_mem_drop e
theorem uneven_ok : PureOK Tryd.prog 11 [ints, ints] [i64] (fun x => (List.length (α := Int) x.2.1 : Int) < big) (fun x => (unevenS x.1 x.2.1, ())) :=
  fn_pure (E := M5) (n := 100) M5_ok Tryd.func11 sbU lUn fun x h => by
    obtain ⟨l, m, _⟩ : List Int × List Int × Unit := x
    have h : (m.length : Int) < 4611686018427387904 := h
    refine Tree.all_eq (tUn l m) ?_
    show Tree.all (α := Int × Unit) _ (fun y => y = (unevenS l m, ()))
    have hc := counts_len l
    have hu := unF_len m (countsS l) 0
    simp only [all_leaf, all_fork, all_req, true_and, and_true, List.nil_append, List.drop_zero, beq_iff_eq, beq_eq_false_iff_ne, ne_eq]
    refine ⟨⟨by omega, by omega, hc, h, by omega⟩, fun c => ?_, fun c => ⟨by omega, by omega, ?_⟩⟩
    · unfold unevenS; rw [if_pos (by omega)]
    · have h0 : (unF m (countsS l) 0).length ≠ 0 := by omega
      have a1 := counts_range l _ (unF_sub m _ _ _ (maxL_mem h0))
      have a2 := counts_range l _ (unF_sub m _ _ _ (minL_mem h0))
      rw [IntWalk.i64_in (maxL (unF m (countsS l) 0) - minL (unF m (countsS l) 0)) (by omega)]
      unfold unevenS; rw [if_neg h0]
abbrev KsL : Nat × Sx.Spec := (9, pureSp [ints, i64] [i64] (fun _ => True) (fun x => (leastS x.1 x.2.1, ())))
abbrev KsC : Nat × Sx.Spec := (5, pureSp [ints] [ints] (fun _ => True) (fun x => (countsS x.1, ())))
abbrev KsU : Nat × Sx.Spec := (11, pureSp [ints, ints] [i64] (fun x => (List.length (α := Int) x.2.1 : Int) < big) (fun x => (unevenS x.1 x.2.1, ())))
noncomputable abbrev M7 : Ex := mkExM Tryd.prog [KsT, KsN, KsL]
theorem M7_ok : M7.Sound := mkExM_sound ⟨pureSp_ok text_ok, pureSp_ok next_ok, pureSp_ok least_ok, trivial⟩
theorem tAw  : @Eq _
  (fnT M7 [] 100 Tryd.f4 [] [.bool] ())
  (.req (True ∧ (true = true → conjP [True, true = true → conjP [True, true = true → conjP [True]]])) (
 .leaf ((true, ()))) : Tree (Bool × PUnit)) := by kernel_rfl
end Pl
