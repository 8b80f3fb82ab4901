import Derived.Test.YtigiidafhbhdmaaLeLh
namespace Pl
open Go Sx Go.Proofs Go.RowKit
theorem getD_in {l : List Int} {i : Int} (h0 : 0 ≤ i) (h1 : i < l.length) : l.getD i.toNat 0 ∈ l := by
  rw [getD_get 0 (by omega)]; exact List.getElem_mem _
theorem lPs1 : ∀ st out, (LPs.sp st).reach out → CodeOK Try.prog Try.f25.ntmps (.loop (loopAt (bodyOf Try.f25) 0)) st out := by
  refine LPs.sound Y4_ok (lps := []) (n := 100) (inner rfl) (fun _ => rfl) ?_
  rintro ⟨r, l, i⟩ ⟨h1, h2, h3, h4, h5⟩
  simp only at h1 h2 h3 h4 h5
  rw [rPs, tab_eq h1.2]
  simp only [all_leaf, all_fork, all_req, and_true, decide_eq_true_eq, decide_eq_false_iff_not]
  refine ⟨fun c => ?_, fun c => ?_⟩
  · have hm := h5 _ (getD_in h2 c)
    refine ⟨⟨h2, c⟩, ⟨h2, c⟩, hm, hm, ?_, ?_⟩
    · repeat' (first | exact trivial | rfl | apply And.intro)
    · rw [tabL_put h1.1 hm.1, i64_inc (by omega) (by omega)]
      refine ⟨⟨⟨by simpa using h1.1, h1.2⟩, by dsimp only; omega, by dsimp only; omega, h4, h5⟩, by simp only [LPs]; omega, ?_⟩
      simp only [LPs]; rw [drop_cons (l := l) 0 h2 c, setAll]
  · rw [drop_end c]; repeat' (first | exact trivial | rfl | apply And.intro)
theorem lSg1 (hY : Y5.Sound) : ∀ st out, (LSg.sp st).reach out → CodeOK Try.prog Try.f11.ntmps (.loop (loopAt (bodyOf Try.f11) 0)) st out := by
  refine LSg.sound hY (lps := []) (n := 100) (inner rfl) (fun _ => rfl) ?_
  rintro ⟨r, out, l, ow, tg, i⟩ ⟨h1, h1', h2, h3, h4, h5, h6, h7⟩
  simp only at h1 h1' h2 h3 h4 h5 h6 h7
  rw [rSg, tab_eq h1.1, tab_eq h1'.1]
  rw [tab_eq h1.2, tab_eq h1'.2]
  simp only [all_leaf, all_fork, all_req, and_true, decide_eq_true_eq, decide_eq_false_iff_not]
  refine ⟨fun c => ?_, fun c => ?_⟩
  · have hm := h5 _ (getD_in h2 c)
    refine ⟨⟨h2, c⟩, ⟨h2, c⟩, ⟨by omega, fun _ => by show _ < _; omega⟩, fun d => ⟨hm, hm, ?_, ?_⟩, fun d => ⟨?_, ?_⟩⟩
    · repeat' (first | exact trivial | rfl | apply And.intro)
    · rw [tabL_put h1'.1 hm.1, i64_inc (by omega) (by omega)]
      refine ⟨⟨h1, ⟨by simpa using h1'.1, h1'.2⟩, by dsimp only; omega, by dsimp only; omega, h4, h5, h6, h7⟩, by simp only [LSg]; omega, ?_⟩
      simp only [LSg]; rw [drop_cons (l := l) 0 h2 c, goneL, if_neg (by rw [← Bool.not_or, Bool.not_eq_true'] at d; rw [d]; decide)]
    · repeat' (first | exact trivial | rfl | apply And.intro)
    · rw [i64_inc (by omega) (by omega)]
      refine ⟨⟨h1, h1', by dsimp only; omega, by dsimp only; omega, h4, h5, h6, h7⟩, by simp only [LSg]; omega, ?_⟩
      simp only [LSg]; rw [drop_cons (l := l) 0 h2 c, goneL, if_pos (by rw [← Bool.not_or, Bool.not_eq_false'] at d; exact d)]
  · rw [drop_end c]; repeat' (first | exact trivial | rfl | apply And.intro)
theorem Y5_ok : Y5.Sound := mkExM_sound ⟨pureSp_ok rmay_ok, pureSp_ok rof_ok, pureSp_ok contains_ok, pureSp_ok leader_ok, pureSpL_ok rjoin_ok,
  fnI_ok (E := Y4) Y4_ok Try.func25 bodyPs (LpsOK.cons (viaN_ok lPs1) .nil), orSp_ok (pureSp_ok allo_ok.pure) (pureSp_ok allt_ok.pure), pureSp_ok rsame_ok, trivial⟩
theorem setAll_len (v : Int) : ∀ (l st : List Int), (setAll v st l).length = st.length
  | [], _ => rfl
  | n :: r, st => by rw [setAll, setAll_len v r]; simp
theorem setAll_getD (v : Int) : ∀ (l st : List Int) (j : Nat), (∀ x ∈ l, 0 ≤ x) → j < st.length → (setAll v st l).getD j 0 = if l.contains (j : Int) then v else st.getD j 0
  | [], _, _, _, _ => rfl
  | n :: r, st, j, h, hj => by
    have hn := h n (by simp)
    rw [setAll, setAll_getD v r _ j (fun x hx => h x (by simp [hx])) (by simpa using hj), List.contains_cons]
    by_cases a : r.contains (j : Int) = true
    · rw [if_pos a, a, Bool.or_true, if_pos rfl]
    · rw [if_neg a, eq_false_of_ne_true a, Bool.or_false]
      by_cases b : (j : Int) = n
      · rw [if_pos (by simpa using b)]
        subst b
        simp [List.getD_eq_getElem?_getD, hj]
      · rw [if_neg (by simpa using b)]
        simp only [List.getD_eq_getElem?_getD]
        rw [List.getElem?_set_ne (by omega)]
theorem goneL_len (ow tg : List Int) : ∀ (l st : List Int), (goneL ow tg st l).length = st.length
  | [], _ => rfl
  | n :: r, st => by rw [goneL, goneL_len ow tg r]; split <;> simp
theorem goneL_getD (ow tg : List Int) : ∀ (l st : List Int) (j : Nat), (∀ x ∈ l, 0 ≤ x) → j < st.length → (goneL ow tg st l).getD j 0 = if l.contains (j : Int) && !(ow.contains (j : Int) || tg.contains (j : Int)) then 4 else st.getD j 0
  | [], _, _, _, _ => rfl
  | n :: r, st, j, h, hj => by
    have hn := h n (by simp)
    rw [goneL, goneL_getD ow tg r _ j (fun x hx => h x (by simp [hx])) (by split <;> simpa using hj), List.contains_cons]
    by_cases b : (j : Int) = n
    · subst b
      cases hc : (ow.contains (j : Int) || tg.contains (j : Int)) with
      | true => simp
      | false =>
        simp only [Bool.false_eq_true, if_false]
        cases r.contains (j : Int) <;> simp [List.getD_eq_getElem?_getD, hj]
    · have b' : ((j : Int) == n) = false := by simpa using b
      rw [b', Bool.false_or]
      have e : (if (ow.contains n || tg.contains n) = true then st else st.set n.toNat 4).getD j 0 = st.getD j 0 := by
        split
        · rfl
        · simp only [List.getD_eq_getElem?_getD]; rw [List.getElem?_set_ne (by omega)]
      rw [e]
theorem out_eq {r : RingD} (h : okR r) (p : PlanD) : goneL (ownL (setAll 2 r.1 (ofR r 1 2), p, r.2.2)) (tgtL (setAll 2 r.1 (ofR r 1 2), p, r.2.2)) (setAll 2 r.1 (ofR r 1 2)) (ofR (setAll 2 r.1 (ofR r 1 2), p, r.2.2) 3 3) = stG (ownL r) (tgtL (r.1, p, r.2.2)) r.1 := by
  refine ext_getD 0 (by rw [goneL_len, setAll_len, h.1]; exact (tabL_len _ _).symm) fun k hk => ?_
  rw [goneL_len, setAll_len, h.1] at hk
  have hs := setAll_getD 2 (ofR r 1 2) r.1 k (fun x hx => (ofR_mem.1 hx).1) (by rw [h.1]; exact hk)
  have e1 : (ofR r 1 2).contains (k : Int) = decide (1 ≤ r.1.getD k 0 ∧ r.1.getD k 0 ≤ 2) := by
    rw [Bool.eq_iff_iff, List.contains_iff_mem, ofR_mem, decide_eq_true_iff]
    simp only [Int.toNat_natCast]
    omega
  have e2 : (ofR (setAll 2 r.1 (ofR r 1 2), p, r.2.2) 3 3).contains (k : Int) = decide (r.1.getD k 0 = 3) := by
    rw [Bool.eq_iff_iff, List.contains_iff_mem, ofR_mem, decide_eq_true_iff]
    simp only [Int.toNat_natCast]
    rw [hs, e1]
    simp only [decide_eq_true_eq]
    split <;> omega
  rw [goneL_getD _ _ _ _ _ (fun x hx => (ofR_mem.1 hx).1) (by rw [setAll_len, h.1]; exact hk), stG_getD _ _ _ hk, hs, e1, e2]
  have o1 : ownL (setAll 2 r.1 (ofR r 1 2), p, r.2.2) = ownL r := rfl
  have o2 : tgtL (setAll 2 r.1 (ofR r 1 2), p, r.2.2) = tgtL (r.1, p, r.2.2) := rfl
  rw [o1, o2]
  generalize r.1.getD k 0 = x
  cases (ownL r).contains (k : Int) || (tgtL (r.1, p, r.2.2)).contains (k : Int) <;> simp only [Bool.not_true, Bool.not_false, Bool.and_false, Bool.and_true, decide_eq_true_eq, Bool.false_eq_true, Bool.true_eq_false, and_false, and_true, if_false] <;> (repeat' split) <;> omega
end Pl
namespace Pl
open Go Sx Go.Proofs Go.RowKit
theorem ofR_len (r : RingD) (f t : Int) : (ofR r f t).length ≤ 8 := ofL_le _ _ _ _ _
theorem ofR_nn (r : RingD) (f t : Int) : ∀ x ∈ ofR r f t, 0 ≤ x ∧ x < 8 := fun x hx => ⟨(ofR_mem.1 hx).1, (ofR_mem.1 hx).2.1⟩
theorem okS {r : RingD} (h : okR r) (l : List Int) (p : PlanD) : okR (setAll 2 r.1 l, p, r.2.2) := ⟨by show (setAll 2 r.1 l).length = 8; rw [setAll_len]; exact h.1, h.2⟩
theorem asg_len {r : RingD} (now : List Int) : (asgL now (ofR r 1 2)).length ≤ 16 := by
  by_cases c : (ofR r 1 2).length = 0
  · have : memL (ofR r 1 2) = ofR r 1 2 := memL_ofR r 1 2
    unfold asgL; rw [this, if_pos c]; simp
  · rw [(asg_all c now).1]; omega
theorem stage_go {r : RingD} {s : Int} {h : List Int} {p : PlanD} (hm : mayR r = true) (hn : nodeB s = true) (hl : leadR r h = s) (hp : planS r s = (p, 0)) :
    stageR r s h = if (stG (ownL r) (tgtL (r.1, p, r.2.2)) r.1, p, r.2.2) = r then (zeroR, 9) else ((stG (ownL r) (tgtL (r.1, p, r.2.2)) r.1, p, r.2.2), 0) := by
  unfold stageR
  rw [if_neg (by simp [hm, hn]), if_neg (by simp [hl]), if_neg (by rw [hp]; simp)]
  unfold outS
  rw [hp]
theorem stage_fin {r X : RingD} {s : Int} {h : List Int} (hg : stageR r s h = if X = r then (zeroR, 9) else (X, 0)) :
    (sameR X r = true → ((List.replicate 8 (0 : Int), ((0 : Int), (0 : Int), ([] : List Int)), List.replicate 16 ((0 : Int), (0 : Int))), (9 : Int), ()) = ((stageR r s h).1, (stageR r s h).2, ())) ∧
    (sameR X r = false → ((X, 0, ()) : RingD × Int × Unit) = ((stageR r s h).1, (stageR r s h).2, ())) := by
  rw [hg]
  refine ⟨fun c => ?_, fun c => ?_⟩
  · rw [if_pos (sameR_iff.1 c)]; rfl
  · rw [if_neg (by intro e; rw [sameR_iff.2 e] at c; cases c)]
theorem stage_t (r : RingD) (s : Int) (h : List Int) (hr : okR r) (hs : (r.2.1.2.2.length : Int) < small) (hh : (h.length : Int) < big) : (fnT Y5 [(0, viaN 74 [] LSg.sp)] 100 Try.f11 [Ring, i64, ints] [Ring, i64] (r, s, h, ())).all fun y => y = ((stageR r s h).1, (stageR r s h).2, ()) := by
  refine Tree.all_eq (tSg r s h) ?_
  show Tree.all (α := RingD × Int × Unit) _ (fun y => y = ((stageR r s h).1, (stageR r s h).2, ()))
  have hs' : (r.2.1.2.2.length : Int) < 17592186044416 := hs
  have e : (r.1, r.2.1, r.2.2) = r := rfl
  have t1 : ∀ l, tab 8 (setAll 2 r.1 l) 0 = setAll 2 r.1 l := fun l => tab_eq (by rw [setAll_len]; exact hr.1)
  have t2 : ∀ ow tg l l', tab 8 (goneL ow tg (setAll 2 r.1 l) l') 0 = goneL ow tg (setAll 2 r.1 l) l' := fun ow tg l l' => tab_eq (by rw [goneL_len, setAll_len]; exact hr.1)
  have t3 : ∀ ow tg l', tab 8 (goneL ow tg r.1 l') 0 = goneL ow tg r.1 l' := fun ow tg l' => tab_eq (by rw [goneL_len]; exact hr.1)
  rw [tab_eq hr.1, tab_eq hr.2]
  simp only [e, all_leaf, all_fork, all_req, all_lt, joinR_self hr, tab_eq hr.1, tab_eq hr.2, t1, t2, t3, List.drop_zero, true_and, and_true]
  have hm8 := ofR_len r 1 2
  have hl8 : ∀ q : RingD, (ofR q 3 3).length ≤ 8 := fun q => ofR_len q 3 3
  have hnn : ∀ q : RingD, ∀ x ∈ ofR q 3 3, 0 ≤ x ∧ x < 8 := fun q => ofR_nn q 3 3
  have ow16 : ∀ q, (ownL q).length = 16 := fun q => tabL_len _ _
  have tg16 : ∀ q, (tgtL q).length = 16 := fun q => tabL_len _ _
  have asg16 := asg_len (r := r) (nowR r)
  have hm8 := ofR_len r 1 2
  have hmn := ofR_nn r 1 2
  have asg16 := asg_len (r := r) (nowR r)
  have fin : ∀ p, planS r s = (p, 0) → mayR r = true → nodeB s = true → leadR r h = s → _ := fun p hp a b d => stage_fin (stage_go a b d hp)
  refine ⟨hs', fun c => ?_, fun c => ⟨hh, fun d => ?_, fun d => ⟨⟨hs', hs'⟩, fun m0 => ?_, fun m0 => ?_⟩⟩⟩
  · have : mayR r = false ∨ nodeB s = false := by
      simp only [Bool.or_eq_true, Bool.not_eq_true', decide_eq_true_eq] at c
      rcases c with c | c | c
      · exact .inl c
      · exact .inr (by simp [nodeB]; omega)
      · exact .inr (by simp [nodeB]; omega)
    unfold stageR; rw [if_pos this]; rfl
  all_goals
    obtain ⟨c1, c2⟩ : mayR r = true ∧ nodeB s = true := by
      simp only [Bool.or_eq_false_iff, Bool.not_eq_false', decide_eq_false_iff_not] at c
      exact ⟨c.1, by simp [nodeB]; omega⟩
  · have hd : leadR r h ≠ s := by simpa using d
    unfold stageR; rw [if_neg (by simp [c1, c2]), if_pos hd]; rfl
  all_goals
    have hd : leadR r h = s := by simpa using d
  · have hm : ofR r 1 2 = [] := List.eq_nil_of_length_eq_zero (by simp only [beq_iff_eq] at m0; omega)
    have hp : planS r s = (r.2.1, 0) := by unfold planS; rw [hm]; rfl
    have hz := out_eq hr r.2.1
    rw [hm] at hz
    have hz : goneL (ownL r) (tgtL r) r.1 (ofR r 3 3) = stG (ownL r) (tgtL r) r.1 := hz
    rw [hz]
    exact ⟨hs', hs', ⟨by omega, by omega, ofR_len _ _ _, ofR_nn _ _ _⟩, ⟨hs', hs'⟩, fin _ hp c1 c2 hd⟩
  · have hm : (ofR r 1 2).length ≠ 0 := by simp only [beq_eq_false_iff_ne] at m0; omega
    refine ⟨hs', by omega, by omega, fun n1 => ⟨⟨hs', by omega⟩, fun n2 => ⟨fun n3 => ?_, fun n3 => ?_⟩, fun n2 => ?_⟩, fun n1 => ?_⟩
    · have n1 : asgL (nowR r) (ofR r 1 2) ≠ r.2.1.2.2 := by simpa using n1
      have hp : planS r s = nextP r.2.1 s (asgL (nowR r) (ofR r 1 2)) := by unfold planS; rw [if_neg hm, if_neg n1]
      unfold stageR
      rw [if_neg (by simp [c1, c2]), if_neg (by simp [hd]), hp, if_pos (by simpa using n2)]
      rfl
    · rw [n2] at n3; cases n3
    · have n1 : asgL (nowR r) (ofR r 1 2) ≠ r.2.1.2.2 := by simpa using n1
      have n2 : (nextP r.2.1 s (asgL (nowR r) (ofR r 1 2))).2 = 0 := by simpa using n2
      have hp : planS r s = ((nextP r.2.1 s (asgL (nowR r) (ofR r 1 2))).1, 0) := by
        unfold planS; rw [if_neg hm, if_neg n1]; exact Prod.ext rfl n2
      have hl : (((nextP r.2.1 s (asgL (nowR r) (ofR r 1 2))).1.2.2.length : Nat) : Int) < 17592186044416 := by
        rw [(next_zero n2).1]; show ((asgL (nowR r) (ofR r 1 2)).length : Int) < _; omega
      rw [out_eq hr]
      exact ⟨⟨by omega, by omega, hm8, hmn⟩, hl, hl, ⟨by omega, by omega, ofR_len _ _ _, ofR_nn _ _ _⟩, ⟨hl, hs'⟩, fin _ hp c1 c2 hd⟩
    · have n1 : asgL (nowR r) (ofR r 1 2) = r.2.1.2.2 := by simpa using n1
      have hp : planS r s = (r.2.1, 0) := by unfold planS; rw [if_neg hm, if_pos n1]
      rw [out_eq hr]
      exact ⟨⟨by omega, by omega, hm8, hmn⟩, hs', hs', ⟨by omega, by omega, ofR_len _ _ _, ofR_nn _ _ _⟩, ⟨hs', hs'⟩, fin _ hp c1 c2 hd⟩
theorem stage_pok : PureOK Try.prog 11 [Ring, i64, ints] [Ring, i64] (fun x => okR x.1 ∧ (List.length (α := Int) x.1.2.1.2.2 : Int) < small ∧ (List.length (α := Int) x.2.2.1 : Int) < big) (fun x => ((stageR x.1 x.2.1 x.2.2.1).1, (stageR x.1 x.2.1 x.2.2.1).2, ())) :=
  fn_pure (E := Y5) (n := 100) Y5_ok Try.func11 bodySg (LpsOK.cons (viaN_ok (lSg1 Y5_ok)) .nil) fun x h => stage_t x.1 x.2.1 x.2.2.1 h.1 h.2.1 h.2.2
end Pl
namespace Pl
open Go Sx Go.Proofs Go.RowKit
abbrev KSt : Nat × Sx.Spec := (11, pureSpL [Ring, i64, ints] [Ring, i64] (fun x => okR x.1 ∧ (List.length (α := Int) x.1.2.1.2.2 : Int) < small ∧ (List.length (α := Int) x.2.2.1 : Int) < big) (fun x => ((stageR x.1 x.2.1 x.2.2.1).1, (stageR x.1 x.2.1 x.2.2.1).2, ())))
theorem bodyAw : Try.f9.body = some (bodyOf Try.f9) := by kernel_rfl
noncomputable abbrev Z1 : Ex := mkExM Try.prog [KrFL, KrRL, KSt, KrT]
theorem Z1_ok : Z1.Sound := mkExM_sound ⟨pureSpL_ok rfirst_ok, pureSpL_ok rrise_ok, pureSpL_ok stage_pok, pureSp_ok rtarget_ok, trivial⟩
theorem tAw  : @Eq _
  (fnT Z1 [] 100 Try.f9 [] [.bool] ())
  (.req (True) (
 .lt [(Ty.rep 8 (Ty.int IntKind.i64)).cat
    (((Ty.int IntKind.i64).cat ((Ty.int IntKind.i64).cat (Ty.int IntKind.i64).slice)).cat
      (Ty.rep 16 ((Ty.int IntKind.i64).cat (Ty.int IntKind.i64)))),
  Ty.bool] ((((2 : Int) :: List.replicate 7 (0 : Int), ((0 : Int), (0 : Int), ([] : List Int)), List.replicate 16 ((1 : Int), (0 : Int))), true, ())) (fun (y1 : (List Int × (Int × Int × List Int) × List (Int × Int)) × Bool × PUnit) => (
  .req ((8 = 8 ∧ 16 = 16) ∧ (↑y1.1.2.1.2.2.length : Int) < (17592186044416 : Int)) (
   .lt [(Ty.rep 8 (Ty.int IntKind.i64)).cat
    (((Ty.int IntKind.i64).cat ((Ty.int IntKind.i64).cat (Ty.int IntKind.i64).slice)).cat
      (Ty.rep 16 ((Ty.int IntKind.i64).cat (Ty.int IntKind.i64)))),
  Ty.int IntKind.i64] (((Pl.riseR (tab 8 y1.1.1 (0 : Int), y1.1.2.1, tab 16 y1.1.2.2 ((0 : Int), (0 : Int))) (1 : Int) (1 : Int)).1, (Pl.riseR (tab 8 y1.1.1 (0 : Int), y1.1.2.1, tab 16 y1.1.2.2 ((0 : Int), (0 : Int))) (1 : Int) (1 : Int)).2, ())) (fun (y2 : (List Int × (Int × Int × List Int) × List (Int × Int)) × Int × PUnit) => (
    .req ((8 = 8 ∧ 16 = 16) ∧ (↑y2.1.2.1.2.2.length : Int) < (17592186044416 : Int) ∧ (1 : Int) < (4611686018427387904 : Int)) (
     .lt [(Ty.rep 8 (Ty.int IntKind.i64)).cat
    (((Ty.int IntKind.i64).cat ((Ty.int IntKind.i64).cat (Ty.int IntKind.i64).slice)).cat
      (Ty.rep 16 ((Ty.int IntKind.i64).cat (Ty.int IntKind.i64)))),
  Ty.int IntKind.i64] (((Pl.stageR (tab 8 y2.1.1 (0 : Int), y2.1.2.1, tab 16 y2.1.2.2 ((0 : Int), (0 : Int))) (0 : Int) [(0 : Int)]).1, (Pl.stageR (tab 8 y2.1.1 (0 : Int), y2.1.2.1, tab 16 y2.1.2.2 ((0 : Int), (0 : Int))) (0 : Int) [(0 : Int)]).2, ())) (fun (y3 : (List Int × (Int × Int × List Int) × List (Int × Int)) × Int × PUnit) => (
      .req ((8 = 8 ∧ 16 = 16) ∧ (↑y3.1.2.1.2.2.length : Int) < (17592186044416 : Int) ∧ (1 : Int) < (4611686018427387904 : Int)) (
       .lt [(Ty.rep 8 (Ty.int IntKind.i64)).cat
    (((Ty.int IntKind.i64).cat ((Ty.int IntKind.i64).cat (Ty.int IntKind.i64).slice)).cat
      (Ty.rep 16 ((Ty.int IntKind.i64).cat (Ty.int IntKind.i64)))),
  Ty.int IntKind.i64] (((Pl.stageR (tab 8 y3.1.1 (0 : Int), y3.1.2.1, tab 16 y3.1.2.2 ((0 : Int), (0 : Int))) (0 : Int) [(0 : Int)]).1, (Pl.stageR (tab 8 y3.1.1 (0 : Int), y3.1.2.1, tab 16 y3.1.2.2 ((0 : Int), (0 : Int))) (0 : Int) [(0 : Int)]).2, ())) (fun (y4 : (List Int × (Int × Int × List Int) × List (Int × Int)) × Int × PUnit) => (
        .req ((y3.2.1 == (0 : Int)) = true → conjP (((y3.1.2.1.1 == (1 : Int)) = true → conjP (((y3.1.1.getD 1 (0 : Int) == (2 : Int)) = true → conjP (((8 = 8 ∧ 16 = 16) ∧ (↑y3.1.2.1.2.2.length : Int) < (17592186044416 : Int)) :: ([] : List Prop))) :: ([] : List Prop))) :: ([] : List Prop))) (
         .leaf ((y3.2.1 == (0 : Int) && (y3.1.2.1.1 == (1 : Int) && (y3.1.1.getD 1 (0 : Int) == (2 : Int) && (Pl.targetR (tab 8 y3.1.1 (0 : Int), y3.1.2.1, tab 16 y3.1.2.2 ((0 : Int), (0 : Int))) (8 : Int) == (1 : Int) && y4.2.1 == (9 : Int)))), ()))))))))))))))) : Tree (Bool × PUnit)) := by kernel_rfl
theorem aw_ok : PureOK Try.prog 9 [] [.bool] (fun _ => True) (fun _ => (true, ())) :=
  fn_pure (E := Z1) (n := 100) Z1_ok Try.func9 bodyAw .nil fun x _ => by
    refine Tree.all_eq tAw ?_
    show Tree.all (α := Bool × Unit) _ (fun y => y = (true, ()))
    simp only [all_leaf, all_req, all_lt, true_and, conjP]
    refine ⟨of_decide_eq_true (by kernel_rfl), of_decide_eq_true (by kernel_rfl), of_decide_eq_true (by kernel_rfl), fun _ _ _ => of_decide_eq_true (by kernel_rfl), ?_⟩
    exact Prod.ext (by kernel_rfl) rfl
abbrev KAw : Nat × Sx.Spec := (9, pureSp [] [.bool] (fun _ => True) (fun _ => (true, ())))
noncomputable abbrev Z2 : Ex := mkExM Try.prog [KAw, KHv, KLe]
theorem Z2_ok : Z2.Sound := mkExM_sound ⟨pureSp_ok aw_ok, fnI_ok (E := E0) E0_ok Try.func8 bodyH .nil, pureSp_ok leader_ok, trivial⟩
theorem bodyL1 : Try.f3.body = some (bodyOf Try.f3) := by kernel_rfl
def lowB (st : List Int) (n x : Int) : Bool := decide (x ≥ 0) && (decide (x < n) && (st.getD x.toNat 0 == 2 || st.getD x.toNat 0 == 3))
structure AL1 where
  r : RingD
  h : List Int
  m : Int
  n : Int
  i : Int
  b : Bool
def LL1 : LoopC AL1 where
  n0 := 6
  det st := match datG st 2 0 Ring, rowS st 50 i64, intS st 8, intS st 7, intS st 52, boolS st 9 with | some r, some h, some n0, some n1, some i2, some b3 => some ⟨r, h, n0, n1, i2, b3⟩ | _, _, _, _, _, _ => none
  inv a := ⟨[(52, iv a.i), (51, iv (↑a.h.length : Int)), (50, .one (.row 1)), (9, .one (.bool a.b)), (8, iv a.m), (7, iv a.n), (3, .one (.ptr 2 0))],
    [(2, .blk (rgC a.r 0)), (0, .ro i64 a.r.2.1.2.2), (1, .ro i64 a.h)], 6⟩
  ok a := okR a.r ∧ 0 ≤ a.i ∧ a.i ≤ a.h.length ∧ (a.h.length : Int) < big ∧ 0 ≤ a.n ∧ a.n < 8
  mu a := a.h.length - a.i.toNat
  fin a := .fork ((a.h.drop a.i.toNat).any (lowB a.r.1 a.n)) (.leaf ⟨1, ⟨[(6, .one (.cbool false))], [], 6⟩⟩) (.leaf ⟨2, ⟨[(9, .one (.bool (a.b || (a.h.drop a.i.toNat).any (fun x => x == a.n)))), (8, iv a.m), (7, iv a.n)], [], 6⟩⟩)
theorem rL1 (r : RingD) (h : List Int) (m n i : Int) (b : Bool) : @Eq _
  (LL1.round Z2 [] 100 Try.f3 0 ⟨r, h, m, n, i, b⟩)
  (.fork (decide (i < (↑h.length : Int))) (
 .req ((0 : Int) ≤ i ∧ i < (↑h.length : Int)) (
  .req ((0 : Int) ≤ i ∧ i < (↑h.length : Int)) (
   .req (True) (
    .req (decide (h.getD i.toNat (0 : Int) ≥ (0 : Int)) = true → conjP ((decide (h.getD i.toNat (0 : Int) < n) = true → conjP [(0 : Int) ≤ h.getD i.toNat (0 : Int) ∧ h.getD i.toNat (0 : Int) < (8 : Int), (0 : Int) ≤ h.getD i.toNat (0 : Int) ∧ h.getD i.toNat (0 : Int) < (8 : Int), ((tab 8 r.1 (0 : Int)).getD (h.getD i.toNat (0 : Int)).toNat (0 : Int) == (2 : Int)) = false → conjP [(0 : Int) ≤ h.getD i.toNat (0 : Int) ∧ h.getD i.toNat (0 : Int) < (8 : Int), (0 : Int) ≤ h.getD i.toNat (0 : Int) ∧ h.getD i.toNat (0 : Int) < (8 : Int)]]) :: ([] : List Prop))) (
     .fork (decide (h.getD i.toNat (0 : Int) ≥ (0 : Int)) && (decide (h.getD i.toNat (0 : Int) < n) && ((tab 8 r.1 (0 : Int)).getD (h.getD i.toNat (0 : Int)).toNat (0 : Int) == (2 : Int) || (tab 8 r.1 (0 : Int)).getD (h.getD i.toNat (0 : Int)).toNat (0 : Int) == (3 : Int)))) (
      .fork ((List.drop i.toNat h).any (Pl.lowB r.1 n)) (
       .req (True) (
        .leaf (Option.none))) (
       .req (False) (
        .leaf (Option.none)))) (
      .req (IntKind.i64.wrap (i + (1 : Int)) = IntKind.i64.wrap (i + (1 : Int)) ∧ (↑h.length : Int) = (↑h.length : Int) ∧ (b || h.getD i.toNat (0 : Int) == n) = (b || h.getD i.toNat (0 : Int) == n) ∧ m = m ∧ n = n ∧ r.1.getD 0 (0 : Int) = (tab 8 r.1 (0 : Int)).getD 0 (0 : Int) ∧ r.1.getD 1 (0 : Int) = (tab 8 r.1 (0 : Int)).getD 1 (0 : Int) ∧ r.1.getD 2 (0 : Int) = (tab 8 r.1 (0 : Int)).getD 2 (0 : Int) ∧ r.1.getD 3 (0 : Int) = (tab 8 r.1 (0 : Int)).getD 3 (0 : Int) ∧ r.1.getD 4 (0 : Int) = (tab 8 r.1 (0 : Int)).getD 4 (0 : Int) ∧ r.1.getD 5 (0 : Int) = (tab 8 r.1 (0 : Int)).getD 5 (0 : Int) ∧ r.1.getD 6 (0 : Int) = (tab 8 r.1 (0 : Int)).getD 6 (0 : Int) ∧ r.1.getD 7 (0 : Int) = (tab 8 r.1 (0 : Int)).getD 7 (0 : Int) ∧ r.2.1.1 = r.2.1.1 ∧ r.2.1.2.1 = r.2.1.2.1 ∧ (r.2.2.getD 0 ((0 : Int), (0 : Int))).1 = (r.2.2.getD 0 ((0 : Int), (0 : Int))).1 ∧ (r.2.2.getD 0 ((0 : Int), (0 : Int))).2 = (r.2.2.getD 0 ((0 : Int), (0 : Int))).2 ∧ (r.2.2.getD 1 ((0 : Int), (0 : Int))).1 = (r.2.2.getD 1 ((0 : Int), (0 : Int))).1 ∧ (r.2.2.getD 1 ((0 : Int), (0 : Int))).2 = (r.2.2.getD 1 ((0 : Int), (0 : Int))).2 ∧ (r.2.2.getD 2 ((0 : Int), (0 : Int))).1 = (r.2.2.getD 2 ((0 : Int), (0 : Int))).1 ∧ (r.2.2.getD 2 ((0 : Int), (0 : Int))).2 = (r.2.2.getD 2 ((0 : Int), (0 : Int))).2 ∧ (r.2.2.getD 3 ((0 : Int), (0 : Int))).1 = (r.2.2.getD 3 ((0 : Int), (0 : Int))).1 ∧ (r.2.2.getD 3 ((0 : Int), (0 : Int))).2 = (r.2.2.getD 3 ((0 : Int), (0 : Int))).2 ∧ (r.2.2.getD 4 ((0 : Int), (0 : Int))).1 = (r.2.2.getD 4 ((0 : Int), (0 : Int))).1 ∧ (r.2.2.getD 4 ((0 : Int), (0 : Int))).2 = (r.2.2.getD 4 ((0 : Int), (0 : Int))).2 ∧ (r.2.2.getD 5 ((0 : Int), (0 : Int))).1 = (r.2.2.getD 5 ((0 : Int), (0 : Int))).1 ∧ (r.2.2.getD 5 ((0 : Int), (0 : Int))).2 = (r.2.2.getD 5 ((0 : Int), (0 : Int))).2 ∧ (r.2.2.getD 6 ((0 : Int), (0 : Int))).1 = (r.2.2.getD 6 ((0 : Int), (0 : Int))).1 ∧ (r.2.2.getD 6 ((0 : Int), (0 : Int))).2 = (r.2.2.getD 6 ((0 : Int), (0 : Int))).2 ∧ (r.2.2.getD 7 ((0 : Int), (0 : Int))).1 = (r.2.2.getD 7 ((0 : Int), (0 : Int))).1 ∧ (r.2.2.getD 7 ((0 : Int), (0 : Int))).2 = (r.2.2.getD 7 ((0 : Int), (0 : Int))).2 ∧ (r.2.2.getD 8 ((0 : Int), (0 : Int))).1 = (r.2.2.getD 8 ((0 : Int), (0 : Int))).1 ∧ (r.2.2.getD 8 ((0 : Int), (0 : Int))).2 = (r.2.2.getD 8 ((0 : Int), (0 : Int))).2 ∧ (r.2.2.getD 9 ((0 : Int), (0 : Int))).1 = (r.2.2.getD 9 ((0 : Int), (0 : Int))).1 ∧ (r.2.2.getD 9 ((0 : Int), (0 : Int))).2 = (r.2.2.getD 9 ((0 : Int), (0 : Int))).2 ∧ (r.2.2.getD 10 ((0 : Int), (0 : Int))).1 = (r.2.2.getD 10 ((0 : Int), (0 : Int))).1 ∧ (r.2.2.getD 10 ((0 : Int), (0 : Int))).2 = (r.2.2.getD 10 ((0 : Int), (0 : Int))).2 ∧ (r.2.2.getD 11 ((0 : Int), (0 : Int))).1 = (r.2.2.getD 11 ((0 : Int), (0 : Int))).1 ∧ (r.2.2.getD 11 ((0 : Int), (0 : Int))).2 = (r.2.2.getD 11 ((0 : Int), (0 : Int))).2 ∧ (r.2.2.getD 12 ((0 : Int), (0 : Int))).1 = (r.2.2.getD 12 ((0 : Int), (0 : Int))).1 ∧ (r.2.2.getD 12 ((0 : Int), (0 : Int))).2 = (r.2.2.getD 12 ((0 : Int), (0 : Int))).2 ∧ (r.2.2.getD 13 ((0 : Int), (0 : Int))).1 = (r.2.2.getD 13 ((0 : Int), (0 : Int))).1 ∧ (r.2.2.getD 13 ((0 : Int), (0 : Int))).2 = (r.2.2.getD 13 ((0 : Int), (0 : Int))).2 ∧ (r.2.2.getD 14 ((0 : Int), (0 : Int))).1 = (r.2.2.getD 14 ((0 : Int), (0 : Int))).1 ∧ (r.2.2.getD 14 ((0 : Int), (0 : Int))).2 = (r.2.2.getD 14 ((0 : Int), (0 : Int))).2 ∧ (r.2.2.getD 15 ((0 : Int), (0 : Int))).1 = (r.2.2.getD 15 ((0 : Int), (0 : Int))).1 ∧ (r.2.2.getD 15 ((0 : Int), (0 : Int))).2 = (r.2.2.getD 15 ((0 : Int), (0 : Int))).2 ∧ r.2.1.2.2 = r.2.1.2.2 ∧ h = h) (
       .leaf (Option.some { r := (tab 8 r.1 (0 : Int), r.2.1, tab 16 r.2.2 ((0 : Int), (0 : Int))), h := h, m := m, n := n, i := IntKind.i64.wrap (i + (1 : Int)), b := b || h.getD i.toNat (0 : Int) == n })))))))) (
 .fork ((List.drop i.toNat h).any (Pl.lowB r.1 n)) (
  .req (False) (
   .leaf (Option.none))) (
  .req (b = (b || (List.drop i.toNat h).any fun x => x == n) ∧ m = m ∧ n = n) (
   .leaf (Option.none)))) : Tree (Option Pl.AL1)) := by kernel_rfl
theorem tL1 (r : RingD) (h : List Int) (c : Int) : @Eq _
  (fnT Z2 [(0, LL1.sp)] 100 Try.f3 [Ring, ints, i64] [.bool] (r, h, c, ()))
  (.fork (decide ((↑r.2.1.2.2.length : Int) > (100 : Int))) (
 .req (True) (
  .leaf ((true, ())))) (
 .fork (decide ((↑h.length : Int) > (60 : Int))) (
  .req (True) (
   .leaf ((true, ())))) (
  .req ((8 = 8 ∧ 16 = 16) ∧ (↑h.length : Int) < (4611686018427387904 : Int)) (
   .req (IntKind.u64.wrap (IntKind.i64.wrap ((↑h.length : Int) + (1 : Int))) ≠ (0 : Int)) (
    .req ((0 : Int) ≤ (0 : Int) ∧ (0 : Int) ≤ IntKind.i64.wrap ((IntKind.u64.wrap c).tmod (IntKind.u64.wrap (IntKind.i64.wrap ((↑h.length : Int) + (1 : Int))))) ∧ IntKind.i64.wrap ((IntKind.u64.wrap c).tmod (IntKind.u64.wrap (IntKind.i64.wrap ((↑h.length : Int) + (1 : Int))))) ≤ (↑h.length : Int)) (
     .req ((8 = 8 ∧ 16 = 16) ∧ (↑(List.take ((IntKind.i64.wrap ((IntKind.u64.wrap c).tmod (IntKind.u64.wrap (IntKind.i64.wrap ((↑h.length : Int) + (1 : Int)))))).toNat - 0) h).length : Int) < (4611686018427387904 : Int)) (
      .fork (Pl.leadR (tab 8 r.1 (0 : Int), r.2.1, tab 16 r.2.2 ((0 : Int), (0 : Int))) h == (-1 : Int)) (
       .req ((Pl.leadR (tab 8 r.1 (0 : Int), r.2.1, tab 16 r.2.2 ((0 : Int), (0 : Int))) (List.take ((IntKind.i64.wrap ((IntKind.u64.wrap c).tmod (IntKind.u64.wrap (IntKind.i64.wrap ((↑h.length : Int) + (1 : Int)))))).toNat - 0) h) == (-1 : Int)) = true → conjP [True]) (
        .leaf ((Pl.leadR (tab 8 r.1 (0 : Int), r.2.1, tab 16 r.2.2 ((0 : Int), (0 : Int))) (List.take ((IntKind.i64.wrap ((IntKind.u64.wrap c).tmod (IntKind.u64.wrap (IntKind.i64.wrap ((↑h.length : Int) + (1 : Int)))))).toNat - 0) h) == (-1 : Int) && true, ())))) (
       .req (True) (
        .fork (decide (Pl.leadR (tab 8 r.1 (0 : Int), r.2.1, tab 16 r.2.2 ((0 : Int), (0 : Int))) h < (0 : Int)) || decide (Pl.leadR (tab 8 r.1 (0 : Int), r.2.1, tab 16 r.2.2 ((0 : Int), (0 : Int))) h ≥ (8 : Int))) (
         .leaf ((false, ()))) (
         .req ((8 = 8 ∧ 16 = 16) ∧ (0 : Int) ≤ (0 : Int) ∧ (0 : Int) ≤ (↑h.length : Int) ∧ (↑h.length : Int) < (4611686018427387904 : Int) ∧ (0 : Int) ≤ Pl.leadR (tab 8 r.1 (0 : Int), r.2.1, tab 16 r.2.2 ((0 : Int), (0 : Int))) h ∧ Pl.leadR (tab 8 r.1 (0 : Int), r.2.1, tab 16 r.2.2 ((0 : Int), (0 : Int))) h < (8 : Int)) (
          .req ((0 : Int) = (0 : Int) ∧ (↑h.length : Int) = (↑h.length : Int) ∧ false = false ∧ Pl.leadR (tab 8 r.1 (0 : Int), r.2.1, tab 16 r.2.2 ((0 : Int), (0 : Int))) (List.take ((IntKind.i64.wrap ((IntKind.u64.wrap c).tmod (IntKind.u64.wrap (IntKind.i64.wrap ((↑h.length : Int) + (1 : Int)))))).toNat - 0) h) = Pl.leadR (tab 8 r.1 (0 : Int), r.2.1, tab 16 r.2.2 ((0 : Int), (0 : Int))) (List.take ((IntKind.i64.wrap ((IntKind.u64.wrap c).tmod (IntKind.u64.wrap (IntKind.i64.wrap ((↑h.length : Int) + (1 : Int)))))).toNat - 0) h) ∧ Pl.leadR (tab 8 r.1 (0 : Int), r.2.1, tab 16 r.2.2 ((0 : Int), (0 : Int))) h = Pl.leadR (tab 8 r.1 (0 : Int), r.2.1, tab 16 r.2.2 ((0 : Int), (0 : Int))) h ∧ r.1.getD 0 (0 : Int) = (tab 8 r.1 (0 : Int)).getD 0 (0 : Int) ∧ r.1.getD 1 (0 : Int) = (tab 8 r.1 (0 : Int)).getD 1 (0 : Int) ∧ r.1.getD 2 (0 : Int) = (tab 8 r.1 (0 : Int)).getD 2 (0 : Int) ∧ r.1.getD 3 (0 : Int) = (tab 8 r.1 (0 : Int)).getD 3 (0 : Int) ∧ r.1.getD 4 (0 : Int) = (tab 8 r.1 (0 : Int)).getD 4 (0 : Int) ∧ r.1.getD 5 (0 : Int) = (tab 8 r.1 (0 : Int)).getD 5 (0 : Int) ∧ r.1.getD 6 (0 : Int) = (tab 8 r.1 (0 : Int)).getD 6 (0 : Int) ∧ r.1.getD 7 (0 : Int) = (tab 8 r.1 (0 : Int)).getD 7 (0 : Int) ∧ r.2.1.1 = r.2.1.1 ∧ r.2.1.2.1 = r.2.1.2.1 ∧ (r.2.2.getD 0 ((0 : Int), (0 : Int))).1 = (r.2.2.getD 0 ((0 : Int), (0 : Int))).1 ∧ (r.2.2.getD 0 ((0 : Int), (0 : Int))).2 = (r.2.2.getD 0 ((0 : Int), (0 : Int))).2 ∧ (r.2.2.getD 1 ((0 : Int), (0 : Int))).1 = (r.2.2.getD 1 ((0 : Int), (0 : Int))).1 ∧ (r.2.2.getD 1 ((0 : Int), (0 : Int))).2 = (r.2.2.getD 1 ((0 : Int), (0 : Int))).2 ∧ (r.2.2.getD 2 ((0 : Int), (0 : Int))).1 = (r.2.2.getD 2 ((0 : Int), (0 : Int))).1 ∧ (r.2.2.getD 2 ((0 : Int), (0 : Int))).2 = (r.2.2.getD 2 ((0 : Int), (0 : Int))).2 ∧ (r.2.2.getD 3 ((0 : Int), (0 : Int))).1 = (r.2.2.getD 3 ((0 : Int), (0 : Int))).1 ∧ (r.2.2.getD 3 ((0 : Int), (0 : Int))).2 = (r.2.2.getD 3 ((0 : Int), (0 : Int))).2 ∧ (r.2.2.getD 4 ((0 : Int), (0 : Int))).1 = (r.2.2.getD 4 ((0 : Int), (0 : Int))).1 ∧ (r.2.2.getD 4 ((0 : Int), (0 : Int))).2 = (r.2.2.getD 4 ((0 : Int), (0 : Int))).2 ∧ (r.2.2.getD 5 ((0 : Int), (0 : Int))).1 = (r.2.2.getD 5 ((0 : Int), (0 : Int))).1 ∧ (r.2.2.getD 5 ((0 : Int), (0 : Int))).2 = (r.2.2.getD 5 ((0 : Int), (0 : Int))).2 ∧ (r.2.2.getD 6 ((0 : Int), (0 : Int))).1 = (r.2.2.getD 6 ((0 : Int), (0 : Int))).1 ∧ (r.2.2.getD 6 ((0 : Int), (0 : Int))).2 = (r.2.2.getD 6 ((0 : Int), (0 : Int))).2 ∧ (r.2.2.getD 7 ((0 : Int), (0 : Int))).1 = (r.2.2.getD 7 ((0 : Int), (0 : Int))).1 ∧ (r.2.2.getD 7 ((0 : Int), (0 : Int))).2 = (r.2.2.getD 7 ((0 : Int), (0 : Int))).2 ∧ (r.2.2.getD 8 ((0 : Int), (0 : Int))).1 = (r.2.2.getD 8 ((0 : Int), (0 : Int))).1 ∧ (r.2.2.getD 8 ((0 : Int), (0 : Int))).2 = (r.2.2.getD 8 ((0 : Int), (0 : Int))).2 ∧ (r.2.2.getD 9 ((0 : Int), (0 : Int))).1 = (r.2.2.getD 9 ((0 : Int), (0 : Int))).1 ∧ (r.2.2.getD 9 ((0 : Int), (0 : Int))).2 = (r.2.2.getD 9 ((0 : Int), (0 : Int))).2 ∧ (r.2.2.getD 10 ((0 : Int), (0 : Int))).1 = (r.2.2.getD 10 ((0 : Int), (0 : Int))).1 ∧ (r.2.2.getD 10 ((0 : Int), (0 : Int))).2 = (r.2.2.getD 10 ((0 : Int), (0 : Int))).2 ∧ (r.2.2.getD 11 ((0 : Int), (0 : Int))).1 = (r.2.2.getD 11 ((0 : Int), (0 : Int))).1 ∧ (r.2.2.getD 11 ((0 : Int), (0 : Int))).2 = (r.2.2.getD 11 ((0 : Int), (0 : Int))).2 ∧ (r.2.2.getD 12 ((0 : Int), (0 : Int))).1 = (r.2.2.getD 12 ((0 : Int), (0 : Int))).1 ∧ (r.2.2.getD 12 ((0 : Int), (0 : Int))).2 = (r.2.2.getD 12 ((0 : Int), (0 : Int))).2 ∧ (r.2.2.getD 13 ((0 : Int), (0 : Int))).1 = (r.2.2.getD 13 ((0 : Int), (0 : Int))).1 ∧ (r.2.2.getD 13 ((0 : Int), (0 : Int))).2 = (r.2.2.getD 13 ((0 : Int), (0 : Int))).2 ∧ (r.2.2.getD 14 ((0 : Int), (0 : Int))).1 = (r.2.2.getD 14 ((0 : Int), (0 : Int))).1 ∧ (r.2.2.getD 14 ((0 : Int), (0 : Int))).2 = (r.2.2.getD 14 ((0 : Int), (0 : Int))).2 ∧ (r.2.2.getD 15 ((0 : Int), (0 : Int))).1 = (r.2.2.getD 15 ((0 : Int), (0 : Int))).1 ∧ (r.2.2.getD 15 ((0 : Int), (0 : Int))).2 = (r.2.2.getD 15 ((0 : Int), (0 : Int))).2 ∧ r.2.1.2.2 = r.2.1.2.2 ∧ h = h) (
           .fork (h.any (Pl.lowB (tab 8 r.1 (0 : Int)) (Pl.leadR (tab 8 r.1 (0 : Int), r.2.1, tab 16 r.2.2 ((0 : Int), (0 : Int))) h))) (
            .leaf ((false, ()))) (
            .req ((h.any fun x => x == Pl.leadR (tab 8 r.1 (0 : Int), r.2.1, tab 16 r.2.2 ((0 : Int), (0 : Int))) h) = true → conjP ((decide (Pl.leadR (tab 8 r.1 (0 : Int), r.2.1, tab 16 r.2.2 ((0 : Int), (0 : Int))) h < (8 : Int)) = true → conjP [(Pl.leadR (tab 8 r.1 (0 : Int), r.2.1, tab 16 r.2.2 ((0 : Int), (0 : Int))) (List.take ((IntKind.i64.wrap ((IntKind.u64.wrap c).tmod (IntKind.u64.wrap (IntKind.i64.wrap ((↑h.length : Int) + (1 : Int)))))).toNat - 0) h) == (-1 : Int)) = true → conjP [True], (Pl.leadR (tab 8 r.1 (0 : Int), r.2.1, tab 16 r.2.2 ((0 : Int), (0 : Int))) (List.take ((IntKind.i64.wrap ((IntKind.u64.wrap c).tmod (IntKind.u64.wrap (IntKind.i64.wrap ((↑h.length : Int) + (1 : Int)))))).toNat - 0) h) == (-1 : Int)) = false → conjP ((decide (Pl.leadR (tab 8 r.1 (0 : Int), r.2.1, tab 16 r.2.2 ((0 : Int), (0 : Int))) (List.take ((IntKind.i64.wrap ((IntKind.u64.wrap c).tmod (IntKind.u64.wrap (IntKind.i64.wrap ((↑h.length : Int) + (1 : Int)))))).toNat - 0) h) ≥ Pl.leadR (tab 8 r.1 (0 : Int), r.2.1, tab 16 r.2.2 ((0 : Int), (0 : Int))) h) = true → conjP [True]) :: ([] : List Prop))]) :: ([] : List Prop))) (
             .leaf (((h.any fun x => x == Pl.leadR (tab 8 r.1 (0 : Int), r.2.1, tab 16 r.2.2 ((0 : Int), (0 : Int))) h) && (decide (Pl.leadR (tab 8 r.1 (0 : Int), r.2.1, tab 16 r.2.2 ((0 : Int), (0 : Int))) h < (8 : Int)) && bif Pl.leadR (tab 8 r.1 (0 : Int), r.2.1, tab 16 r.2.2 ((0 : Int), (0 : Int))) (List.take ((IntKind.i64.wrap ((IntKind.u64.wrap c).tmod (IntKind.u64.wrap (IntKind.i64.wrap ((↑h.length : Int) + (1 : Int)))))).toNat - 0) h) == (-1 : Int) then true else decide (Pl.leadR (tab 8 r.1 (0 : Int), r.2.1, tab 16 r.2.2 ((0 : Int), (0 : Int))) (List.take ((IntKind.i64.wrap ((IntKind.u64.wrap c).tmod (IntKind.u64.wrap (IntKind.i64.wrap ((↑h.length : Int) + (1 : Int)))))).toNat - 0) h) ≥ Pl.leadR (tab 8 r.1 (0 : Int), r.2.1, tab 16 r.2.2 ((0 : Int), (0 : Int))) h) && true), ()))))))))))))))) : Tree (Bool × PUnit)) := by kernel_rfl
end Pl
namespace Pl
open Go Sx Go.Proofs Go.RowKit
theorem leadL_spec (h : List Int) (f : Nat → Bool) : ∀ c j, (leadL h (fltB f c j) = -1 ∧ ∀ k, j ≤ k → k < j + c → f k = true → (k : Int) ∉ h) ∨ (∃ k, j ≤ k ∧ k < j + c ∧ f k = true ∧ (k : Int) ∈ h ∧ leadL h (fltB f c j) = k ∧ ∀ i, j ≤ i → i < k → f i = true → (i : Int) ∉ h)
  | 0, j => .inl ⟨rfl, fun k a b => by omega⟩
  | c + 1, j => by
    simp only [fltB]
    by_cases hf : f j = true
    · rw [if_pos hf]
      by_cases hh : h.contains (j : Int) = true
      · refine .inr ⟨j, Nat.le_refl _, by omega, hf, List.contains_iff_mem.1 hh, by rw [leadL, if_pos hh], fun i a b => by omega⟩
      · rw [leadL, if_neg hh]
        have hn : (j : Int) ∉ h := fun m => hh (List.contains_iff_mem.2 m)
        rcases leadL_spec h f c (j + 1) with ⟨a, b⟩ | ⟨k, a1, a2, a3, a4, a5, a6⟩
        · refine .inl ⟨a, fun k k1 k2 k3 => ?_⟩
          by_cases e : k = j
          · rw [e]; exact hn
          · exact b k (by omega) (by omega) k3
        · refine .inr ⟨k, by omega, by omega, a3, a4, a5, fun i i1 i2 i3 => ?_⟩
          by_cases e : i = j
          · rw [e]; exact hn
          · exact a6 i (by omega) i2 i3
    · rw [if_neg hf]
      rcases leadL_spec h f c (j + 1) with ⟨a, b⟩ | ⟨k, a1, a2, a3, a4, a5, a6⟩
      · refine .inl ⟨a, fun k k1 k2 k3 => ?_⟩
        by_cases e : k = j
        · subst e; exact absurd k3 hf
        · exact b k (by omega) (by omega) k3
      · refine .inr ⟨k, by omega, by omega, a3, a4, a5, fun i i1 i2 i3 => ?_⟩
        by_cases e : i = j
        · subst e; exact absurd i3 hf
        · exact a6 i (by omega) i2 i3
theorem leadR_spec (r : RingD) (h : List Int) : (leadR r h = -1 ∧ ∀ x ∈ h, 0 ≤ x → x < 8 → ¬ (2 ≤ r.1.getD x.toNat 0 ∧ r.1.getD x.toNat 0 ≤ 3)) ∨
    (0 ≤ leadR r h ∧ leadR r h < 8 ∧ leadR r h ∈ h ∧ 2 ≤ r.1.getD (leadR r h).toNat 0 ∧ r.1.getD (leadR r h).toNat 0 ≤ 3 ∧ ∀ x ∈ h, 0 ≤ x → x < leadR r h → ¬ (2 ≤ r.1.getD x.toNat 0 ∧ r.1.getD x.toNat 0 ≤ 3)) := by
  have e : leadR r h = leadL h (fltB (fun k => decide (r.1.getD k 0 ≥ 2) && decide (r.1.getD k 0 ≤ 3)) 8 0) := by
    unfold leadR ofR; rw [ofL_flt]
  rcases leadL_spec h (fun k => decide (r.1.getD k 0 ≥ 2) && decide (r.1.getD k 0 ≤ 3)) 8 0 with ⟨a, b⟩ | ⟨k, a1, a2, a3, a4, a5, a6⟩
  · refine .inl ⟨by rw [e, a], fun x hx h0 h8 hst => b x.toNat (by omega) (by omega) ?_ ?_⟩
    · simp only [Bool.and_eq_true, decide_eq_true_eq]; exact hst
    · rw [Int.toNat_of_nonneg h0]; exact hx
  · rw [a5] at e
    refine .inr ⟨by omega, by omega, by rw [e]; exact a4, ?_, ?_, fun x hx h0 h8 hst => a6 x.toNat (by omega) (by omega) ?_ ?_⟩
    · rw [e, Int.toNat_natCast]; simp only [Bool.and_eq_true, decide_eq_true_eq] at a3; exact a3.1
    · rw [e, Int.toNat_natCast]; simp only [Bool.and_eq_true, decide_eq_true_eq] at a3; exact a3.2
    · simp only [Bool.and_eq_true, decide_eq_true_eq]; exact hst
    · rw [Int.toNat_of_nonneg h0]; exact hx
theorem any_cons {α : Type} {l : List α} {i : Int} (z : α) (f : α → Bool) (h0 : 0 ≤ i) (h1 : i < l.length) : (l.drop i.toNat).any f = (f (l.getD i.toNat z) || (l.drop (i + 1).toNat).any f) := by
  rw [drop_cons z h0 h1, List.any_cons]
theorem lL1 : LpsOK Try.prog Try.f3 [(0, LL1.sp)] := by
  refine .cons (LL1.sound Z2_ok (lps := []) (n := 100) (inner rfl) (fun _ => rfl) ?_) .nil
  rintro ⟨r, h, m, n, i, b⟩ ⟨h1, h2, h3, h4, h5, h6⟩
  simp only at h1 h2 h3 h4 h5 h6
  have h4' : (h.length : Int) < 4611686018427387904 := h4
  rw [rL1, tab_eq h1.1]
  rw [tab_eq h1.2]
  have hlow : ∀ x, (decide (x ≥ 0) && (decide (x < n) && (r.1.getD x.toNat 0 == 2 || r.1.getD x.toNat 0 == 3))) = lowB r.1 n x := fun _ => rfl
  simp only [all_leaf, all_fork, all_req, and_true, true_and, conjP, hlow, decide_eq_true_eq, decide_eq_false_iff_not]
  refine ⟨fun c => ⟨⟨h2, c⟩, ⟨h2, c⟩, ?_, fun d => ⟨fun e => ?_, fun e => ?_⟩, fun d => ?_⟩, fun c => ⟨fun e => ?_, fun e => ⟨?_, ?_⟩⟩⟩
  · exact fun a b => ⟨⟨a, by omega⟩, ⟨a, by omega⟩, fun _ => ⟨⟨a, by omega⟩, ⟨a, by omega⟩⟩⟩
  · trivial
  · rw [any_cons 0 _ h2 c, d, Bool.true_or] at e; cases e
  · rw [i64_inc (by omega) (by omega)]
    refine ⟨⟨h1, by dsimp only; omega, by dsimp only; omega, h4, h5, h6⟩, by simp only [LL1]; omega, ?_⟩
    simp only [LL1]
    rw [any_cons 0 _ h2 c, any_cons (l := h) 0 (fun x => x == n) h2 c, d, Bool.false_or, Bool.or_assoc]
  · rw [drop_end c] at e; cases e
  · rw [drop_end c]; simp
  · trivial
theorem one_t (r : RingD) (h : List Int) (c : Int) (hr : okR r) : (fnT Z2 [(0, LL1.sp)] 100 Try.f3 [Ring, ints, i64] [.bool] (r, h, c, ())).all fun y => y = (true, ()) := by
  refine Tree.all_eq (tL1 r h c) ?_
  show Tree.all (α := Bool × Unit) _ Yes
  rw [tab_eq hr.1, tab_eq hr.2]
  have e : (r.1, r.2.1, r.2.2) = r := rfl
  simp only [e, all_leaf, all_fork, all_req, and_true, true_and, conjP, yes_t, yes_f, yes_iff, decide_eq_true_eq, decide_eq_false_iff_not, implies_true, Nat.sub_zero]
  intro _ hh
  have w1 : IntKind.i64.wrap ((h.length : Int) + 1) = (h.length : Int) + 1 := IntWalk.i64_in _ (by omega)
  have w2 : IntKind.u64.wrap ((h.length : Int) + 1) = (h.length : Int) + 1 := IntWalk.u64_in _ (by omega)
  rw [w1, w2]
  obtain ⟨k, hk, k0, k1⟩ := umod c ((h.length : Int) + 1) (by omega) (by omega)
  rw [hk]
  have hsub : ∀ x, x ∈ h.take k.toNat → x ∈ h := fun x hx => List.mem_of_mem_take hx
  have hlen : (h.take k.toNat).length ≤ h.length := by simp; omega
  have s1 := leadR_spec r h
  have s2 := leadR_spec r (h.take k.toNat)
  generalize h.take k.toNat = h' at *
  refine ⟨by omega, by omega, ⟨by omega, k0, by omega⟩, by omega, fun n1 => ?_, fun n1 => ?_⟩
  · rw [beq_iff_eq] at n1
    rcases s1 with ⟨_, s1⟩ | ⟨s1, _⟩
    · rcases s2 with ⟨s2, _⟩ | ⟨a1, a2, a3, a4, a5, _⟩
      · rw [s2]; rfl
      · exact absurd ⟨a4, a5⟩ (s1 _ (hsub _ a3) a1 a2)
    · omega
  · rw [beq_eq_false_iff_ne] at n1
    rcases s1 with ⟨s1, _⟩ | ⟨a1, a2, a3, a4, a5, a6⟩
    · exact absurd s1 n1
    · refine ⟨fun n2 => ?_, fun n2 => ⟨⟨by omega, by omega, by omega, a1, a2⟩, fun n3 => ?_, fun n3 => ?_⟩⟩
      · simp only [Bool.or_eq_true, decide_eq_true_eq] at n2; omega
      · exfalso
        rw [List.any_eq_true] at n3
        obtain ⟨x, hx, hl⟩ := n3
        simp only [lowB, Bool.and_eq_true, decide_eq_true_eq, Bool.or_eq_true, beq_iff_eq] at hl
        exact a6 x hx hl.1 hl.2.1 (by omega)
      · have b1 : (h.any fun x => x == leadR r h) = true := List.any_eq_true.2 ⟨_, a3, by simp⟩
        have b2 : decide (leadR r h < 8) = true := decide_eq_true a2
        rw [b1, b2]
        simp only [Bool.true_and]
        rcases s2 with ⟨s2, _⟩ | ⟨d1, d2, d3, d4, d5, _⟩
        · rw [s2]; simp
        · have : leadR r h' ≥ leadR r h := Decidable.byContradiction fun hlt => a6 _ (hsub _ d3) d1 (by omega) ⟨d4, d5⟩
          simp [this]
theorem one_ok : PureOK Try.prog 3 [Ring, ints, i64] [.bool] (fun x => okR x.1) (fun _ => (true, ())) :=
  fn_pure (E := Z2) (n := 100) Z2_ok Try.func3 bodyL1 lL1 fun x h => one_t x.1 x.2.1 x.2.2.1 h
end Pl
