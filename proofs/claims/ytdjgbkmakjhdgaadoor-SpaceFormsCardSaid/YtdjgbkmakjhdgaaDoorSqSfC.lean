import Derived.Test.YtdjgbkmakjhdgaaDoorSqSfB
import Derived.Test.YtdjgbkmakjhdgaaDoorSqSpF
namespace Pl
open Go Sx Go.Proofs Go.RowKit
theorem atS_ge (l : List Int) {q : Int} (h : atS l q ≥ 0) : atS l q ≠ -1 := by omega
theorem atS_lt {l : List Int} {q : Int} (h : ¬ atS l q ≥ 0) : atS l q = -1 := Classical.byContradiction fun g => by
  have := atS_at g; omega
theorem lCr : LpsOK Tryd.prog Tryd.f6 [(0, LCr.sp)] := by
  refine .cons (LCr.sound F1_ok (lps := []) (n := 100) (inner rfl) (fun _ => rfl) ?_) .nil
  rintro ⟨l, o, q⟩ ⟨h1, h2, h3, h4⟩
  simp only at h1 h2 h3 h4
  rw [rCr]
  simp only [all_leaf, all_fork, all_req, true_and, and_true, decide_eq_true_eq, decide_eq_false_iff_not]
  have hstep : q < 16 → cnF l (16 - q.toNat) q.toNat o = cnF l (16 - (q + 1).toNat) (q + 1).toNat (if atS l q = -1 then o else o.set (atS l q).toNat (o.getD (atS l q).toNat 0 + 1)) := fun c => by
    rw [show 16 - q.toNat = (16 - (q + 1).toNat) + 1 by omega, cnF, toNat_succ h1, Int.toNat_of_nonneg h1]
  refine ⟨fun c => ⟨⟨h1, c⟩, fun d => ?_, fun d => ?_⟩, fun c => ?_⟩
  · have ha := atS_at (atS_ge l d)
    have hi : (atS l q).toNat < o.length := by omega
    have hb := h4 _ (show o.getD (atS l q).toNat 0 ∈ o by rw [getD_get 0 hi]; exact List.getElem_mem _)
    have b1 : 0 ≤ atS l q ∧ atS l q < (o.length : Int) := ⟨d, by omega⟩
    rw [IntWalk.i64_in (q + 1) (by omega), IntWalk.i64_in (o.getD (atS l q).toNat 0 + 1) (by omega)]
    refine ⟨b1, b1, b1, b1, ⟨by dsimp only; omega, by dsimp only; omega, by simpa using h3, fun x hx => ?_⟩, by simp only [LCr]; omega, ?_⟩
    · rcases List.mem_or_eq_of_mem_set hx with e | e
      · have := h4 x e; dsimp only; omega
      · dsimp only; omega
    · simp only [LCr]; rw [hstep c, if_neg (atS_ge l d)]
  · rw [IntWalk.i64_in (q + 1) (by omega)]
    refine ⟨⟨by dsimp only; omega, by dsimp only; omega, h3, fun x hx => ?_⟩, by simp only [LCr]; omega, ?_⟩
    · have := h4 x hx; dsimp only; omega
    · simp only [LCr]; rw [hstep c, if_pos (atS_lt d)]
  · exact ⟨by rw [show 16 - q.toNat = 0 by omega]; rfl, trivial⟩
theorem rcounts_ok : PureOK Tryd.prog 6 [ints] [ints] (fun _ => True) (fun x => (countsS x.1, ())) :=
  fn_pure (E := F1) (n := 100) F1_ok Tryd.func6 (by kernel_rfl) lCr fun x _ => by
    obtain ⟨l, _⟩ : List Int × Unit := x
    refine Tree.all_eq (tCr l) ?_
    show Tree.all (α := List Int × Unit) _ (fun y => y = (countsS l, ()))
    simp only [all_leaf, all_fork, all_req, true_and, and_true]
    refine ⟨⟨by omega, by omega, by omega, by omega⟩, ⟨by omega, by omega, fun x hx => ?_⟩, rfl⟩
    rw [List.eq_of_mem_replicate hx]; omega
theorem lNr : LpsOK Tryd.prog Tryd.f8 [(0, LNr.sp)] := by
  refine .cons (LNr.sound F1_ok (lps := []) (n := 100) (inner rfl) (fun _ => rfl) ?_) .nil
  rintro ⟨l, p, i⟩ ⟨h1, h2, h3, h4⟩
  simp only at h1 h2 h3 h4
  rw [rNr, IntWalk.i64_in (p + i) (by omega), Int.tmod_eq_emod_of_nonneg (by omega : 0 ≤ p + i)]
  simp only [all_leaf, all_fork, all_req, true_and, and_true, decide_eq_true_eq, decide_eq_false_iff_not, beq_iff_eq, beq_eq_false_iff_ne, ne_eq]
  refine ⟨fun c => ⟨by omega, ⟨by omega, by omega⟩, ⟨h1, h2⟩, fun d => ?_, fun d => ?_⟩, fun c => ?_⟩
  · have e : nrF l p (16 - i.toNat) i = i := by rw [show 16 - i.toNat = (15 - i.toNat) + 1 by omega, nrF, if_pos d]
    rw [e]
    exact ⟨fun _ => ⟨rfl, trivial⟩, fun g => absurd c g⟩
  · rw [IntWalk.i64_in (i + 1) (by omega)]
    have e : nrF l p (16 - i.toNat) i = nrF l p (16 - (i + 1).toNat) (i + 1) := by rw [show 16 - i.toNat = (16 - (i + 1).toNat) + 1 by omega, nrF, if_neg d]
    refine ⟨⟨h1, h2, by dsimp only; omega, by dsimp only; omega⟩, by simp only [LNr]; omega, ?_⟩
    simp only [LNr]; rw [e]
  · have e : nrF l p (16 - i.toNat) i = 16 := by rw [show 16 - i.toNat = 0 by omega, nrF]
    rw [e]
    exact ⟨fun g => absurd g (by omega), fun _ => trivial⟩
theorem nr_nx {l : List Int} {p : Int} (h0 : 0 ≤ p) (h1 : p < 16) : ∀ (c : Nat) (k : Int), k + c = 16 → nrF l p c k = nxF l (atS l p) p (c + 1) k
  | 0, k, h => by
    rw [nrF, nxF, if_pos (by rw [show (p + k) % 16 = p by omega])]; omega
  | c + 1, k, h => by
    rw [nrF, nxF]
    split
    · rfl
    · exact nr_nx h0 h1 c (k + 1) (by omega)
theorem rnext_ok : PureOK Tryd.prog 8 [ints, i64] [i64] (fun _ => True) (fun x => (nextS x.1 x.2.1, ())) :=
  fn_pure (E := F1) (n := 100) F1_ok Tryd.func8 (by kernel_rfl) lNr fun x _ => by
    obtain ⟨l, p, _⟩ : List Int × Int × Unit := x
    refine Tree.all_eq (tNr l p) ?_
    show Tree.all (α := Int × Unit) _ (fun y => y = (nextS l p, ()))
    simp only [all_leaf, all_fork, all_req, conjP, true_and, and_true, decide_eq_true_eq, decide_eq_false_iff_not, Bool.or_eq_true, Bool.or_eq_false_iff]
    refine ⟨fun a b => ⟨by omega, by omega⟩, fun a => ?_, fun a => ⟨⟨by omega, by omega, by omega, by omega⟩, ?_⟩⟩
    · have e : atS l p = -1 := Classical.byContradiction fun g => by
        have := atS_at g; omega
      unfold nextS; rw [if_pos e]
    · have e : atS l p ≠ -1 := by omega
      have hn := nr_nx (l := l) (p := p) (by omega) (by omega) 15 1 (by omega)
      rw [show 15 + 1 = 16 from rfl] at hn
      have hs := nxF_spec (a := l) (p := p) (by omega) (by omega) rfl 16 1 (by omega) (by omega) (by omega)
      unfold nextS
      rw [if_neg e, hn]
      exact ⟨fun _ => rfl, fun g => by
        have : nxF l (atS l p) p 16 1 = 16 := by omega
        rw [this]⟩
theorem F2_ok : F2.Sound := mkExM_sound ⟨pureSp_ok whose_ok, fnI_ok (E := E0) E0_ok Tryd.func17 fbNd .nil, pureSp_ok rnext_ok, pureSp_ok rcounts_ok, trivial⟩
theorem lLr : LpsOK Tryd.prog Tryd.f10 [(0, LLr.sp)] := by
  refine .cons (LLr.sound F2_ok (lps := []) (n := 100) (inner rfl) (fun _ => rfl) ?_) .nil
  rintro ⟨l, nd, q, o⟩ ⟨h1, h2⟩
  simp only at h1 h2
  rw [rLr]
  simp only [all_leaf, all_fork, all_req, conjP, true_and, and_true, decide_eq_true_eq, decide_eq_false_iff_not, Bool.and_eq_true, beq_iff_eq, Bool.or_eq_true]
  have hstep : q < 16 → lsF l nd (16 - q.toNat) q.toNat o = lsF l nd (16 - (q + 1).toNat) (q + 1).toNat (if atS l q = -1 ∨ atS l q ≠ nd then o else if o = 0 ∨ nextS l q < o then nextS l q else o) := fun c => by
    rw [show 16 - q.toNat = (16 - (q + 1).toNat) + 1 by omega, lsF, toNat_succ h1, Int.toNat_of_nonneg h1]
  refine ⟨fun c => ⟨fun _ _ => ⟨h1, c⟩, fun ⟨d1, d2, d3⟩ => ⟨fun e => ?_, fun e => ?_⟩, fun d => ?_⟩, fun c => ?_⟩
  all_goals try rw [IntWalk.i64_in (q + 1) (by omega)]
  · have d : ¬ (atS l q = -1 ∨ atS l q ≠ nd) := by omega
    refine ⟨⟨by dsimp only; omega, by dsimp only; omega⟩, by simp only [LLr]; omega, ?_⟩
    simp only [LLr]; rw [hstep c, if_neg d, if_pos e]
  · have d : ¬ (atS l q = -1 ∨ atS l q ≠ nd) := by omega
    have e : ¬ (o = 0 ∨ nextS l q < o) := by simpa using e
    refine ⟨⟨by dsimp only; omega, by dsimp only; omega⟩, by simp only [LLr]; omega, ?_⟩
    simp only [LLr]; rw [hstep c, if_neg d, if_neg e]
  · have d : atS l q = -1 ∨ atS l q ≠ nd := by
      by_cases a1 : atS l q = -1
      · exact .inl a1
      · have := atS_at a1
        refine .inr fun a2 => ?_
        simp only [a2, BEq.rfl, Bool.and_true, Bool.and_eq_false_iff, decide_eq_false_iff_not] at d
        omega
    refine ⟨⟨by dsimp only; omega, by dsimp only; omega⟩, by simp only [LLr]; omega, ?_⟩
    simp only [LLr]; rw [hstep c, if_pos d]
  · exact ⟨by rw [show 16 - q.toNat = 0 by omega]; rfl, trivial⟩
theorem rleast_ok : PureOK Tryd.prog 10 [ints, i64] [i64] (fun _ => True) (fun x => (leastS x.1 x.2.1, ())) :=
  fn_pure (E := F2) (n := 100) F2_ok Tryd.func10 (by kernel_rfl) lLr fun x _ => by
    obtain ⟨l, p, _⟩ : List Int × Int × Unit := x
    refine Tree.all_eq (tLr l p) ?_
    show Tree.all (α := Int × Unit) _ (fun y => y = (leastS l p, ()))
    simp only [all_leaf, all_fork, all_req, true_and, and_true]
    exact ⟨⟨by omega, by omega⟩, rfl⟩
theorem preB_succ (l : List Int) {i : Int} (h0 : 0 ≤ i) (h1 : i < 16) : preB l (i + 1) = preB l i ++ chB (atS l i) := by
  have hl := txtL_len l
  apply ByteArray.ext
  rw [ByteArray.data_append]
  apply Array.toList_inj.1
  rw [Array.toList_append]
  show (txtL l).take (i + 1).toNat = (txtL l).take i.toNat ++ [chS (atS l i)]
  rw [take_succ (l := txtL l) 0 h0 (by omega), txtL_get l (by omega), Int.toNat_of_nonneg h0]
theorem lTr : LpsOK Tryd.prog Tryd.f14 [(0, LTr.sp)] := by
  refine .cons (LTr.sound F1_ok (lps := []) (n := 100) (inner rfl) (fun _ => rfl) ?_) .nil
  rintro ⟨l, s, i⟩ ⟨h1, h2, h3⟩
  simp only at h1 h2 h3
  subst h3
  have hz : (preB l i).size ≤ 16 := by
    show ((txtL l).take i.toNat).length ≤ 16
    rw [List.length_take, txtL_len]; omega
  rw [rTr]
  simp only [all_leaf, all_fork, all_req, true_and, and_true, decide_eq_true_eq, decide_eq_false_iff_not]
  refine ⟨fun c => ⟨⟨h1, c⟩, fun d => ?_, fun d => ?_⟩, fun c => ?_⟩
  · have ha := atS_at (atS_ge l d)
    rw [IntWalk.i64_in (i + 1) (by omega)]
    exact ⟨⟨d, by omega⟩, by omega, ⟨by dsimp only; omega, by dsimp only; omega, (preB_succ l h1 c).symm⟩, by simp only [LTr]; omega, rfl⟩
  · rw [IntWalk.i64_in (i + 1) (by omega)]
    have e := preB_succ l h1 c
    rw [atS_lt d] at e
    exact ⟨by omega, ⟨by dsimp only; omega, by dsimp only; omega, e.symm⟩, by simp only [LTr]; omega, rfl⟩
  · refine ⟨?_, trivial⟩
    unfold preB txtB
    rw [List.take_of_length_le (by rw [txtL_len]; omega)]
theorem rtext_ok : PureOK Tryd.prog 14 [ints] [.str] (fun _ => True) (fun x => (txtB x.1, ())) :=
  fn_pure (E := F1) (n := 100) F1_ok Tryd.func14 (by kernel_rfl) lTr fun x _ => by
    obtain ⟨l, _⟩ : List Int × Unit := x
    refine Tree.all_eq (tTr l) ?_
    show Tree.all (α := ByteArray × Unit) _ (fun y => y = (txtB l, ()))
    simp only [all_leaf, all_fork, all_req, true_and, and_true]
    exact ⟨by omega, by omega, rfl⟩
end Pl
