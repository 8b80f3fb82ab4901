import Derived.Test.YtenjakhegeclhaaClCy
import Derived.Test.YtenjakhegeclhaaClCi3
namespace Pl
open Go Sx Go.Proofs Go.RowKit
theorem lQb1 (b : Bool) : ∀ st out, ((LQb b).sp st).reach out → CodeOK Try.prog Try.f16.ntmps (.loop (loopAt (bodyOf Try.f16) 2)) st out := by
  refine (LQb b).sound X2_ok (lps := []) (n := 100) (inner rfl) (fun _ => by cases b <;> rfl) ?_
  rintro ⟨now, o, m, more, e, i, n0, i1, i2⟩ ⟨h1, h2, h3, h4⟩
  simp only at h1 h2 h3 h4
  have st := fun c : i1 < 16 => cntB_step (fun p => atL now (p : Int) == n0) (N := 16) h1 c
  have e1 : ((i1.toNat : Nat) : Int) = i1 := Int.toNat_of_nonneg h1
  have yes : i1 < 16 → (atL now i1 == n0) = true → (LQb b).Next ⟨now, o, m, more, e, i, n0, i1, i2⟩ (some ⟨now, o, m, more, e, i, n0, IntKind.i64.wrap (i1 + 1), IntKind.i64.wrap (i2 + 1)⟩) := fun c d => by
    rw [i64_inc (by omega) (by omega), i64_inc (by omega) (by omega)]
    refine ⟨⟨by dsimp only; omega, by dsimp only; omega, by dsimp only; omega, by dsimp only; omega⟩, by simp only [LQb]; omega, ?_⟩
    simp only [LQb]
    have a := st c
    rw [if_pos (by rw [e1]; exact d)] at a
    rw [show i2 + 1 + cntB (fun p => atL now (p : Int) == n0) (16 - (i1 + 1).toNat) (i1 + 1).toNat = i2 + cntB (fun p => atL now (p : Int) == n0) (16 - i1.toNat) i1.toNat by omega]
  have no : i1 < 16 → (atL now i1 == n0) = false → (LQb b).Next ⟨now, o, m, more, e, i, n0, i1, i2⟩ (some ⟨now, o, m, more, e, i, n0, IntKind.i64.wrap (i1 + 1), i2⟩) := fun c d => by
    rw [i64_inc (by omega) (by omega)]
    refine ⟨⟨by dsimp only; omega, by dsimp only; omega, h3, by dsimp only; omega⟩, by simp only [LQb]; omega, ?_⟩
    simp only [LQb]
    have a := st c
    rw [if_neg (by rw [e1, d]; decide)] at a
    rw [show cntB (fun p => atL now (p : Int) == n0) (16 - (i1 + 1).toNat) (i1 + 1).toNat = cntB (fun p => atL now (p : Int) == n0) (16 - i1.toNat) i1.toNat by omega]
  have fin : ¬ i1 < 16 → i2 = i2 + cntB (fun p => atL now (p : Int) == n0) (16 - i1.toNat) i1.toNat := fun c => by
    have : 16 - i1.toNat = 0 := by omega
    rw [this]; simp [cntB]
  cases b with
  | true =>
    rw [rQbt]
    simp only [all_leaf, all_fork, all_req, and_true, true_and, decide_eq_true_eq, decide_eq_false_iff_not]
    exact ⟨fun c => ⟨h1, fun d => yes c d, fun d => no c d⟩, fun c => ⟨fin c, trivial⟩⟩
  | false =>
    rw [rQbf]
    simp only [all_leaf, all_fork, all_req, and_true, true_and, decide_eq_true_eq, decide_eq_false_iff_not]
    exact ⟨fun c => ⟨h1, fun d => yes c d, fun d => no c d⟩, fun c => ⟨fin c, trivial⟩⟩
theorem lQb : LpsOK Try.prog Try.f16 [(2, spQb)] := by
  refine .cons (fun st out h => ?_) .nil
  unfold spQb at h
  split at h
  · split at h
    · exact lQb1 true st out h
    · exact lQb1 false st out h
  · exact h.elim
theorem okQ_set {o : List Int} {more e : Int} (h : okQ o more) (he : 0 ≤ e) (h2 : e + more ≤ 40) (k : Nat) : okQ (o.set k e) more := ⟨h.1, fun x hx => by
  rcases set_mem hx with z | z
  · exact h.2 x z
  · omega⟩
theorem lQa1 (b : Bool) : ∀ st out, ((LQa b).sp st).reach out → CodeOK Try.prog Try.f16.ntmps (.loop (loopAt (bodyOf Try.f16) 1)) st out := by
  refine (LQa b).sound X2_ok (lps := [(2, spQb)]) (n := 100) (lQb.within (by kernel_rfl)) (fun _ => by cases b <;> rfl) ?_
  rintro ⟨now, o, m, more, e, i⟩ ⟨h1, h2, h3, h4, h5, h6, h7⟩
  simp only at h1 h2 h3 h4 h5 h6 h7
  have hh : 0 + cntB (fun p => atL now (p : Int) == m.getD i.toNat 0) 16 0 = hasL now (m.getD i.toNat 0) := by unfold hasL; omega
  have hB : okQ (bif b then o.set i.toNat e else o) more := by
    cases b
    · exact h7
    · exact okQ_set h7 h5 h6 _
  have hBl : (bif b then o.set i.toNat e else o).length = m.length := by cases b <;> simp [h1]
  have yes : i < (m.length : Int) → (decide (more > 0) && (decide (hasL now (m.getD i.toNat 0) > e) == b)) = true → (LQa b).Next ⟨now, o, m, more, e, i⟩ (some ⟨now, (bif b then o.set i.toNat e else o).set i.toNat (IntKind.i64.wrap ((bif b then o.set i.toNat e else o).getD i.toNat 0 + 1)), m, IntKind.i64.wrap (more - 1), e, IntKind.i64.wrap (i + 1)⟩) := fun c d => by
    have hm : more > 0 := by simp only [Bool.and_eq_true, decide_eq_true_eq] at d; exact d.1
    have hlt : i.toNat < (bif b then o.set i.toNat e else o).length := by omega
    have hg : (bif b then o.set i.toNat e else o).getD i.toNat 0 ∈ (bif b then o.set i.toNat e else o) := by rw [getD_get 0 hlt]; exact List.getElem_mem hlt
    have hb := hB.2 _ hg
    have hs := okQ_step hB hm _ hlt
    rw [i64_inc (by omega) (by omega), IntWalk.i64_in (more - 1) (by omega), IntWalk.i64_in (_ + 1) (by omega)]
    refine ⟨⟨by simp only [List.length_set]; exact hBl, h2, by dsimp only; omega, by dsimp only; omega, h5, by dsimp only; omega, hs⟩, by simp only [LQa]; omega, ?_⟩
    simp only [LQa]
    have : q7 now e b (m.drop i.toNat) i o more = q7 now e b (m.drop (i + 1).toNat) (i + 1) ((bif b then o.set i.toNat e else o).set i.toNat ((bif b then o.set i.toNat e else o).getD i.toNat 0 + 1)) (more - 1) := by
      rw [drop_cons (l := m) 0 h3 c, q7, if_pos d]
    rw [this]
  have no : i < (m.length : Int) → (decide (more > 0) && (decide (hasL now (m.getD i.toNat 0) > e) == b)) = false → (LQa b).Next ⟨now, o, m, more, e, i⟩ (some ⟨now, (bif b then o.set i.toNat e else o), m, more, e, IntKind.i64.wrap (i + 1)⟩) := fun c d => by
    rw [i64_inc (by omega) (by omega)]
    refine ⟨⟨hBl, h2, by dsimp only; omega, by dsimp only; omega, h5, h6, hB⟩, by simp only [LQa]; omega, ?_⟩
    simp only [LQa]
    have : q7 now e b (m.drop i.toNat) i o more = q7 now e b (m.drop (i + 1).toNat) (i + 1) (bif b then o.set i.toNat e else o) more := by
      rw [drop_cons (l := m) 0 h3 c, q7, if_neg (by rw [d]; decide)]
    rw [this]
  have fin : ¬ i < (m.length : Int) → more = (q7 now e b (m.drop i.toNat) i o more).2 ∧ o = (q7 now e b (m.drop i.toNat) i o more).1 := fun c => by
    rw [drop_end c]; exact ⟨rfl, rfl⟩
  have ui : i < (m.length : Int) → 0 ≤ i ∧ i < (o.length : Int) := fun c => ⟨h3, by omega⟩
  have us : i < (m.length : Int) → 0 ≤ i ∧ i < ((o.set i.toNat e).length : Int) := fun c => ⟨h3, by rw [List.length_set]; omega⟩
  cases b with
  | true =>
    rw [rQat]
    simp only [hh]
    simp only [all_leaf, all_fork, all_req, and_true, true_and, decide_eq_true_eq, decide_eq_false_iff_not]
    exact ⟨fun c => ⟨⟨h3, c⟩, ⟨h3, c⟩, ⟨by omega, by omega, by omega, by omega⟩, ui c, ui c, fun d => ⟨us c, us c, us c, us c, yes c d⟩, fun d => no c d⟩, fun c => ⟨fin c, trivial⟩⟩
  | false =>
    rw [rQaf]
    simp only [hh]
    simp only [all_leaf, all_fork, all_req, and_true, true_and, decide_eq_true_eq, decide_eq_false_iff_not]
    exact ⟨fun c => ⟨⟨h3, c⟩, ⟨h3, c⟩, ⟨by omega, by omega, by omega, by omega⟩, fun d => ⟨ui c, ui c, ui c, ui c, yes c d⟩, fun d => no c d⟩, fun c => ⟨fin c, trivial⟩⟩
theorem lQa : LpsOK Try.prog Try.f16 [(1, spQa)] := by
  refine .cons (fun st out h => ?_) .nil
  unfold spQa at h
  split at h
  · split at h
    · exact lQa1 true st out h
    · exact lQa1 false st out h
  · exact h.elim
theorem q7_false (now : List Int) (e : Int) : ∀ (l : List Int) (i : Int) (o : List Int) (m : Int), q7 now e false l i o m = qLoop now e false l i o m
  | [], _, _, _ => rfl
  | x :: r, i, o, m => by
    simp only [q7, qLoop, cond_false]
    split <;> exact q7_false now e r _ _ _
theorem q7_true (now : List Int) (e : Int) : ∀ (l : List Int) (n : Nat) (o o' : List Int) (m : Int), o.length = n + l.length → o'.length = n + l.length → (∀ k, k < n → o.getD k 0 = o'.getD k 0) → (∀ k, n ≤ k → k < n + l.length → o'.getD k 0 = e) → q7 now e true l (n : Int) o m = qLoop now e true l (n : Int) o' m
  | [], n, o, o', m, h1, h2, h3, _ => by
    have : o = o' := ext_getD 0 (by omega) fun k hk => h3 k (by simp at h1; omega)
    rw [this]; rfl
  | x :: r, n, o, o', m, h1, h2, h3, h4 => by
    simp only [List.length_cons] at h1 h2 h4
    have e3 : ((n : Int) + 1) = ((n + 1 : Nat) : Int) := rfl
    have hg : ((o.set n e).getD n 0) = o'.getD n 0 := by rw [getD_set _ _ _ _ (by omega), if_pos rfl, h4 n (by omega) (by omega)]
    simp only [q7, qLoop, cond_true, Int.toNat_natCast, e3]
    rw [hg]
    split
    · refine q7_true now e r (n + 1) _ _ _ (by simp; omega) (by simp; omega) (fun k hk => ?_) (fun k a b => ?_)
      · rw [getD_set _ _ _ _ (by simp; omega), getD_set _ _ _ _ (by omega), getD_set _ _ _ _ (by omega)]
        split
        · rfl
        · exact h3 k (by omega)
      · rw [getD_set _ _ _ _ (by omega), if_neg (by omega)]
        exact h4 k (by omega) (by omega)
    · refine q7_true now e r (n + 1) _ _ _ (by simp; omega) (by omega) (fun k hk => ?_) (fun k a b => h4 k (by omega) (by omega))
      rw [getD_set _ _ _ _ (by omega)]
      split
      · rename_i z; rw [z, h4 n (by omega) (by omega)]
      · exact h3 k (by omega)
theorem quotas7_t (now ms : List Int) (h : (ms.length : Int) < big) : (fnO X2 [(1, spQa)] 100 Try.f16 [ints, ints] [ints] (now, ms, ())).all fun y => y = (quotaL now ms, ()) := by
  rw [t7Q]
  show Tree.all (α := List Int × Unit) _ (fun y => y = (quotaL now ms, ()))
  have h8 := memL_len ms
  unfold quotaL
  generalize memL ms = l at *
  have hE : IntKind.i64.wrap (Int.tdiv 16 (l.length : Int)) = qEach (l.length : Int) := rfl
  have hR : (List.replicate (l.length : Int).toNat (0 : Int)) = List.replicate l.length 0 := by rw [Int.toNat_natCast]
  simp only [hE, hR, List.drop_zero, all_leaf, all_fork, all_req, and_true, true_and, beq_iff_eq, beq_eq_false_iff_ne, ne_eq]
  refine ⟨h, fun c => by rw [if_pos (by omega)], fun c => ?_⟩
  have hn := qNum (n := (l.length : Int)) (by omega) (by omega)
  have hk := okQ0 (n := (l.length : Int)) (by omega) (by omega) l.length
  have ht : q7 now (qEach (l.length : Int)) true l 0 (List.replicate l.length 0) (Int.tmod 16 (l.length : Int)) = qLoop now (qEach (l.length : Int)) true l 0 (List.replicate l.length (qEach (l.length : Int))) (Int.tmod 16 (l.length : Int)) := q7_true now _ l 0 _ _ _ (by simp) (by simp) (fun k hk => by omega) (fun k _ hk => rep_getD _ _ _ (by omega))
  have hl := qLoop_len now (qEach (l.length : Int)) true l 0 (List.replicate l.length (qEach (l.length : Int))) (Int.tmod 16 (l.length : Int))
  rw [List.length_replicate] at hl
  have ho := qLoop_ok now (qEach (l.length : Int)) true l 0 (List.replicate l.length (qEach (l.length : Int))) (Int.tmod 16 (l.length : Int)) (by omega) (by simp) hk
  have hm := qLoop_more now (qEach (l.length : Int)) true l 0 (List.replicate l.length (qEach (l.length : Int))) (Int.tmod 16 (l.length : Int)) hn.2.2.1
  have hrn := rch_nn now (qEach (l.length : Int)) true l
  rw [ht, q7_false]
  rw [if_neg (by omega : ¬ l.length = 0)]
  have oz : okQ (List.replicate l.length 0) (Int.tmod 16 (l.length : Int)) := ⟨hn.2.2.1, fun x hx => by
    have := (List.mem_replicate.1 hx).2
    have := hn.2.2.2
    omega⟩
  refine ⟨c, c, ⟨by omega, by omega, by omega, by omega⟩, ?_, ?_, ?_⟩
  · exact ⟨by simp, h8, by omega, by omega, hn.1, hn.2.1, oz⟩
  · exact ⟨by omega, h8, by omega, by omega, hn.1, by omega, ho⟩
  · rfl
theorem quotas7_own : PureOwnOK Try.prog 16 [ints, ints] [ints] (fun x => (List.length (α := Int) x.2.1 : Int) < big) (fun x => (quotaL x.1 x.2.1, ())) :=
  fn_own (E := X2) (n := 100) X2_ok Try.func16 body7Q lQa fun x h => quotas7_t x.1 x.2.1 h
end Pl
