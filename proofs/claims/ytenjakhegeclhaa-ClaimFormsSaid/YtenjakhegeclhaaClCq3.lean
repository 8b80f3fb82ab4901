import Derived.Test.YtenjakhegeclhaaClCq
namespace Pl
open Go Sx Go.Proofs Go.RowKit
theorem qLoop_len (now : List Int) (e : Int) (b : Bool) : ∀ (l : List Int) (i : Int) (out : List Int) (m : Int), (qLoop now e b l i out m).1.length = out.length
  | [], _, _, _ => rfl
  | x :: r, i, out, m => by
    simp only [qLoop]
    split
    · rw [qLoop_len]; simp
    · exact qLoop_len now e b r _ _ _
def okQ (out : List Int) (m : Int) : Prop := 0 ≤ m ∧ ∀ x ∈ out, 0 ≤ x ∧ x + m ≤ 40
theorem okQ_step {out : List Int} {m : Int} (h : okQ out m) (hm : m > 0) (k : Nat) (hk : k < out.length) : okQ (out.set k (out.getD k 0 + 1)) (m - 1) := by
  refine ⟨by omega, fun x hx => ?_⟩
  rcases List.mem_or_eq_of_mem_set hx with h1 | h1
  · have := h.2 x h1; omega
  · have hg : out.getD k 0 ∈ out := by rw [getD_get 0 hk]; exact List.getElem_mem hk
    have := h.2 _ hg
    omega
theorem qLoop_ok (now : List Int) (e : Int) (b : Bool) : ∀ (l : List Int) (i : Int) (out : List Int) (m : Int), 0 ≤ i → i + l.length ≤ out.length → okQ out m → okQ (qLoop now e b l i out m).1 (qLoop now e b l i out m).2
  | [], _, _, _, _, _, h => h
  | x :: r, i, out, m, h0, hl, h => by
    simp only [List.length_cons] at hl
    simp only [qLoop]
    split
    · rename_i hc
      simp only [Bool.and_eq_true, decide_eq_true_eq] at hc
      exact qLoop_ok now e b r _ _ _ (by omega) (by simp; omega) (okQ_step h hc.1 _ (by omega))
    · exact qLoop_ok now e b r _ _ _ (by omega) (by omega) h
theorem lQ1 (b : Bool) : ∀ st out, ((LQ b).sp st).reach out → CodeOK Try.prog Try.f15.ntmps (.loop (loopAt (bodyOf Try.f15) 1)) st out := by
  refine (LQ b).sound C2_ok (lps := []) (n := 100) (inner rfl) (fun _ => by cases b <;> rfl) ?_
  rintro ⟨now, l0, l1, n2, n3, i4, i5⟩ ⟨h1, h2, h3, h4, h5, h6, h7⟩
  simp only at h1 h2 h3 h4 h5 h6 h7
  have hq : okQ l0 n2 := ⟨h6, h7⟩
  have step : ∀ (c : i5 < i4), (qLoop now n3 b (l1.drop i5.toNat) i5 l0 n2) = if decide (n2 > 0) && (decide (hasL now (l1.getD i5.toNat 0) > n3) == b) then qLoop now n3 b (l1.drop (i5 + 1).toNat) (i5 + 1) (l0.set i5.toNat (l0.getD i5.toNat 0 + 1)) (n2 - 1) else qLoop now n3 b (l1.drop (i5 + 1).toNat) (i5 + 1) l0 n2 := fun c => by
    rw [drop_cons 0 h3 (by omega), qLoop]
  have hin : ∀ c : i5 < i4, (0 ≤ i5 ∧ i5 < (l1.length : Int)) ∧ (0 ≤ i5 ∧ i5 < (l0.length : Int)) := fun c => ⟨⟨h3, by omega⟩, ⟨h3, by omega⟩⟩
  have yes : ∀ (c : i5 < i4), (decide (n2 > 0) && (decide (hasL now (l1.getD i5.toNat 0) > n3) == b)) = true → (LQ b).Next ⟨now, l0, l1, n2, n3, i4, i5⟩ (some ⟨now, l0.set i5.toNat (IntKind.i64.wrap (l0.getD i5.toNat 0 + 1)), l1, IntKind.i64.wrap (n2 - 1), n3, i4, IntKind.i64.wrap (i5 + 1)⟩) := by
    intro c d
    have hn : n2 > 0 := by simp only [Bool.and_eq_true, decide_eq_true_eq] at d; exact d.1
    have hlt : i5.toNat < l0.length := by omega
    have hg : l0.getD i5.toNat 0 ∈ l0 := by rw [getD_get 0 hlt]; exact List.getElem_mem hlt
    have hb := h7 _ hg
    rw [IntWalk.i64_in (i5 + 1) (by omega), IntWalk.i64_in (n2 - 1) (by omega), IntWalk.i64_in (l0.getD i5.toNat 0 + 1) (by omega)]
    have hs := okQ_step hq hn _ hlt
    refine ⟨⟨h1, by simpa using h2, by dsimp only; omega, by dsimp only; omega, h5, hs.1, hs.2⟩, by simp only [LQ]; omega, ?_⟩
    simp only [LQ]
    rw [step c, if_pos d]
  have no : ∀ (c : i5 < i4), (decide (n2 > 0) && (decide (hasL now (l1.getD i5.toNat 0) > n3) == b)) = false → (LQ b).Next ⟨now, l0, l1, n2, n3, i4, i5⟩ (some ⟨now, l0, l1, n2, n3, i4, IntKind.i64.wrap (i5 + 1)⟩) := by
    intro c d
    rw [IntWalk.i64_in (i5 + 1) (by omega)]
    refine ⟨⟨h1, h2, by dsimp only; omega, by dsimp only; omega, h5, h6, h7⟩, by simp only [LQ]; omega, ?_⟩
    simp only [LQ]
    rw [step c, if_neg (by rw [d]; decide)]
  have hend : ∀ c : ¬ i5 < i4, (qLoop now n3 b (l1.drop i5.toNat) i5 l0 n2) = (l0, n2) := fun c => by
    rw [drop_end (by omega)]; rfl
  cases b with
  | true =>
    rw [rQt]
    simp only [Tree.all, true_and, and_true, implies_true, conjP, decide_eq_true_eq, decide_eq_false_iff_not]
    exact ⟨fun c => ⟨(hin c).1, (hin c).1, fun d => ⟨(hin c).2, (hin c).2, (hin c).2, (hin c).2, yes c d⟩, fun d => no c d⟩, fun c => by rw [hend c]; trivial⟩
  | false =>
    rw [rQf]
    simp only [Tree.all, true_and, and_true, implies_true, conjP, decide_eq_true_eq, decide_eq_false_iff_not]
    exact ⟨fun c => ⟨(hin c).1, (hin c).1, fun d => ⟨(hin c).2, (hin c).2, (hin c).2, (hin c).2, yes c d⟩, fun d => no c d⟩, fun c => by rw [hend c]; trivial⟩
theorem lQ : LpsOK Try.prog Try.f15 [(1, spQ)] := by
  refine .cons (fun st out h => ?_) .nil
  unfold spQ at h
  split at h
  · exact viaN_ok (lQ1 true) st out h
  · exact viaN_ok (lQ1 false) st out h
  · exact h.elim
end Pl
namespace Pl
open Go Sx Go.Proofs Go.RowKit
def qEach (n : Int) : Int := IntKind.i64.wrap (Int.tdiv 16 n)
def quotaM (now l : List Int) : List Int :=
  let n : Int := (l.length : Int)
  let r := qLoop now (qEach n) true l 0 (List.replicate l.length (qEach n)) (Int.tmod 16 n)
  (qLoop now (qEach n) false l 0 r.1 r.2).1
def quotaL (now ms : List Int) : List Int := if (memL ms).length = 0 then [] else quotaM now (memL ms)
theorem memL_len (ms : List Int) : (memL ms).length ≤ 8 := fltB_len _ _ _
theorem qNum {n : Int} (h0 : 1 ≤ n) (h1 : n ≤ 8) : 0 ≤ qEach n ∧ qEach n + Int.tmod 16 n ≤ 40 ∧ 0 ≤ Int.tmod 16 n ∧ Int.tmod 16 n < n := by
  have : n = 1 ∨ n = 2 ∨ n = 3 ∨ n = 4 ∨ n = 5 ∨ n = 6 ∨ n = 7 ∨ n = 8 := by omega
  rcases this with h | h | h | h | h | h | h | h <;> subst h <;> decide
theorem okQ0 {n : Int} (h0 : 1 ≤ n) (h1 : n ≤ 8) (k : Nat) : okQ (List.replicate k (qEach n)) (Int.tmod 16 n) := by
  obtain ⟨a, b, c, _⟩ := qNum h0 h1
  refine ⟨c, fun x hx => ?_⟩
  have := (List.mem_replicate.1 hx).2
  subst this
  exact ⟨a, b⟩
theorem quotaM_eq (now l : List Int) (k : Nat) (hk : l.length = k) : quotaM now l = (qLoop now (qEach (l.length : Int)) false l 0 (qLoop now (qEach (l.length : Int)) true l 0 (List.replicate k (qEach (l.length : Int))) (Int.tmod 16 (l.length : Int))).1 (qLoop now (qEach (l.length : Int)) true l 0 (List.replicate k (qEach (l.length : Int))) (Int.tmod 16 (l.length : Int))).2).1 := by
  subst hk; rfl
theorem quotas_t (now ms : List Int) (h : (ms.length : Int) < big) : (fnO C2 [(1, spQ)] 100 Try.f15 [ints, ints] [ints] (now, ms, ())).all fun y => y = (quotaL now ms, ()) := by
  rw [tQ]
  have h8 := memL_len ms
  unfold quotaL
  generalize memL ms = l at *
  have hq : ∀ k : Nat, l.length = k → 1 ≤ k → (k = l.length ∧ (0 : Int) ≤ 0 ∧ 0 ≤ (l.length : Int) ∧ l.length ≤ 8 ∧ 0 ≤ Int.tmod 16 (l.length : Int) ∧ ∀ x : Int, x ∈ List.replicate k (qEach (l.length : Int)) → 0 ≤ x ∧ x + Int.tmod 16 (l.length : Int) ≤ 40) := fun k hk h1 => by
    have := okQ0 (n := (l.length : Int)) (by omega) (by omega) k
    exact ⟨hk.symm, by omega, by omega, h8, this.1, this.2⟩
  have hr : ∀ k : Nat, l.length = k → 1 ≤ k → okQ (qLoop now (qEach (l.length : Int)) true l 0 (List.replicate k (qEach (l.length : Int))) (Int.tmod 16 (l.length : Int))).1 (qLoop now (qEach (l.length : Int)) true l 0 (List.replicate k (qEach (l.length : Int))) (Int.tmod 16 (l.length : Int))).2 ∧
      (qLoop now (qEach (l.length : Int)) true l 0 (List.replicate k (qEach (l.length : Int))) (Int.tmod 16 (l.length : Int))).1.length = l.length := fun k hk h1 =>
    ⟨qLoop_ok _ _ _ _ _ _ _ (by omega) (by simp; omega) (okQ0 (by omega) (by omega) k), by rw [qLoop_len]; simp [hk]⟩
  have e0 : List.drop 0 l = l := rfl
  have eE : IntKind.i64.wrap (Int.tdiv 16 (l.length : Int)) = qEach (l.length : Int) := rfl
  simp only [all_leaf, all_fork, all_req, e0, eE, true_and, and_true, decide_eq_true_eq, decide_eq_false_iff_not, beq_iff_eq, beq_eq_false_iff_ne, ne_eq]
  have hc : l.length = 0 ∨ l.length = 1 ∨ l.length = 2 ∨ l.length = 3 ∨ l.length = 4 ∨ l.length = 5 ∨ l.length = 6 ∨ l.length = 7 ∨ l.length = 8 := by omega
  refine ⟨h, fun c => by rw [if_pos (by omega)], fun c => ⟨c, c, ?_⟩⟩
  rw [if_neg (by omega)]
  exact ⟨fun c1 => ⟨by omega, by omega, by omega, by omega, by omega, hq 1 (by omega) (by omega), ⟨(hr 1 (by omega) (by omega)).2, by omega, by omega, h8, (hr 1 (by omega) (by omega)).1.1, (hr 1 (by omega) (by omega)).1.2⟩, by rw [quotaM_eq now l 1 (by omega)]; try rfl⟩, fun d1 => ⟨fun c1 => ⟨by omega, by omega, by omega, by omega, by omega, hq 2 (by omega) (by omega), ⟨(hr 2 (by omega) (by omega)).2, by omega, by omega, h8, (hr 2 (by omega) (by omega)).1.1, (hr 2 (by omega) (by omega)).1.2⟩, by rw [quotaM_eq now l 2 (by omega)]; try rfl⟩, fun d2 => ⟨fun c1 => ⟨by omega, by omega, by omega, by omega, by omega, hq 3 (by omega) (by omega), ⟨(hr 3 (by omega) (by omega)).2, by omega, by omega, h8, (hr 3 (by omega) (by omega)).1.1, (hr 3 (by omega) (by omega)).1.2⟩, by rw [quotaM_eq now l 3 (by omega)]; try rfl⟩, fun d3 => ⟨fun c1 => ⟨by omega, by omega, by omega, by omega, by omega, hq 4 (by omega) (by omega), ⟨(hr 4 (by omega) (by omega)).2, by omega, by omega, h8, (hr 4 (by omega) (by omega)).1.1, (hr 4 (by omega) (by omega)).1.2⟩, by rw [quotaM_eq now l 4 (by omega)]; try rfl⟩, fun d4 => ⟨fun c1 => ⟨by omega, by omega, by omega, by omega, by omega, hq 5 (by omega) (by omega), ⟨(hr 5 (by omega) (by omega)).2, by omega, by omega, h8, (hr 5 (by omega) (by omega)).1.1, (hr 5 (by omega) (by omega)).1.2⟩, by rw [quotaM_eq now l 5 (by omega)]; try rfl⟩, fun d5 => ⟨fun c1 => ⟨by omega, by omega, by omega, by omega, by omega, hq 6 (by omega) (by omega), ⟨(hr 6 (by omega) (by omega)).2, by omega, by omega, h8, (hr 6 (by omega) (by omega)).1.1, (hr 6 (by omega) (by omega)).1.2⟩, by rw [quotaM_eq now l 6 (by omega)]; try rfl⟩, fun d6 => ⟨fun c1 => ⟨by omega, by omega, by omega, by omega, by omega, hq 7 (by omega) (by omega), ⟨(hr 7 (by omega) (by omega)).2, by omega, by omega, h8, (hr 7 (by omega) (by omega)).1.1, (hr 7 (by omega) (by omega)).1.2⟩, by rw [quotaM_eq now l 7 (by omega)]; try rfl⟩, fun d7 => ⟨fun c1 => ⟨by omega, by omega, by omega, by omega, by omega, hq 8 (by omega) (by omega), ⟨(hr 8 (by omega) (by omega)).2, by omega, by omega, h8, (hr 8 (by omega) (by omega)).1.1, (hr 8 (by omega) (by omega)).1.2⟩, by rw [quotaM_eq now l 8 (by omega)]; try rfl⟩, fun d8 => by exfalso; omega⟩⟩⟩⟩⟩⟩⟩⟩
theorem quotas_own : PureOwnOK Try.prog 15 [ints, ints] [ints] (fun x => (List.length (α := Int) x.2.1 : Int) < big) (fun x => (quotaL x.1 x.2.1, ())) :=
  fn_own (E := C2) (n := 100) C2_ok Try.func15 bodyQ lQ fun x h => quotas_t x.1 x.2.1 h
theorem quotas_ok : PureOK Try.prog 15 [ints, ints] [ints] (fun x => (List.length (α := Int) x.2.1 : Int) < big) (fun x => (quotaL x.1 x.2.1, ())) := quotas_own.pure
end Pl
