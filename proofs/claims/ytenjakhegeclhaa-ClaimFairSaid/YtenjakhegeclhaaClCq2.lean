import Derived.Test.YtenjakhegeclhaaClCq
namespace Pl
open Go Sx Go.Proofs Go.RowKit
theorem qLoop_len (now : List Int) (e : Int) (b : Bool) : ∀ (l : List Int) (i : Int) (out : List Int) (m : Int), (qLoop now e b l i out m).1.length = out.length
  | [], _, _, _ => rfl
  | x :: r, i, out, m => by
    simp only [qLoop]
    split
    · rw [qLoop_len]; simp
    · exact qLoop_len now e b r _ _ _
def okQ (out : List Int) (m : Int) : Prop := 0 ≤ m ∧ ∀ x ∈ out, 0 ≤ x ∧ x + m ≤ 40
theorem okQ_step {out : List Int} {m : Int} (h : okQ out m) (hm : m > 0) (k : Nat) (hk : k < out.length) : okQ (out.set k (out.getD k 0 + 1)) (m - 1) := by
  refine ⟨by omega, fun x hx => ?_⟩
  rcases List.mem_or_eq_of_mem_set hx with h1 | h1
  · have := h.2 x h1; omega
  · have hg : out.getD k 0 ∈ out := by rw [getD_get 0 hk]; exact List.getElem_mem hk
    have := h.2 _ hg
    omega
theorem qLoop_ok (now : List Int) (e : Int) (b : Bool) : ∀ (l : List Int) (i : Int) (out : List Int) (m : Int), 0 ≤ i → i + l.length ≤ out.length → okQ out m → okQ (qLoop now e b l i out m).1 (qLoop now e b l i out m).2
  | [], _, _, _, _, _, h => h
  | x :: r, i, out, m, h0, hl, h => by
    simp only [List.length_cons] at hl
    simp only [qLoop]
    split
    · rename_i hc
      simp only [Bool.and_eq_true, decide_eq_true_eq] at hc
      exact qLoop_ok now e b r _ _ _ (by omega) (by simp; omega) (okQ_step h hc.1 _ (by omega))
    · exact qLoop_ok now e b r _ _ _ (by omega) (by omega) h
theorem lQ1 (b : Bool) : ∀ st out, ((LQ b).sp st).reach out → CodeOK Try.prog Try.f15.ntmps (.loop (loopAt (bodyOf Try.f15) 1)) st out := by
  refine (LQ b).sound C2_ok (lps := []) (n := 100) (inner rfl) (fun _ => by cases b <;> rfl) ?_
  rintro ⟨now, l0, l1, n2, n3, i4, i5⟩ ⟨h1, h2, h3, h4, h5, h6, h7⟩
  simp only at h1 h2 h3 h4 h5 h6 h7
  have hq : okQ l0 n2 := ⟨h6, h7⟩
  have step : ∀ (c : i5 < i4), (qLoop now n3 b (l1.drop i5.toNat) i5 l0 n2) = if decide (n2 > 0) && (decide (hasL now (l1.getD i5.toNat 0) > n3) == b) then qLoop now n3 b (l1.drop (i5 + 1).toNat) (i5 + 1) (l0.set i5.toNat (l0.getD i5.toNat 0 + 1)) (n2 - 1) else qLoop now n3 b (l1.drop (i5 + 1).toNat) (i5 + 1) l0 n2 := fun c => by
    rw [drop_cons 0 h3 (by omega), qLoop]
  have hin : ∀ c : i5 < i4, (0 ≤ i5 ∧ i5 < (l1.length : Int)) ∧ (0 ≤ i5 ∧ i5 < (l0.length : Int)) := fun c => ⟨⟨h3, by omega⟩, ⟨h3, by omega⟩⟩
  have yes : ∀ (c : i5 < i4), (decide (n2 > 0) && (decide (hasL now (l1.getD i5.toNat 0) > n3) == b)) = true → (LQ b).Next ⟨now, l0, l1, n2, n3, i4, i5⟩ (some ⟨now, l0.set i5.toNat (IntKind.i64.wrap (l0.getD i5.toNat 0 + 1)), l1, IntKind.i64.wrap (n2 - 1), n3, i4, IntKind.i64.wrap (i5 + 1)⟩) := by
    intro c d
    have hn : n2 > 0 := by simp only [Bool.and_eq_true, decide_eq_true_eq] at d; exact d.1
    have hlt : i5.toNat < l0.length := by omega
    have hg : l0.getD i5.toNat 0 ∈ l0 := by rw [getD_get 0 hlt]; exact List.getElem_mem hlt
    have hb := h7 _ hg
    rw [IntWalk.i64_in (i5 + 1) (by omega), IntWalk.i64_in (n2 - 1) (by omega), IntWalk.i64_in (l0.getD i5.toNat 0 + 1) (by omega)]
    have hs := okQ_step hq hn _ hlt
    refine ⟨⟨h1, by simpa using h2, by dsimp only; omega, by dsimp only; omega, h5, hs.1, hs.2⟩, by simp only [LQ]; omega, ?_⟩
    simp only [LQ]
    rw [step c, if_pos d]
  have no : ∀ (c : i5 < i4), (decide (n2 > 0) && (decide (hasL now (l1.getD i5.toNat 0) > n3) == b)) = false → (LQ b).Next ⟨now, l0, l1, n2, n3, i4, i5⟩ (some ⟨now, l0, l1, n2, n3, i4, IntKind.i64.wrap (i5 + 1)⟩) := by
    intro c d
    rw [IntWalk.i64_in (i5 + 1) (by omega)]
    refine ⟨⟨h1, h2, by dsimp only; omega, by dsimp only; omega, h5, h6, h7⟩, by simp only [LQ]; omega, ?_⟩
    simp only [LQ]
    rw [step c, if_neg (by rw [d]; decide)]
  have hend : ∀ c : ¬ i5 < i4, (qLoop now n3 b (l1.drop i5.toNat) i5 l0 n2) = (l0, n2) := fun c => by
    rw [drop_end (by omega)]; rfl
  cases b with
  | true =>
    rw [rQt]
    simp only [Tree.all, true_and, and_true, implies_true, conjP, decide_eq_true_eq, decide_eq_false_iff_not]
    exact ⟨fun c => ⟨(hin c).1, (hin c).1, fun d => ⟨(hin c).2, (hin c).2, (hin c).2, (hin c).2, yes c d⟩, fun d => no c d⟩, fun c => by rw [hend c]; trivial⟩
  | false =>
    rw [rQf]
    simp only [Tree.all, true_and, and_true, implies_true, conjP, decide_eq_true_eq, decide_eq_false_iff_not]
    exact ⟨fun c => ⟨(hin c).1, (hin c).1, fun d => ⟨(hin c).2, (hin c).2, (hin c).2, (hin c).2, yes c d⟩, fun d => no c d⟩, fun c => by rw [hend c]; trivial⟩
theorem lQ : LpsOK Try.prog Try.f15 [(1, spQ)] := by
  refine .cons (fun st out h => ?_) .nil
  unfold spQ at h
  split at h
  · exact viaN_ok (lQ1 true) st out h
  · exact viaN_ok (lQ1 false) st out h
  · exact h.elim
end Pl
