import Derived.Test.YtenjakhegeclhaaClCq2
namespace Pl
open Go Sx Go.Proofs Go.RowKit
def qEach (n : Int) : Int := IntKind.i64.wrap (Int.tdiv 16 n)
def quotaM (now l : List Int) : List Int :=
  let n : Int := (l.length : Int)
  let r := qLoop now (qEach n) true l 0 (List.replicate l.length (qEach n)) (Int.tmod 16 n)
  (qLoop now (qEach n) false l 0 r.1 r.2).1
def quotaL (now ms : List Int) : List Int := if (memL ms).length = 0 then [] else quotaM now (memL ms)
theorem memL_len (ms : List Int) : (memL ms).length ≤ 8 := fltB_len _ _ _
theorem qNum {n : Int} (h0 : 1 ≤ n) (h1 : n ≤ 8) : 0 ≤ qEach n ∧ qEach n + Int.tmod 16 n ≤ 40 ∧ 0 ≤ Int.tmod 16 n ∧ Int.tmod 16 n < n := by
  have : n = 1 ∨ n = 2 ∨ n = 3 ∨ n = 4 ∨ n = 5 ∨ n = 6 ∨ n = 7 ∨ n = 8 := by omega
  rcases this with h | h | h | h | h | h | h | h <;> subst h <;> decide
theorem okQ0 {n : Int} (h0 : 1 ≤ n) (h1 : n ≤ 8) (k : Nat) : okQ (List.replicate k (qEach n)) (Int.tmod 16 n) := by
  obtain ⟨a, b, c, _⟩ := qNum h0 h1
  refine ⟨c, fun x hx => ?_⟩
  have := (List.mem_replicate.1 hx).2
  subst this
  exact ⟨a, b⟩
theorem quotaM_eq (now l : List Int) (k : Nat) (hk : l.length = k) : quotaM now l = (qLoop now (qEach (l.length : Int)) false l 0 (qLoop now (qEach (l.length : Int)) true l 0 (List.replicate k (qEach (l.length : Int))) (Int.tmod 16 (l.length : Int))).1 (qLoop now (qEach (l.length : Int)) true l 0 (List.replicate k (qEach (l.length : Int))) (Int.tmod 16 (l.length : Int))).2).1 := by
  subst hk; rfl
theorem quotas_t (now ms : List Int) (h : (ms.length : Int) < big) : (fnO C2 [(1, spQ)] 100 Try.f15 [ints, ints] [ints] (now, ms, ())).all fun y => y = (quotaL now ms, ()) := by
  rw [tQ]
  have h8 := memL_len ms
  unfold quotaL
  generalize memL ms = l at *
  have hq : ∀ k : Nat, l.length = k → 1 ≤ k → (k = l.length ∧ (0 : Int) ≤ 0 ∧ 0 ≤ (l.length : Int) ∧ l.length ≤ 8 ∧ 0 ≤ Int.tmod 16 (l.length : Int) ∧ ∀ x : Int, x ∈ List.replicate k (qEach (l.length : Int)) → 0 ≤ x ∧ x + Int.tmod 16 (l.length : Int) ≤ 40) := fun k hk h1 => by
    have := okQ0 (n := (l.length : Int)) (by omega) (by omega) k
    exact ⟨hk.symm, by omega, by omega, h8, this.1, this.2⟩
  have hr : ∀ k : Nat, l.length = k → 1 ≤ k → okQ (qLoop now (qEach (l.length : Int)) true l 0 (List.replicate k (qEach (l.length : Int))) (Int.tmod 16 (l.length : Int))).1 (qLoop now (qEach (l.length : Int)) true l 0 (List.replicate k (qEach (l.length : Int))) (Int.tmod 16 (l.length : Int))).2 ∧
      (qLoop now (qEach (l.length : Int)) true l 0 (List.replicate k (qEach (l.length : Int))) (Int.tmod 16 (l.length : Int))).1.length = l.length := fun k hk h1 =>
    ⟨qLoop_ok _ _ _ _ _ _ _ (by omega) (by simp; omega) (okQ0 (by omega) (by omega) k), by rw [qLoop_len]; simp [hk]⟩
  have e0 : List.drop 0 l = l := rfl
  have eE : IntKind.i64.wrap (Int.tdiv 16 (l.length : Int)) = qEach (l.length : Int) := rfl
  simp only [all_leaf, all_fork, all_req, e0, eE, true_and, and_true, decide_eq_true_eq, decide_eq_false_iff_not, beq_iff_eq, beq_eq_false_iff_ne, ne_eq]
  have hc : l.length = 0 ∨ l.length = 1 ∨ l.length = 2 ∨ l.length = 3 ∨ l.length = 4 ∨ l.length = 5 ∨ l.length = 6 ∨ l.length = 7 ∨ l.length = 8 := by omega
  refine ⟨h, fun c => by rw [if_pos (by omega)], fun c => ⟨c, c, ?_⟩⟩
  rw [if_neg (by omega)]
  exact ⟨fun c1 => ⟨by omega, by omega, by omega, by omega, by omega, hq 1 (by omega) (by omega), ⟨(hr 1 (by omega) (by omega)).2, by omega, by omega, h8, (hr 1 (by omega) (by omega)).1.1, (hr 1 (by omega) (by omega)).1.2⟩, by rw [quotaM_eq now l 1 (by omega)]; try rfl⟩, fun d1 => ⟨fun c1 => ⟨by omega, by omega, by omega, by omega, by omega, hq 2 (by omega) (by omega), ⟨(hr 2 (by omega) (by omega)).2, by omega, by omega, h8, (hr 2 (by omega) (by omega)).1.1, (hr 2 (by omega) (by omega)).1.2⟩, by rw [quotaM_eq now l 2 (by omega)]; try rfl⟩, fun d2 => ⟨fun c1 => ⟨by omega, by omega, by omega, by omega, by omega, hq 3 (by omega) (by omega), ⟨(hr 3 (by omega) (by omega)).2, by omega, by omega, h8, (hr 3 (by omega) (by omega)).1.1, (hr 3 (by omega) (by omega)).1.2⟩, by rw [quotaM_eq now l 3 (by omega)]; try rfl⟩, fun d3 => ⟨fun c1 => ⟨by omega, by omega, by omega, by omega, by omega, hq 4 (by omega) (by omega), ⟨(hr 4 (by omega) (by omega)).2, by omega, by omega, h8, (hr 4 (by omega) (by omega)).1.1, (hr 4 (by omega) (by omega)).1.2⟩, by rw [quotaM_eq now l 4 (by omega)]; try rfl⟩, fun d4 => ⟨fun c1 => ⟨by omega, by omega, by omega, by omega, by omega, hq 5 (by omega) (by omega), ⟨(hr 5 (by omega) (by omega)).2, by omega, by omega, h8, (hr 5 (by omega) (by omega)).1.1, (hr 5 (by omega) (by omega)).1.2⟩, by rw [quotaM_eq now l 5 (by omega)]; try rfl⟩, fun d5 => ⟨fun c1 => ⟨by omega, by omega, by omega, by omega, by omega, hq 6 (by omega) (by omega), ⟨(hr 6 (by omega) (by omega)).2, by omega, by omega, h8, (hr 6 (by omega) (by omega)).1.1, (hr 6 (by omega) (by omega)).1.2⟩, by rw [quotaM_eq now l 6 (by omega)]; try rfl⟩, fun d6 => ⟨fun c1 => ⟨by omega, by omega, by omega, by omega, by omega, hq 7 (by omega) (by omega), ⟨(hr 7 (by omega) (by omega)).2, by omega, by omega, h8, (hr 7 (by omega) (by omega)).1.1, (hr 7 (by omega) (by omega)).1.2⟩, by rw [quotaM_eq now l 7 (by omega)]; try rfl⟩, fun d7 => ⟨fun c1 => ⟨by omega, by omega, by omega, by omega, by omega, hq 8 (by omega) (by omega), ⟨(hr 8 (by omega) (by omega)).2, by omega, by omega, h8, (hr 8 (by omega) (by omega)).1.1, (hr 8 (by omega) (by omega)).1.2⟩, by rw [quotaM_eq now l 8 (by omega)]; try rfl⟩, fun d8 => by exfalso; omega⟩⟩⟩⟩⟩⟩⟩⟩
theorem quotas_own : PureOwnOK Try.prog 15 [ints, ints] [ints] (fun x => (List.length (α := Int) x.2.1 : Int) < big) (fun x => (quotaL x.1 x.2.1, ())) :=
  fn_own (E := C2) (n := 100) C2_ok Try.func15 bodyQ lQ fun x h => quotas_t x.1 x.2.1 h
theorem quotas_ok : PureOK Try.prog 15 [ints, ints] [ints] (fun x => (List.length (α := Int) x.2.1 : Int) < big) (fun x => (quotaL x.1 x.2.1, ())) := quotas_own.pure
end Pl
