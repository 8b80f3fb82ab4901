import Derived.Test.YtenjakhegeclhaaClCh
namespace Pl
open Go Sx Go.Proofs Go.RowKit
theorem fltB_congr (f g : Nat → Bool) : ∀ (c j : Nat), (∀ k, j ≤ k → k < j + c → f k = g k) → fltB f c j = fltB g c j
  | 0, _, _ => rfl
  | c + 1, j, h => by
    simp only [fltB]
    rw [h j (by omega) (by omega), fltB_congr f g c (j + 1) (fun k a b => h k (by omega) (by omega))]
theorem memL_congr {a b : List Int} (h : ∀ k : Nat, k < 8 → ((k : Int) ∈ a ↔ (k : Int) ∈ b)) : memL a = memL b := by
  unfold memL
  refine fltB_congr _ _ _ _ fun k _ h2 => ?_
  have := h k (by omega)
  simp only [List.contains_eq_mem, decide_eq_decide, this]
theorem asgL_congr {now a b : List Int} (h : memL a = memL b) : asgL now a = asgL now b := by
  unfold asgL quotaL; rw [h]
theorem quotaL_congr {now a b : List Int} (h : memL a = memL b) : quotaL now a = quotaL now b := by
  unfold quotaL; rw [h]
theorem asgM_len (now m q : List Int) : (asgM now m q).length = 16 := by
  unfold asgM
  rw [asg1_len]
  have : ∀ (c p : Nat) (to la : List Int), (asg0 now m c p to la).1.length = to.length := by
    intro c; induction c with
    | zero => intro p to la; rfl
    | succ c ih => intro p to la; simp only [asg0]; split <;> rw [ih] <;> simp
  rw [this]; simp
theorem asgL_len (now ms : List Int) : (asgL now ms).length ≤ 16 := by
  unfold asgL; split
  · simp
  · rw [asgM_len]; omega
theorem quotaL_len (now ms : List Int) : (quotaL now ms).length ≤ 8 := by
  by_cases h : (memL ms).length = 0
  · unfold quotaL; rw [if_pos h]; simp
  · have := (quotaL_all now ms h).2.1
    have := memL_len ms
    omega
theorem order_t (now ms : List Int) (turn : Int) : (fnT W4 [] 100 Try.f7 [ints, ints, i64] [.bool] (now, ms, turn, ())).all fun y => y = (true, ()) := by
  refine Tree.all_eq (tOr now ms turn) ?_
  show Tree.all (α := Bool × Unit) _ Yes
  by_cases c1 : (ms.length : Int) > 100
  · simp only [all_leaf, all_fork, all_req, yes_t, yes_f, true_and, and_true, decide_eq_true_eq, decide_eq_false_iff_not, implies_true]
    exact fun _ h => absurd c1 h
  · have e1 : IntKind.i64.wrap ((ms.length : Int) + 1) = (ms.length : Int) + 1 := IntWalk.i64_in _ (by omega)
    have e2 : IntKind.u64.wrap ((ms.length : Int) + 1) = (ms.length : Int) + 1 := IntWalk.u64_in _ (by omega)
    obtain ⟨k, hk, k0, k1⟩ := umod turn ((ms.length : Int) + 1) (by omega) (by omega)
    rw [e1, e2, hk]
    have hm : memL ([-1, 8, 99] ++ List.take ((ms.length : Int).toNat - k.toNat) (ms.drop k.toNat) ++ ms ++ List.take (k.toNat - 0) ms) = memL ms := memL_congr fun j hj => by
      simp only [List.mem_append, List.mem_cons, List.not_mem_nil, or_false]
      constructor
      · rintro ((((h | h | h) | h) | h) | h)
        · omega
        · omega
        · omega
        · exact List.mem_of_mem_drop (List.mem_of_mem_take h)
        · exact h
        · exact List.mem_of_mem_take h
      · exact fun h => .inl (.inr h)
    have hl := asgL_len
    have hq := quotaL_len
    have hn := memL_len ms
    have ha := fun x => asgL_congr (now := x) hm
    have hb := fun x => quotaL_congr (now := x) hm
    simp only [all_leaf, all_fork, all_req, yes_t, yes_f, true_and, and_true, decide_eq_true_eq, decide_eq_false_iff_not, implies_true, hm, ha, hb, not_true_eq_false, false_implies, List.length_append, List.length_take, List.length_drop, List.length_cons, List.length_nil]
    intro _ _
    have := hl now ms
    have := hq now ms
    omega
theorem bodyOr : Try.f7.body = some (bodyOf Try.f7) := by kernel_rfl
theorem order_ok : PureOK Try.prog 7 [ints, ints, i64] [.bool] (fun _ => True) (fun _ => (true, ())) :=
  fn_pure (E := W4) (n := 100) W4_ok Try.func7 bodyOr .nil fun x _ => order_t x.1 x.2.1 x.2.2.1
end Pl
