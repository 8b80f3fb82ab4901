import Derived.Test.YtenjakhegeclhaaClChN
namespace Pl
open Go Sx Go.Proofs Go.RowKit
def subs : Nat → Nat → List (List Int)
  | 0, _ => [[]]
  | c + 1, j => subs c (j + 1) ++ (subs c (j + 1)).map (fun l => (j : Int) :: l)
theorem subs_mem (f : Nat → Bool) : ∀ c j, fltB f c j ∈ subs c j
  | 0, _ => by simp [fltB, subs]
  | c + 1, j => by
    have := subs_mem f c (j + 1)
    simp only [fltB, subs]
    split
    · exact List.mem_append_right _ (List.mem_map_of_mem this)
    · exact List.mem_append_left _ this
def chkN (l m : List Int) : Bool := movL [] l == 16 && newB l m && l.getD 0 0 == m.getD 0 0
theorem chkN_all : (subs 8 0).all (fun m => m.length == 0 || chkN (asgM [] m (quotaM [] m)) m) = true := by kernel_rfl
theorem lNw : LpsOK Try.prog Try.f8 [(0, LNw.sp)] := by
  refine .cons (LNw.sound W4_ok (lps := []) (n := 100) (inner rfl) (fun _ => rfl) ?_) .nil
  rintro ⟨l, m, p⟩ ⟨h1, h2, h3, h4, h5⟩
  simp only at h1 h2 h3 h4 h5
  rw [rNw]
  have e : IntKind.i64.wrap ((l.length : Int) - (m.length : Int)) = 16 - (m.length : Int) := by rw [h1]; exact IntWalk.i64_in _ (by omega)
  have e1 : IntKind.i64.wrap (p - 1) = p - 1 := IntWalk.i64_in _ (by omega)
  have e2 : IntKind.i64.wrap (p + 1) = p + 1 := IntWalk.i64_in _ (by omega)
  rw [e, e1, e2]
  simp only [all_leaf, all_fork, all_req, conjP, and_true, true_and, decide_eq_true_eq, decide_eq_false_iff_not]
  refine ⟨fun c => ⟨fun _ => ⟨by omega, by omega, by omega, by omega⟩, fun d => ?_, fun _ => ?_⟩, fun _ => trivial⟩
  · exfalso
    simp only [Bool.and_eq_true, decide_eq_true_eq, beq_iff_eq] at d
    simp only [newB, Bool.or_eq_true, decide_eq_true_eq, List.all_eq_true, List.mem_range, Bool.not_eq_true', beq_eq_false_iff_ne] at h5
    rcases h5 with h5 | h5
    · omega
    · have := h5 p.toNat (by omega)
      rcases this with (h | h) | h
      · omega
      · omega
      · exact h (by rw [d.2]; congr 1; omega)
  · exact ⟨⟨h1, h2, by dsimp only; omega, by dsimp only; omega, h5⟩, by simp only [LNw]; omega, rfl⟩
theorem new_t (ms : List Int) : (fnT W4 [(0, LNw.sp)] 100 Try.f8 [ints] [.bool] (ms, ())).all fun y => y = (true, ()) := by
  refine Tree.all_eq (tNw ms) ?_
  show Tree.all (α := Bool × Unit) _ Yes
  have hn := memL_len ms
  have hmem : memL ms ∈ subs 8 0 := subs_mem _ _ _
  have hA := List.all_eq_true.1 chkN_all _ hmem
  simp only [all_leaf, all_fork, all_req, yes_t, yes_f, yes_iff, true_and, and_true, decide_eq_true_eq, decide_eq_false_iff_not, implies_true, conjP, beq_iff_eq, beq_eq_false_iff_ne, ne_eq, Bool.and_true]
  intro h100
  refine ⟨by omega, by omega, fun c => ?_, fun c => ?_⟩
  · unfold asgL
    rw [if_pos (by omega)]
    simp
  · have hl : (asgL [] ms).length = 16 := by unfold asgL; rw [if_neg (by omega), asgM_len]
    have hL : asgL [] ms = asgM [] (memL ms) (quotaM [] (memL ms)) := by unfold asgL quotaL; rw [if_neg (by omega), if_neg (by omega)]
    rw [← hL] at hA
    simp only [chkN, Bool.or_eq_true, Bool.and_eq_true, beq_iff_eq] at hA
    have hA' := hA.resolve_left (by omega)
    have q : ((((asgL [] ms).length : Int) != 16) || movL [] (asgL [] ms) != 16) = false := by rw [hl, hA'.1.1]; rfl
    refine ⟨fun h => absurd h (by rw [q]; decide), fun _ => ⟨⟨hl, hn, by omega, by omega, hA'.1.2⟩, ?_⟩⟩
    refine ⟨⟨by omega, by omega, by omega, by omega⟩, hA'.2⟩
theorem bodyNw : Try.f8.body = some (bodyOf Try.f8) := by kernel_rfl
theorem new_ok : PureOK Try.prog 8 [ints] [.bool] (fun _ => True) (fun _ => (true, ())) :=
  fn_pure (E := W4) (n := 100) W4_ok Try.func8 bodyNw lNw fun x _ => new_t x.1
end Pl
