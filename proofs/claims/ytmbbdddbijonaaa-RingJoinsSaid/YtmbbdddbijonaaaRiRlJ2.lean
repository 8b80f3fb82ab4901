import Derived.Test.YtmbbdddbijonaaaRiRlJ
import Derived.Test.YtmbbdddbijonaaaRiRk
namespace Pl
open Go Sx Go.Proofs Go.RowKit
theorem joins_t (a b c : RingD) (ha : okR a) (hb : okR b) (hc : okR c) : (fnT VJ [] 100 Try.f3 [Ring, Ring, Ring] [.bool] (a, b, c, ())).all fun y => y = (true, ()) := by
  refine Tree.all_eq (tRJ a b c) ?_
  show Tree.all (α := Bool × Unit) _ Yes
  have hJ : ∀ x y : RingD, (joinR x y).2.1 = joinP x.2.1 y.2.1 := fun _ _ => rfl
  simp only [all_leaf, all_fork, all_req, all_lt, yes_t, yes_f, yes_iff, tab_r ha, tab_r hb, tab_r hc, tab_r (joinR_ok _ _), decide_eq_true_eq, decide_eq_false_iff_not, true_and, and_true, implies_true]
  refine fun c1 c2 c3 => ?_
  have a1 : (a.2.1.2.2.length : Int) < 17592186044416 := by omega
  have b1 : (b.2.1.2.2.length : Int) < 17592186044416 := by omega
  have d1 : (c.2.1.2.2.length : Int) < 17592186044416 := by omega
  have ab := joinP_small a1 b1
  have bc := joinP_small b1 d1
  have abc := joinP_small ab d1
  have e1 : joinR b a = joinR a b := joinR_comm b a
  have e2 : joinR a (joinR b c) = joinR (joinR a b) c := (joinR_assoc a b c).symm
  rw [e1, e2, joinR_self ha]
  simp only [hJ, a1, b1, d1, ab, bc, abc, sameR_self, below_join a b ha, below_join' a b hb, and_self, conjP, implies_true, true_and, and_true, Bool.not_true, Bool.false_eq_true, false_implies, forall_const]
  have k1 : (belowR a c && !belowR b c == belowR (joinR a b) c) = false := by
    cases h : belowR a c with
    | false => rfl
    | true =>
      have : belowR b c = belowR (joinR a b) c := by
        rw [Bool.eq_iff_iff, belowR_iff, belowR_iff]
        rw [belowR_iff] at h
        rw [joinR_comm a b, joinR_assoc, h]
      rw [this]; simp
  have k2 : ∀ x y z : RingD, belowR x y = true → belowR y z = true → belowR x z = true := fun x y z => below_trans
  have k3 : belowR a b = true → belowR b a = sameR a b := fun h => by
    rw [Bool.eq_iff_iff, belowR_iff, sameR_iff]
    rw [belowR_iff] at h
    rw [joinR_comm, h]
    exact ⟨fun h => h.symm, fun h => h.symm⟩
  simp only [k1, Bool.false_eq_true, false_implies, forall_const, true_and, Bool.not_eq_true', Bool.not_eq_false']
  refine ⟨?_, fun _ => ?_⟩
  · cases h1 : belowR a b with
    | false => simp
    | true =>
      have h3 := k3 h1
      rw [h3]
      cases h2 : belowR b c with
      | false => simp
      | true => rw [k2 a b c h1 h2]; simp
  · cases h1 : mayR a with
    | false => simp
    | true =>
      cases h2 : mayR b with
      | false => simp
      | true => rw [mayR_join ha hb h1 h2]; simp
theorem joins_ok : PureOK Try.prog 3 [Ring, Ring, Ring] [.bool] (fun x => okR x.1 ∧ okR x.2.1 ∧ okR x.2.2.1) (fun _ => (true, ())) :=
  fn_pure (E := VJ) (n := 100) VJ_ok Try.func3 bodyRJ .nil fun x h => joins_t x.1 x.2.1 x.2.2.1 h.1 h.2.1 h.2.2
end Pl
