import Derived.Test.YtcjhmlfdmddhkaaGoRg3
namespace Pl
open Go Sx Go.Proofs Go.RowKit
theorem tab_r {r : RingD} (h : okR r) : (tab 8 r.1 0, r.2.1, tab 16 r.2.2 (0, 0)) = r := by
  rw [tab_eq h.1, tab_eq h.2]
def belowR (a b : RingD) : Bool := sameR (joinR a b) b
theorem joinR_ok (a b : RingD) : okR (joinR a b) := ⟨tabL_len _ _, tabL_len _ _⟩
theorem joinP_small {p q : PlanD} {m : Int} (h : (p.2.2.length : Int) < m) (k : (q.2.2.length : Int) < m) : ((joinP p q).2.2.length : Int) < m := by
  unfold joinP; split <;> assumption
theorem below_t (a b : RingD) (h1 : okR a) (h2 : okR b) (h3 : (a.2.1.2.2.length : Int) < small) (h4 : (b.2.1.2.2.length : Int) < small) : (fnT Q7 [] 100 Try.f21 [Ring, Ring] [.bool] (a, b, ())).all fun y => y = (belowR a b, ()) := by
  rw [tB, tab_r h1, tab_r h2]
  simp only [Tree.all, true_and]
  refine ⟨⟨h3, h4⟩, fun y hy => ?_⟩
  subst hy
  dsimp only
  rw [tab_r (joinR_ok _ _)]
  exact ⟨⟨joinP_small h3 h4, h4⟩, rfl⟩
theorem rbelow_ok : PureOK Try.prog 21 [Ring, Ring] [.bool] S2r (fun x => (belowR x.1 x.2.1, ())) :=
  fn_pure (E := Q7) (n := 100) Q7_ok Try.func21 bodyB .nil fun x h => below_t x.1 x.2.1 h.1 h.2.1 h.2.2.1 h.2.2.2
def zeroR : RingD := (List.replicate 8 0, (0, 0, []), List.replicate 16 (0, 0))
def firstR (n : Int) : RingD × Bool := if nodeB n then (((List.replicate 8 (0 : Int)).set n.toNat 2, (0, 0, []), List.replicate 16 (1, n)), true) else (zeroR, false)
theorem nodeB_iff {n : Int} : nodeB n = true ↔ 0 ≤ n ∧ n < 8 := by simp [nodeB]
def riseR (r : RingD) (n s : Int) : RingD × Int :=
  if mayR r && (nodeB n && (!decide (s < 1) && !decide (s > 4))) then if decide (r.1.getD n.toNat 0 ≥ s) then (zeroR, 8) else ((r.1.set n.toNat s, r.2.1, r.2.2), 0) else (zeroR, 1)
abbrev S1rn : TDs [Ring, i64, i64] → Prop := fun x => okR x.1 ∧ (List.length (α := Int) x.1.2.1.2.2 : Int) < small
theorem rise_t (r : RingD) (n s : Int) (h1 : okR r) (h2 : (r.2.1.2.2.length : Int) < small) : (fnT Q8 [] 100 Try.f24 [Ring, i64, i64] [Ring, i64] (r, n, s, ())).all fun y => y = ((riseR r n s).1, (riseR r n s).2, ()) := by
  rw [tR]
  rw [tab_r h1, tab_eq h1.1]
  rw [tab_eq h1.2]
  simp only [Tree.all, true_and, Bool.not_eq_true', Bool.not_eq_false']
  refine ⟨h2, fun c => ?_, fun c => ⟨fun d => ?_, fun d => ⟨fun e => ?_, fun e => ⟨fun f => ?_, fun f => ?_⟩⟩⟩⟩
  · simp only [riseR, c]; rfl
  · simp only [riseR, c, d]; rfl
  · simp only [riseR, c, d, e]; rfl
  · simp only [riseR, c, d, e, f]; rfl
  · have hn := nodeB_iff.1 d
    refine ⟨hn, hn, fun g => ?_, fun g => ⟨hn, hn, h2, ?_⟩⟩
    · simp only [riseR, c, d, e, f, g]; rfl
    · rw [tabL_put h1.1 hn.1]
      simp only [riseR, c, d, e, f, g]; rfl
theorem rrise_ok : PureOK Try.prog 24 [Ring, i64, i64] [Ring, i64] S1rn (fun x => ((riseR x.1 x.2.1 x.2.2.1).1, (riseR x.1 x.2.1 x.2.2.1).2, ())) :=
  fn_pure (E := Q8) (n := 100) Q8_ok Try.func24 bodyR .nil fun x h => rise_t x.1 x.2.1 x.2.2.1 h.1 h.2
def ownerR (r : RingD) (p : Int) : Int :=
  if decide (p ≥ 0) && (decide (p < 16) && (!((r.2.2.getD p.toNat (0, 0)).1 == 0) && mayE (r.2.2.getD p.toNat (0, 0)))) then (r.2.2.getD p.toNat (0, 0)).2 else -1
abbrev S1p : TDs [Ring, i64] → Prop := fun x => okR x.1 ∧ (List.length (α := Int) x.1.2.1.2.2 : Int) < small
def targetR (r : RingD) (p : Int) : Int :=
  if decide (p ≥ 0) && (decide (p < 16) && (!((r.2.1.2.2.length : Int) == 0) && mayB r.2.1)) then r.2.1.2.2.getD p.toNat 0 else -1
theorem may_full {p : PlanD} (h : mayB p = true) (h0 : p.2.2.length ≠ 0) : fullB p.2.2 = true ∧ p.2.2.length = 16 := by
  have h1 : fullB p.2.2 = true := by
    unfold mayB at h
    rw [if_neg h0] at h
    simp only [Bool.and_eq_true] at h
    exact h.2
  refine ⟨h1, ?_⟩
  simp only [fullB, Bool.and_eq_true, decide_eq_true_eq] at h1
  exact h1.1
end Pl
