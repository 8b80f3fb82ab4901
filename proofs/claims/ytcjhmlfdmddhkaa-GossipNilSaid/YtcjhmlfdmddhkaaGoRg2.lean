import Derived.Test.YtcjhmlfdmddhkaaGoRg
import Derived.Test.YtcjhmlfdmddhkaaGoPlO
namespace Pl
open Go Sx Go.Proofs Go.RowKit
theorem eq16 {a b : List EntryD} (ha : a.length = 16) (hb : b.length = 16) : (((a.getD 0 (0, 0)).1 == (b.getD 0 (0, 0)).1 && ((a.getD 0 (0, 0)).2 == (b.getD 0 (0, 0)).2 && true)) && (((a.getD 1 (0, 0)).1 == (b.getD 1 (0, 0)).1 && ((a.getD 1 (0, 0)).2 == (b.getD 1 (0, 0)).2 && true)) && (((a.getD 2 (0, 0)).1 == (b.getD 2 (0, 0)).1 && ((a.getD 2 (0, 0)).2 == (b.getD 2 (0, 0)).2 && true)) && (((a.getD 3 (0, 0)).1 == (b.getD 3 (0, 0)).1 && ((a.getD 3 (0, 0)).2 == (b.getD 3 (0, 0)).2 && true)) && (((a.getD 4 (0, 0)).1 == (b.getD 4 (0, 0)).1 && ((a.getD 4 (0, 0)).2 == (b.getD 4 (0, 0)).2 && true)) && (((a.getD 5 (0, 0)).1 == (b.getD 5 (0, 0)).1 && ((a.getD 5 (0, 0)).2 == (b.getD 5 (0, 0)).2 && true)) && (((a.getD 6 (0, 0)).1 == (b.getD 6 (0, 0)).1 && ((a.getD 6 (0, 0)).2 == (b.getD 6 (0, 0)).2 && true)) && (((a.getD 7 (0, 0)).1 == (b.getD 7 (0, 0)).1 && ((a.getD 7 (0, 0)).2 == (b.getD 7 (0, 0)).2 && true)) && (((a.getD 8 (0, 0)).1 == (b.getD 8 (0, 0)).1 && ((a.getD 8 (0, 0)).2 == (b.getD 8 (0, 0)).2 && true)) && (((a.getD 9 (0, 0)).1 == (b.getD 9 (0, 0)).1 && ((a.getD 9 (0, 0)).2 == (b.getD 9 (0, 0)).2 && true)) && (((a.getD 10 (0, 0)).1 == (b.getD 10 (0, 0)).1 && ((a.getD 10 (0, 0)).2 == (b.getD 10 (0, 0)).2 && true)) && (((a.getD 11 (0, 0)).1 == (b.getD 11 (0, 0)).1 && ((a.getD 11 (0, 0)).2 == (b.getD 11 (0, 0)).2 && true)) && (((a.getD 12 (0, 0)).1 == (b.getD 12 (0, 0)).1 && ((a.getD 12 (0, 0)).2 == (b.getD 12 (0, 0)).2 && true)) && (((a.getD 13 (0, 0)).1 == (b.getD 13 (0, 0)).1 && ((a.getD 13 (0, 0)).2 == (b.getD 13 (0, 0)).2 && true)) && (((a.getD 14 (0, 0)).1 == (b.getD 14 (0, 0)).1 && ((a.getD 14 (0, 0)).2 == (b.getD 14 (0, 0)).2 && true)) && (((a.getD 15 (0, 0)).1 == (b.getD 15 (0, 0)).1 && ((a.getD 15 (0, 0)).2 == (b.getD 15 (0, 0)).2 && true)) && true)))))))))))))))) = decide (a = b) := by
  obtain ⟨a0, a1, a2, a3, a4, a5, a6, a7, a8, a9, a10, a11, a12, a13, a14, a15, rfl⟩ := len16 ha
  obtain ⟨b0, b1, b2, b3, b4, b5, b6, b7, b8, b9, b10, b11, b12, b13, b14, b15, rfl⟩ := len16 hb
  rw [Bool.eq_iff_iff]
  simp only [List.getD_cons_zero, List.getD_cons_succ, Bool.and_eq_true, Bool.and_true, beq_iff_eq, decide_eq_true_eq, List.cons.injEq, and_true, Prod.ext_iff]
theorem rsame_ok : PureOK Try.prog 18 [Ring, Ring] [.bool] S2r (fun x => (sameR x.1 x.2.1, ())) :=
  fn_pure (E := Q2) (n := 100) Q2_ok Try.func18 bodyS .nil fun x h => Tree.all_eq (tS x.1 x.2.1) (by
    obtain ⟨⟨a, p, e⟩, ⟨b, q, f⟩, _⟩ : RingD × RingD × Unit := x
    obtain ⟨⟨h1, h2⟩, ⟨h3, h4⟩, h5, h6⟩ := h
    show Tree.all _ fun y => y = (sameR (a, p, e) (b, q, f), ())
    rw [eq8 h1 h3, eq16 h2 h4]
    simp only [Tree.all, decide_eq_true_eq, decide_eq_false_iff_not]
    refine ⟨fun c => ⟨fun d => ⟨⟨h5, h6⟩, ?_⟩, fun d => ?_⟩, fun c => ?_⟩
    · subst c; subst d
      have : (cmpP p q == 0) = sameR (a, p, e) (a, q, e) := by
        rw [Bool.eq_iff_iff]; simp [sameR, cmpP_zero]
      rw [this]
    · simp [sameR, d]
    · simp [sameR, c])
def stB (s : Int) : Bool := !(decide (s < 0)) && !(decide (s > 4))
def mayR (r : RingD) : Bool := (tab 8 r.1 0).all stB && (mayB r.2.1 && (tab 16 r.2.2 (0, 0)).all mayE)
theorem tabN_mem {α : Type} {xs : List α} {z : α} : ∀ (c j k : Nat), k < c → xs.getD (j + k) z ∈ tabN xs z c j
  | c + 1, j, 0, _ => by simp [tabN]
  | c + 1, j, k + 1, h => by
    have := tabN_mem (xs := xs) (z := z) c (j + 1) k (by omega)
    rw [show j + 1 + k = j + (k + 1) by omega] at this
    exact List.mem_cons_of_mem _ this
theorem tab_mem {α : Type} {xs : List α} {z : α} {n k : Nat} (h : k < n) : xs.getD k z ∈ tab n xs z := by
  have := tabN_mem (xs := xs) (z := z) n 0 k h
  rwa [Nat.zero_add] at this
theorem all_false {α : Type} {l : List α} {f : α → Bool} {x : α} (h : x ∈ l) (hf : f x = false) : l.all f = false := by
  cases hc : l.all f with
  | false => rfl
  | true => rw [List.all_eq_true] at hc; rw [hc x h] at hf; cases hf
theorem mayF1 {r : RingD} {j : Nat} (c : decide (r.1.getD j 0 < 0) = true) (h : j < 8) : mayR r = false := by
  unfold mayR; rw [all_false (tab_mem h) (by unfold stB; rw [c]; rfl)]; rfl
theorem mayF2 {r : RingD} {j : Nat} (c : decide (r.1.getD j 0 > 4) = true) (h : j < 8) : mayR r = false := by
  unfold mayR; rw [all_false (tab_mem h) (by unfold stB; rw [c]; simp)]; rfl
theorem mayF3 {r : RingD} (c : mayB r.2.1 = false) : mayR r = false := by
  unfold mayR; rw [c]; simp
theorem mayF4 {r : RingD} {j : Nat} (c : (!mayE (r.2.2.getD j (0, 0))) = true) (h : j < 16) : mayR r = false := by
  unfold mayR; rw [all_false (f := mayE) (tab_mem h) (by simpa using c)]; simp
theorem ret1 {a b : Bool} (h : b = a) : ((a, ()) : Bool × Unit) = (b, ()) := by rw [h]
theorem rmay_ok : PureOK Try.prog 20 [Ring] [.bool] S1r (fun x => (mayR x.1, ())) :=
  fn_pure (E := Q6) (n := 100) Q6_ok Try.func20 bodyM .nil fun x h => Tree.all_eq (tM x.1) (by
    obtain ⟨⟨h1, h2⟩, h3⟩ := h
    unfold small at h3
    simp only [Tree.all, true_and]
    iterate 8 (refine ⟨fun c => ret1 (mayF1 c (by decide)), fun _ => ⟨fun c => ret1 (mayF2 c (by decide)), fun _ => ?_⟩⟩)
    refine ⟨by omega, fun _ => ?_, fun c => ret1 (mayF3 c)⟩
    iterate 16 (refine ⟨fun c => ret1 (mayF4 c (by decide)), fun _ => ?_⟩)
    refine ret1 ?_
    simp_all [mayR, tab, tabN, stB])
theorem mayR_iff {r : RingD} (h : okR r) : mayR r = (r.1.all stB && (mayB r.2.1 && r.2.2.all mayE)) := by
  unfold mayR; rw [tab_eq h.1, tab_eq h.2]
end Pl
