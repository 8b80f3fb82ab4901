import Derived.Test.YtcjhmlfdmddhkaaGoGe
namespace Pl
open Go Sx Go.Proofs Go.RowKit
def inL (n : Int) (s : KnD × RingD × Bool) : Prop :=
  fineK s.1 ∧ fineR s.2.1 ∧ s.1.getD 0 none = none ∧ s.1.getD n.toNat none = (if s.2.2 = true then some s.2.1 else none) ∧ (s.2.2 = false → s.2.1 = zeroR)
theorem getD_set_eq {α : Type} {k : List α} {j : Nat} {y z : α} (h : j < k.length) : (k.set j y).getD j z = y := by simp [List.getD, h]
theorem getD_set_ne {α : Type} {k : List α} {i j : Nat} {y z : α} (h : j ≠ i) : (k.set j y).getD i z = k.getD i z := by simp [List.getD, List.getElem?_set_ne h]
theorem inL_step {n : Int} (h1 : 1 ≤ n) (h2 : n ≤ 7) {s : KnD × RingD × Bool} {c : CallD} (h : inL n s) (hc : fineR c.2.2.1) : inL n (stepL n s c) := by
  obtain ⟨k, w, b⟩ := s
  obtain ⟨f1, f2, f3, f4, f5⟩ := h
  simp only at f1 f2 f3 f4 f5
  have hk0 : (heardL 0 k c).getD 0 none = none := by
    unfold heardL
    split
    · rename_i g
      rw [getD_set_ne (by have := g.2.2.1; omega)]; exact f3
    · exact f3
  have hfk := heardL_fine (self := 0) f1 hc
  unfold stepL
  split
  · rename_i g
    refine ⟨hfk, fine_join f2 hc, hk0, ?_, fun e => by cases e⟩
    simp only [if_true]
    unfold heardL
    rw [if_pos ⟨by omega, by omega, by omega, g.2⟩, g.1, getD_set_eq (by rw [f1.1]; omega)]
    congr 2
    unfold knF
    rw [if_pos ⟨by omega, by omega⟩, f4]
    cases b with
    | true => rfl
    | false => simp only [Bool.false_eq_true, if_false]; exact (f5 rfl).symm
  · rename_i g
    refine ⟨hfk, f2, hk0, ?_, f5⟩
    simp only
    rw [← f4]
    unfold heardL
    split
    · rename_i g2
      rw [getD_set_ne (by
        intro e
        exact g ⟨by omega, g2.2.2.2⟩)]
    · rfl
theorem inL_fold {n : Int} (h1 : 1 ≤ n) (h2 : n ≤ 7) : ∀ (l : List CallD) (s : KnD × RingD × Bool), inL n s → (∀ c ∈ l, fineR c.2.2.1) → inL n (l.foldl (stepL n) s)
  | [], _, h, _ => h
  | c :: r, s, h, hl => inL_fold h1 h2 r _ (inL_step h1 h2 h (hl c List.mem_cons_self)) fun c hc => hl c (List.mem_cons_of_mem _ hc)
theorem n7_in {n : Int} : 1 ≤ IntKind.i64.wrap (1 + IntKind.i64.wrap ((IntKind.u64.wrap n).tmod 7)) ∧ IntKind.i64.wrap (1 + IntKind.i64.wrap ((IntKind.u64.wrap n).tmod 7)) ≤ 7 := by
  have h := u64_range n
  have h1 : 0 ≤ (IntKind.u64.wrap n).tmod 7 := Int.tmod_nonneg _ h.1
  have h2 : (IntKind.u64.wrap n).tmod 7 < 7 := Int.tmod_lt_of_pos _ (by omega)
  rw [IntWalk.i64_in ((IntKind.u64.wrap n).tmod 7) (by omega), IntWalk.i64_in _ (by omega)]
  omega
theorem inL_zero (n : Int) (h1 : 1 ≤ n) (h2 : n ≤ 7) : inL n ((List.replicate 8 none : List (Option RingD)), zeroR, false) := by
  refine ⟨⟨rfl, fun x hx => by simp at hx⟩, fine_zero, rfl, ?_, fun _ => rfl⟩
  have : n.toNat < 8 := by omega
  show (List.replicate 8 (none : Option RingD)).getD n.toNat none = _
  rw [List.getD, List.getElem?_replicate, if_pos this]; rfl
theorem reads_call {R : Nat → Prop} {w : World} {x : CallD} {cs : List Value} (h : ReadsC R w Call x cs) : okR x.2.2.1 := by
  obtain ⟨_, _, _, _, _, _, _, _, c1, _, _, h, _⟩ := h
  exact reads_okR h
theorem reads_calls {R : Nat → Prop} {w : World} {l : List CallD} {cs : List Value} (h : ReadsC R w calls l cs) : ∀ c ∈ l, okR c.2.2.1 := by
  obtain ⟨A, cap, _, _, h⟩ := h
  intro c hc
  obtain ⟨i, hi, e⟩ := List.getElem_of_mem hc
  obtain ⟨_, _, _, _, _, _, _, hr⟩ := h i c (by rw [List.getElem?_eq_getElem hi, e])
  exact reads_call hr
theorem learns_ok : PureOK Try.prog 6 [calls, i64] [.bool] (fun x => ∀ c ∈ (x.1 : List CallD), okR c.2.2.1) (fun _ => (true, ())) :=
  fn_pure (E := g10) (n := 100) g10_ok Try.func6 (by kernel_rfl) lLe fun x hx => by
    obtain ⟨l, n, _⟩ : List CallD × Int × Unit := x
    refine Tree.all_eq (tLe l n) ?_
    refine ⟨trivial, fun _ => ⟨trivial, rfl⟩, fun g => ⟨by decide, ?_⟩⟩
    have g : lgF l 0 = true := by simpa using g
    obtain ⟨g1, g2⟩ := lgF_all l 0 g
    have g2 := g2 (by omega) (by omega)
    have hf : ∀ c ∈ l, fineR c.2.2.1 := fun c hc => ⟨hx c hc, g1 c hc⟩
    refine ⟨⟨by omega, by omega, by omega, ⟨rfl, fun x hx => by simp at hx⟩, ⟨⟨rfl, rfl⟩, by omega⟩, hf⟩, by repeat' (first | exact trivial | rfl | apply And.intro), ?_⟩
    obtain ⟨n1, n2⟩ := n7_in (n := n)
    generalize IntKind.i64.wrap (1 + IntKind.i64.wrap ((IntKind.u64.wrap n).tmod 7)) = N at *
    have hI := inL_fold n1 n2 l _ (inL_zero N n1 n2) hf
    simp only [zeroR] at hI
    generalize l.foldl (stepL N) ((List.replicate 8 none : List (Option RingD)), (List.replicate 8 0, (0, 0, []), List.replicate 16 (0, 0)), false) = S at *
    obtain ⟨K, W, B⟩ := S
    obtain ⟨k1, k2, k3, k4, k5⟩ := hI
    simp only at k1 k2 k3 k4 k5
    refine ⟨kn_req k1, fun y hy => ?_⟩
    have hy := hy.trans (kn_eq k1)
    have hkn : knF K N = (W, B) := by
      unfold knF
      rw [if_pos ⟨by omega, by omega⟩, k4]
      cases B with
      | true => rfl
      | false => simp only [Bool.false_eq_true, if_false]; rw [k5 rfl]
    rw [hkn] at hy
    subst hy
    refine ⟨⟨trivial, fun _ => rfl, fun e => by rw [k3] at e; cases e⟩, fun y hy => ?_⟩
    simp only [k3, Option.isNone, cond_true] at hy
    subst hy
    refine ⟨fun _ => ⟨trivial, ⟨⟨rfl, rfl⟩, ⟨rfl, rfl⟩, (by show (W.2.1.2.2.length : Int) < _; have := k2.2; omega), (by show (W.2.1.2.2.length : Int) < _; have := k2.2; omega)⟩, fun _ => ⟨fun _ => ⟨trivial, rfl⟩, fun e => by cases e⟩, fun e => ?_⟩, fun e => ?_⟩
    · have : sameR (etaR W) (etaR W) = false := e
      simp [sameR] at this
    · simp at e
end Pl
namespace Pl
open Go Sx Go.Proofs Go.RowKit
theorem notNone {k : KnD} {j : Nat} (c : (k.getD j none).isNone = false) : (k.getD j none).isSome = true := by
  cases he : k.getD j none <;> rw [he] at c <;> simp_all
theorem knF_some {k : KnD} {n : Int} {x : RingD} (h0 : 0 ≤ n) (h1 : n < 8) (hx : k.getD n.toNat none = some x) : knF k n = (x, true) := by
  unfold knF; rw [if_pos ⟨h0, h1⟩, hx]
theorem fineK_zero : fineK (List.replicate 8 none : List (Option RingD)) := ⟨rfl, fun x hx => by simp at hx⟩
end Pl
