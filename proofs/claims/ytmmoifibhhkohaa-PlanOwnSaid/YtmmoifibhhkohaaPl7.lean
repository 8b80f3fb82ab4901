import Derived.Test.YtmmoifibhhkohaaPl6
namespace Pl
open Go Sx Go.Proofs Go.RowKit

theorem cmpI_neg (a b : Int) : cmpI b a = -cmpI a b := by
  unfold cmpI; split <;> split <;> (try split) <;> omega
theorem cmpI_zero {a b : Int} : cmpI a b = 0 ↔ a = b := by
  unfold cmpI; split <;> (try split) <;> omega
theorem cmpL_neg : ∀ l m : List Int, cmpL m l = -cmpL l m
  | [], [] => rfl
  | [], _ :: _ => rfl
  | _ :: _, [] => rfl
  | x :: r, y :: s => by
    simp only [cmpL, cmpI_neg x y, cmpL_neg r s]
    split <;> split <;> omega
theorem cmpL_zero : ∀ l m : List Int, cmpL l m = 0 ↔ l = m
  | [], [] => by simp [cmpL]
  | [], _ :: _ => by simp [cmpL]
  | _ :: _, [] => by simp [cmpL]
  | x :: r, y :: s => by
    simp only [cmpL, List.cons.injEq]
    split
    · rename_i h; rw [cmpL_zero r s, cmpI_zero.1 h]; simp
    · rename_i h
      have : ¬ x = y := fun e => h (cmpI_zero.2 e)
      simp [h, this]
theorem cmpP_neg (a b : PlanD) : cmpP b a = -cmpP a b := by
  simp only [cmpP, orL, cmpI_neg a.1 b.1, cmpI_neg a.2.1 b.2.1, cmpI_neg (a.2.2.length : Int) b.2.2.length, cmpL_neg a.2.2 b.2.2]
  repeat' split
  all_goals omega
theorem cmpP_zero (p q : PlanD) : cmpP p q = 0 ↔ p = q := by
  obtain ⟨v, b, l⟩ := p
  obtain ⟨v', b', l'⟩ := q
  simp only [cmpP, orL, Prod.mk.injEq]
  constructor
  · intro h
    split at h
    · rename_i h1
      split at h
      · rename_i h2
        split at h
        · split at h
          · rename_i h4; exact ⟨cmpI_zero.1 h1, cmpI_zero.1 h2, (cmpL_zero _ _).1 h4⟩
          · rename_i h4; exact absurd h h4
        · rename_i h3; exact absurd h h3
      · rename_i h2; exact absurd h h2
    · rename_i h1; exact absurd h h1
  · rintro ⟨rfl, rfl, rfl⟩
    simp [cmpI_zero.2, (cmpL_zero _ _).2]
theorem join_comm (a b : PlanD) : joinP a b = joinP b a := by
  unfold joinP
  have h := cmpP_neg a b
  by_cases h0 : cmpP a b = 0
  · have := (cmpP_zero a b).1 h0
    subst this; rfl
  · split <;> split <;> first | rfl | omega
theorem next_zero {p : PlanD} {n : Int} {t : List Int} (h : (nextP p n t).2 = 0) : nextP p n t = ((p.1 + 1, n, t), 0) ∧ mayB p = true ∧ nodeB n = true ∧ fullB t = true ∧ p.1 ≠ 1000000 ∧ 0 ≤ p.1 ∧ p.1 ≤ 1000000 := by
  unfold nextP at h ⊢
  split at h
  · rename_i hc
    simp only [Bool.and_eq_true] at hc
    split at h
    · simp at h
    · rename_i h6
      have := mayB_bound (v := p.1) (b := p.2.1) (l := p.2.2) hc.1.1
      simp [hc, h6]; omega
  · simp at h

theorem t6 (v b : Int) (l : List Int) (x y : Int) (s t : List Int) :
  fnT EL [] 100 Try.f6 [Plan, i64, i64, ints, ints] [.bool] ((v, b, l), x, y, s, t, ()) =
.req ((1 : Int) < (4611686018427387904 : Int)) (
 .fork (!Pl.fewL [(v, b, l)]) (
  .req (True) (
   .leaf ((true, ())))) (
  .fork (decide ((↑s.length : Int) > (100 : Int))) (
   .req (True) (
    .leaf ((true, ())))) (
   .fork (decide ((↑t.length : Int) > (100 : Int))) (
    .req (True) (
     .leaf ((true, ())))) (
    .req ((↑l.length : Int) < (17592186044416 : Int) ∧ (↑s.length : Int) < (17592186044416 : Int)) (
     .req ((↑l.length : Int) < (17592186044416 : Int) ∧ (↑t.length : Int) < (17592186044416 : Int)) (
      .fork ((Pl.nextP (v, b, l) x s).2 != (0 : Int)) (
       .req (True) (
        .leaf ((true, ())))) (
       .fork ((Pl.nextP (v, b, l) y t).2 != (0 : Int)) (
        .req (True) (
         .leaf ((true, ())))) (
        .req ((↑(Pl.nextP (v, b, l) x s).1.2.2.length : Int) < (17592186044416 : Int) ∧ (↑(Pl.nextP (v, b, l) y t).1.2.2.length : Int) < (17592186044416 : Int)) (
         .fork ((Pl.joinP (Pl.nextP (v, b, l) x s).1 (Pl.nextP (v, b, l) y t).1).1 == IntKind.i64.wrap (v + (1 : Int))) (
          .fork ((Pl.joinP (Pl.nextP (v, b, l) x s).1 (Pl.nextP (v, b, l) y t).1).2.1 == if y > x then y else x) (
           .req ((↑(Pl.nextP (v, b, l) y t).1.2.2.length : Int) < (17592186044416 : Int) ∧ (↑(Pl.nextP (v, b, l) x s).1.2.2.length : Int) < (17592186044416 : Int)) (
            .req ((↑(Pl.joinP (Pl.nextP (v, b, l) x s).1 (Pl.nextP (v, b, l) y t).1).2.2.length : Int) < (4611686018427387904 : Int)) (
             .fork (Pl.sameF (Pl.joinP (Pl.nextP (v, b, l) x s).1 (Pl.nextP (v, b, l) y t).1) (Pl.joinP (Pl.nextP (v, b, l) y t).1 (Pl.nextP (v, b, l) x s).1)) (
              .fork (x == y) (
               .req (True) (
                .leaf ((true, ())))) (
               .req ((↑(Pl.joinP (Pl.nextP (v, b, l) x s).1 (Pl.nextP (v, b, l) y t).1).2.2.length : Int) < (4611686018427387904 : Int)) (
                .fork (Pl.sameF (Pl.joinP (Pl.nextP (v, b, l) x s).1 (Pl.nextP (v, b, l) y t).1) (Pl.nextP (v, b, l) x s).1 == decide (x > y)) (
                 .req (True) (
                  .leaf ((true, ())))) (
                 .leaf ((false, ())))))) (
              .leaf ((false, ())))))) (
           .leaf ((false, ())))) (
          .leaf ((false, ())))))))))))) := by kernel_rfl
theorem two_t (v b : Int) (l : List Int) (x y : Int) (s t : List Int) : (fnT EL [] 100 Try.f6 [Plan, i64, i64, ints, ints] [.bool] ((v, b, l), x, y, s, t, ())).all fun r => r = (true, ()) := by
  rw [t6]
  simp only [Tree.all, Bool.not_eq_true', Bool.not_eq_false', decide_eq_true_eq, decide_eq_false_iff_not, bne_iff_ne, ne_eq, bne_eq_false_iff_eq, beq_iff_eq, beq_eq_false_iff_ne]
  refine ⟨by omega, fun _ => ⟨trivial, rfl⟩, fun c0 => ⟨fun _ => ⟨trivial, rfl⟩, fun c1 => ⟨fun _ => ⟨trivial, rfl⟩, fun c2 => ?_⟩⟩⟩
  have hl : l.length ≤ 100 := by simpa [fewL] using c0
  refine ⟨⟨by omega, by omega⟩, ⟨by omega, by omega⟩, fun _ => ⟨trivial, rfl⟩, fun c3 => ⟨fun _ => ⟨trivial, rfl⟩, fun c4 => ?_⟩⟩
  obtain ⟨e1, _, _, _, hv, hv0, hv1⟩ := next_zero c3
  obtain ⟨e2, _⟩ := next_zero c4
  simp only at e1 e2 hv hv0 hv1
  rw [e1, e2, IntWalk.i64_in (v + 1) (by omega)]
  simp only
  rw [join_comm (v + 1, y, t) (v + 1, x, s)]
  have hj : joinP (v + 1, x, s) (v + 1, y, t) = if cmpP (v + 1, y, t) (v + 1, x, s) > 0 then (v + 1, y, t) else (v + 1, x, s) := rfl
  have hc : cmpI y x ≠ 0 → cmpP (v + 1, y, t) (v + 1, x, s) = cmpI y x := by
    intro h
    simp [cmpP, orL, cmpI_zero.2, h]
  have hlen : (joinP (v + 1, x, s) (v + 1, y, t)).2.2.length ≤ 100 := by
    rw [hj]; split <;> simp only <;> omega
  have h1 : (joinP (v + 1, x, s) (v + 1, y, t)).1 = v + 1 := by rw [hj]; split <;> rfl
  have h2 : (joinP (v + 1, x, s) (v + 1, y, t)).2.1 = if y > x then y else x := by
    rw [hj]
    by_cases hxy : y = x
    · subst hxy; split <;> simp
    · rw [hc (fun h => hxy (cmpI_zero.1 h))]
      unfold cmpI
      by_cases h3 : y < x
      · simp [h3, show ¬ y > x by omega]
      · simp [h3, show y > x by omega]
  refine ⟨⟨by omega, by omega⟩, fun _ => ⟨fun _ => ⟨⟨by omega, by omega⟩, by omega, fun _ => ⟨fun _ => ⟨trivial, rfl⟩, fun hxy => ⟨by omega, fun _ => ⟨trivial, rfl⟩, fun h => ?_⟩⟩, fun h => ?_⟩, fun h => absurd h2 h⟩, fun h => absurd h1 h⟩
  · exfalso
    apply h
    rw [hj, hc (fun h => hxy (cmpI_zero.1 h).symm)]
    unfold cmpI
    by_cases h3 : y < x
    · simp [h3, sameF]
    · have : y > x := by omega
      simp [h3, this, sameF]
      intro h; omega
  · simp [sameF] at h
theorem two_ok : PureOK Try.prog 6 [Plan, i64, i64, ints, ints] [.bool] (fun _ => True) (fun _ => (true, ())) :=
  fn_pure (E := EL) (n := 100) EL_ok Try.func6 body6 .nil fun x _ => two_t x.1.1 x.1.2.1 x.1.2.2 x.2.1 x.2.2.1 x.2.2.2.1 x.2.2.2.2.1
end Pl
