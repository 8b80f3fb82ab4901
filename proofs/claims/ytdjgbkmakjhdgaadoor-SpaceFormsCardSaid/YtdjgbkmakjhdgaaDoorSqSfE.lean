import Derived.Test.YtdjgbkmakjhdgaaDoorSqSfD
namespace Pl
open Go Sx Go.Proofs Go.RowKit
structure AFo where
  l : List Int
  m : List Int
  n : Int
  p : Int
  c : List Int
  i : Int
def LFo : LoopC AFo where
  n0 := 4
  det st := match rowS st 0 i64, rowS st 1 i64, intS st 2, intS st 3, rowS st 10 i64, intS st 32 with | some l, some m, some n, some p, some l0, some i1 => some ⟨l, m, n, p, l0, i1⟩ | _, _, _, _, _, _ => none
  inv a := ⟨[(32, iv a.i), (31, iv (↑a.c.length : Int)), (10, .one (.row 3)), (9, .one (.row 2)), (0, .one (.row 0)), (1, .one (.row 1)), (2, iv a.n), (3, iv a.p)],
    [(3, .ro i64 a.c), (2, .ro i64 a.c), (0, .ro i64 a.l), (1, .ro i64 a.m)], 4⟩
  ok a := 0 ≤ a.i ∧ a.i ≤ a.c.length ∧ a.c.length = 8
  mu a := 8 - a.i.toNat
  fin a := .leaf ⟨2, ⟨[(0, .one (.row 0)), (1, .one (.row 1)), (2, iv a.n), (3, iv a.p)],
    [(0, .ro i64 a.l), (1, .ro i64 a.m)], 4⟩⟩
theorem rFo (l m : List Int) (n p : Int) (c : List Int) (i : Int) : @Eq _
  (LFo.round F3 [] 100 Tryd.f3 0 ⟨l, m, n, p, c, i⟩)
  (.fork (decide (i < (↑c.length : Int))) (
 .req ((0 : Int) ≤ i ∧ i < (↑c.length : Int)) (
  .req ((0 : Int) ≤ i ∧ i < (↑c.length : Int)) (
   .req ((0 : Int) ≤ i ∧ i < (↑c.length : Int)) (
    .req ((0 : Int) ≤ i ∧ i < (↑c.length : Int)) (
     .fork (c.getD i.toNat (0 : Int) != c.getD i.toNat (0 : Int)) (
      .req (False) (
       .leaf (Option.none))) (
      .req (IntKind.i64.wrap (i + (1 : Int)) = IntKind.i64.wrap (i + (1 : Int)) ∧ (↑c.length : Int) = (↑c.length : Int) ∧ n = n ∧ p = p ∧ c = c ∧ c = c ∧ l = l ∧ m = m) (
       .leaf (Option.some { l := l, m := m, n := n, p := p, c := c, i := IntKind.i64.wrap (i + (1 : Int)) })))))))) (
 .req (n = n ∧ p = p ∧ l = l ∧ m = m) (
  .leaf (Option.none))) : Tree (Option Pl.AFo)) := by kernel_rfl
theorem tFo (l m : List Int) (n p : Int) : @Eq _
  (fnT F3 [(0, LFo.sp)] 100 Tryd.f3 [ints, ints, i64, i64] [.bool] (l, m, n, p, ()))
  (.req (True) (
 .fork (decide ((↑l.length : Int) > (100 : Int)) || decide ((↑m.length : Int) > (100 : Int))) (
  .req (True) (
   .leaf ((true, ())))) (
  .req (True) (
   .req (True) (
    .fork ((↑(Pl.countsS l).length : Int) != (↑(Pl.countsS l).length : Int)) (
     .leaf ((false, ()))) (
     .req ((0 : Int) ≤ (0 : Int) ∧ (0 : Int) ≤ (↑(Pl.countsS l).length : Int) ∧ (Pl.countsS l).length = 8) (
      .req ((0 : Int) = (0 : Int) ∧ (↑(Pl.countsS l).length : Int) = (↑(Pl.countsS l).length : Int) ∧ n = n ∧ p = p ∧ Pl.countsS l = Pl.countsS l ∧ Pl.countsS l = Pl.countsS l ∧ l = l ∧ m = m) (
       .req (True ∧ True ∧ ((Pl.nextS l p == Pl.nextS l p) = true → conjP [True, True, (Pl.leastS l n == Pl.leastS l n) = true → conjP [(↑m.length : Int) < (4611686018427387904 : Int), (↑m.length : Int) < (4611686018427387904 : Int), (Pl.unevenS l m == Pl.unevenS l m) = true → conjP [True, True, ((Pl.txtB l).toList == (Pl.txtB l).toList) = true → conjP [True]]]])) (
        .leaf ((Pl.nextS l p == Pl.nextS l p && (Pl.leastS l n == Pl.leastS l n && (Pl.unevenS l m == Pl.unevenS l m && ((Pl.txtB l).toList == (Pl.txtB l).toList && true))), ())))))))))) : Tree (Bool × PUnit)) := by kernel_rfl
theorem lFo : LpsOK Tryd.prog Tryd.f3 [(0, LFo.sp)] := by
  refine .cons (LFo.sound F3_ok (lps := []) (n := 100) (inner rfl) (fun _ => rfl) ?_) .nil
  rintro ⟨l, m, n, p, c, i⟩ ⟨h1, h2, h3⟩
  simp only at h1 h2 h3
  rw [rFo]
  simp only [all_leaf, all_fork, all_req, conjP, true_and, and_true, decide_eq_true_eq, decide_eq_false_iff_not, bne_self_eq_false, Bool.false_eq_true, false_implies, implies_true]
  refine ⟨fun g => ?_, fun _ => ?_⟩
  · rw [i64_inc (by omega) (by omega)]
    exact ⟨⟨h1, g⟩, ⟨h1, g⟩, ⟨h1, g⟩, ⟨h1, g⟩, fun _ => ⟨⟨by dsimp only; omega, by dsimp only; omega, h3⟩, by simp only [LFo]; omega, rfl⟩⟩
  · trivial
theorem forms_ok : PureOK Tryd.prog 3 [ints, ints, i64, i64] [.bool] (fun _ => True) (fun _ => (true, ())) :=
  fn_pure (E := F3) (n := 100) F3_ok Tryd.func3 (by kernel_rfl) lFo fun x _ => by
    obtain ⟨l, m, n, p, _⟩ : List Int × List Int × Int × Int × Unit := x
    refine Tree.all_eq (tFo l m n p) ?_
    show Tree.all (α := Bool × Unit) _ Yes
    have hc := counts_len l
    simp only [all_leaf, all_fork, all_req, conjP, true_and, and_true, yes_t, yes_f, yes_iff, BEq.rfl, Bool.and_self, implies_true, bne_self_eq_false]
    refine fun d => ⟨fun e => e, fun _ => ⟨⟨by omega, by omega, hc⟩, fun _ _ => ?_⟩⟩
    rw [Bool.or_eq_false_iff, decide_eq_false_iff_not, decide_eq_false_iff_not] at d
    exact ⟨by omega, by omega⟩
end Pl
