import Derived.Test.YtigiidafhbhdmaaLeCq3
import Derived.Test.YtigiidafhbhdmaaSx28
namespace Pl
open Go Sx Go.Proofs Go.RowKit
abbrev Deal : Ty := .cat ints (.cat ints (.rep 16 i64))
abbrev DealD : Type := List Int × List Int × List Int
theorem bodyBs : Try.f56.body = some (bodyOf Try.f56) := by kernel_rfl
theorem bodyBe : Try.f43.body = some (bodyOf Try.f43) := by kernel_rfl
theorem bodyGi : Try.f42.body = some (bodyOf Try.f42) := by kernel_rfl
theorem bodyAs : Try.f21.body = some (bodyOf Try.f21) := by kernel_rfl
def bsd (to : List Int) (p n : Int) : Bool := to.getD ((p + 1) % 16).toNat 0 == n || to.getD ((p + 15) % 16).toNat 0 == n
noncomputable abbrev W0 : Ex := mkExM Try.prog []
theorem W0_ok : W0.Sound := mkExM_sound trivial
theorem tBs (d : DealD) (p n : Int) : @Eq _
  (fnT W0 [] 100 Try.f56 [.ptr Deal, i64, i64] [.bool] (d, p, n, ()))
  (.req ((16 : Int) ≠ (0 : Int) ∧ ((0 : Int) ≤ (IntKind.i64.wrap (p + (1 : Int))).tmod (16 : Int) ∧ (IntKind.i64.wrap (p + (1 : Int))).tmod (16 : Int) < (16 : Int)) ∧ ((0 : Int) ≤ (IntKind.i64.wrap (p + (1 : Int))).tmod (16 : Int) ∧ (IntKind.i64.wrap (p + (1 : Int))).tmod (16 : Int) < (16 : Int)) ∧ (((tab 16 d.2.2 (0 : Int)).getD ((IntKind.i64.wrap (p + (1 : Int))).tmod (16 : Int)).toNat (0 : Int) == n) = false → conjP [(16 : Int) ≠ (0 : Int), (0 : Int) ≤ (IntKind.i64.wrap (IntKind.i64.wrap (p + (16 : Int)) - (1 : Int))).tmod (16 : Int) ∧ (IntKind.i64.wrap (IntKind.i64.wrap (p + (16 : Int)) - (1 : Int))).tmod (16 : Int) < (16 : Int), (0 : Int) ≤ (IntKind.i64.wrap (IntKind.i64.wrap (p + (16 : Int)) - (1 : Int))).tmod (16 : Int) ∧ (IntKind.i64.wrap (IntKind.i64.wrap (p + (16 : Int)) - (1 : Int))).tmod (16 : Int) < (16 : Int)])) (
 .leaf (((tab 16 d.2.2 (0 : Int)).getD ((IntKind.i64.wrap (p + (1 : Int))).tmod (16 : Int)).toNat (0 : Int) == n || (tab 16 d.2.2 (0 : Int)).getD ((IntKind.i64.wrap (IntKind.i64.wrap (p + (16 : Int)) - (1 : Int))).tmod (16 : Int)).toNat (0 : Int) == n, ()))) : Tree (Bool × PUnit)) := by kernel_rfl
def bstC (to lacks : List Int) (p : Int) (ap : Bool) : List Int → Int → Int → Int
  | [], _, out => out
  | n :: r, i, out => bstC to lacks p ap r (i + 1) (if decide (lacks.getD i.toNat 0 > 0) && !(ap && bsd to p n) && (decide (out < 0) || decide (lacks.getD i.toNat 0 > lacks.getD out.toNat 0)) then i else out)
noncomputable abbrev W1 : Ex := mkExM Try.prog [(56, pureSp [.ptr Deal, i64, i64] [.bool] (fun x => List.length (α := Int) x.1.2.2 = 16 ∧ 0 ≤ x.2.1 ∧ x.2.1 < 16) (fun x => (bsd x.1.2.2 x.2.1 x.2.2.1, ())))]
structure ABe where
  d : Pl.DealD
  p : Int
  ap : Bool
  i0 : Int
  i1 : Int
def LBe : LoopC ABe where
  n0 := 3
  det st := match datG st 0 0 Deal, intS st 1, boolS st 2, intS st 15, intS st 7 with | some d, some p, some ap, some i0, some i1 => some ⟨d, p, ap, i0, i1⟩ | _, _, _, _, _ => none
  inv a := ⟨[(15, iv a.i0), (14, iv (↑a.d.1.length : Int)), (13, .one (.row 1)), (7, iv a.i1), (0, .one (.ptr 0 0)), (1, iv a.p), (2, .one (.bool a.ap))],
    [(0, .rob [.row 1, .row 2, .int .i64 (a.d.2.2.getD 0 (0 : Int)), .int .i64 (a.d.2.2.getD 1 (0 : Int)), .int .i64 (a.d.2.2.getD 2 (0 : Int)), .int .i64 (a.d.2.2.getD 3 (0 : Int)), .int .i64 (a.d.2.2.getD 4 (0 : Int)), .int .i64 (a.d.2.2.getD 5 (0 : Int)), .int .i64 (a.d.2.2.getD 6 (0 : Int)), .int .i64 (a.d.2.2.getD 7 (0 : Int)), .int .i64 (a.d.2.2.getD 8 (0 : Int)), .int .i64 (a.d.2.2.getD 9 (0 : Int)), .int .i64 (a.d.2.2.getD 10 (0 : Int)), .int .i64 (a.d.2.2.getD 11 (0 : Int)), .int .i64 (a.d.2.2.getD 12 (0 : Int)), .int .i64 (a.d.2.2.getD 13 (0 : Int)), .int .i64 (a.d.2.2.getD 14 (0 : Int)), .int .i64 (a.d.2.2.getD 15 (0 : Int))]), (1, .ro i64 a.d.1), (2, .ro i64 a.d.2.1)], 3⟩
  ok a := a.d.2.2.length = 16 ∧ a.d.2.1.length = a.d.1.length ∧ a.d.1.length ≤ 8 ∧ 0 ≤ a.p ∧ a.p < 16 ∧ 0 ≤ a.i0 ∧ a.i0 ≤ a.d.1.length ∧ -1 ≤ a.i1 ∧ a.i1 < a.d.1.length
  mu a := a.d.1.length - a.i0.toNat
  fin a := .leaf ⟨2, ⟨[(7, iv (bstC a.d.2.2 a.d.2.1 a.p a.ap (a.d.1.drop a.i0.toNat) a.i0 a.i1))], [], 3⟩⟩
theorem rBe (d : DealD) (p : Int) (ap : Bool) (i0 i1 : Int) : @Eq _
  (LBe.round W1 [] 100 Try.f43 0 ⟨d, p, ap, i0, i1⟩)
  (.fork (decide (i0 < (↑d.1.length : Int))) (
 .req ((0 : Int) ≤ i0 ∧ i0 < (↑d.1.length : Int)) (
  .req ((0 : Int) ≤ i0 ∧ i0 < (↑d.1.length : Int)) (
   .req (((0 : Int) ≤ i0 ∧ i0 < (↑d.2.1.length : Int)) ∧ ((0 : Int) ≤ i0 ∧ i0 < (↑d.2.1.length : Int)) ∧ (decide (d.2.1.getD i0.toNat (0 : Int) > (0 : Int)) = true → conjP [ap = true → conjP [16 = 16 ∧ (0 : Int) ≤ p ∧ p < (16 : Int), (!Pl.bsd (tab 16 d.2.2 (0 : Int)) p (d.1.getD i0.toNat (0 : Int))) = true → conjP [decide (i1 < (0 : Int)) = false → conjP [(0 : Int) ≤ i0 ∧ i0 < (↑d.2.1.length : Int), (0 : Int) ≤ i0 ∧ i0 < (↑d.2.1.length : Int), (0 : Int) ≤ i1 ∧ i1 < (↑d.2.1.length : Int), (0 : Int) ≤ i1 ∧ i1 < (↑d.2.1.length : Int)]]], ap = false → conjP [decide (i1 < (0 : Int)) = false → conjP [(0 : Int) ≤ i0 ∧ i0 < (↑d.2.1.length : Int), (0 : Int) ≤ i0 ∧ i0 < (↑d.2.1.length : Int), (0 : Int) ≤ i1 ∧ i1 < (↑d.2.1.length : Int), (0 : Int) ≤ i1 ∧ i1 < (↑d.2.1.length : Int)]]])) (
    .fork (decide (d.2.1.getD i0.toNat (0 : Int) > (0 : Int)) && bif ap then !Pl.bsd (tab 16 d.2.2 (0 : Int)) p (d.1.getD i0.toNat (0 : Int)) && (decide (i1 < (0 : Int)) || decide (d.2.1.getD i0.toNat (0 : Int) > d.2.1.getD i1.toNat (0 : Int))) else decide (i1 < (0 : Int)) || decide (d.2.1.getD i0.toNat (0 : Int) > d.2.1.getD i1.toNat (0 : Int))) (
     .req (IntKind.i64.wrap (i0 + (1 : Int)) = IntKind.i64.wrap (i0 + (1 : Int)) ∧ (↑d.1.length : Int) = (↑d.1.length : Int) ∧ i0 = i0 ∧ p = p ∧ ap = ap ∧ d.2.2.getD 0 (0 : Int) = (tab 16 d.2.2 (0 : Int)).getD 0 (0 : Int) ∧ d.2.2.getD 1 (0 : Int) = (tab 16 d.2.2 (0 : Int)).getD 1 (0 : Int) ∧ d.2.2.getD 2 (0 : Int) = (tab 16 d.2.2 (0 : Int)).getD 2 (0 : Int) ∧ d.2.2.getD 3 (0 : Int) = (tab 16 d.2.2 (0 : Int)).getD 3 (0 : Int) ∧ d.2.2.getD 4 (0 : Int) = (tab 16 d.2.2 (0 : Int)).getD 4 (0 : Int) ∧ d.2.2.getD 5 (0 : Int) = (tab 16 d.2.2 (0 : Int)).getD 5 (0 : Int) ∧ d.2.2.getD 6 (0 : Int) = (tab 16 d.2.2 (0 : Int)).getD 6 (0 : Int) ∧ d.2.2.getD 7 (0 : Int) = (tab 16 d.2.2 (0 : Int)).getD 7 (0 : Int) ∧ d.2.2.getD 8 (0 : Int) = (tab 16 d.2.2 (0 : Int)).getD 8 (0 : Int) ∧ d.2.2.getD 9 (0 : Int) = (tab 16 d.2.2 (0 : Int)).getD 9 (0 : Int) ∧ d.2.2.getD 10 (0 : Int) = (tab 16 d.2.2 (0 : Int)).getD 10 (0 : Int) ∧ d.2.2.getD 11 (0 : Int) = (tab 16 d.2.2 (0 : Int)).getD 11 (0 : Int) ∧ d.2.2.getD 12 (0 : Int) = (tab 16 d.2.2 (0 : Int)).getD 12 (0 : Int) ∧ d.2.2.getD 13 (0 : Int) = (tab 16 d.2.2 (0 : Int)).getD 13 (0 : Int) ∧ d.2.2.getD 14 (0 : Int) = (tab 16 d.2.2 (0 : Int)).getD 14 (0 : Int) ∧ d.2.2.getD 15 (0 : Int) = (tab 16 d.2.2 (0 : Int)).getD 15 (0 : Int) ∧ d.1 = d.1 ∧ d.2.1 = d.2.1) (
      .leaf (Option.some { d := (d.1, d.2.1, tab 16 d.2.2 (0 : Int)), p := p, ap := ap, i0 := IntKind.i64.wrap (i0 + (1 : Int)), i1 := i0 }))) (
     .req (IntKind.i64.wrap (i0 + (1 : Int)) = IntKind.i64.wrap (i0 + (1 : Int)) ∧ (↑d.1.length : Int) = (↑d.1.length : Int) ∧ i1 = i1 ∧ p = p ∧ ap = ap ∧ d.2.2.getD 0 (0 : Int) = (tab 16 d.2.2 (0 : Int)).getD 0 (0 : Int) ∧ d.2.2.getD 1 (0 : Int) = (tab 16 d.2.2 (0 : Int)).getD 1 (0 : Int) ∧ d.2.2.getD 2 (0 : Int) = (tab 16 d.2.2 (0 : Int)).getD 2 (0 : Int) ∧ d.2.2.getD 3 (0 : Int) = (tab 16 d.2.2 (0 : Int)).getD 3 (0 : Int) ∧ d.2.2.getD 4 (0 : Int) = (tab 16 d.2.2 (0 : Int)).getD 4 (0 : Int) ∧ d.2.2.getD 5 (0 : Int) = (tab 16 d.2.2 (0 : Int)).getD 5 (0 : Int) ∧ d.2.2.getD 6 (0 : Int) = (tab 16 d.2.2 (0 : Int)).getD 6 (0 : Int) ∧ d.2.2.getD 7 (0 : Int) = (tab 16 d.2.2 (0 : Int)).getD 7 (0 : Int) ∧ d.2.2.getD 8 (0 : Int) = (tab 16 d.2.2 (0 : Int)).getD 8 (0 : Int) ∧ d.2.2.getD 9 (0 : Int) = (tab 16 d.2.2 (0 : Int)).getD 9 (0 : Int) ∧ d.2.2.getD 10 (0 : Int) = (tab 16 d.2.2 (0 : Int)).getD 10 (0 : Int) ∧ d.2.2.getD 11 (0 : Int) = (tab 16 d.2.2 (0 : Int)).getD 11 (0 : Int) ∧ d.2.2.getD 12 (0 : Int) = (tab 16 d.2.2 (0 : Int)).getD 12 (0 : Int) ∧ d.2.2.getD 13 (0 : Int) = (tab 16 d.2.2 (0 : Int)).getD 13 (0 : Int) ∧ d.2.2.getD 14 (0 : Int) = (tab 16 d.2.2 (0 : Int)).getD 14 (0 : Int) ∧ d.2.2.getD 15 (0 : Int) = (tab 16 d.2.2 (0 : Int)).getD 15 (0 : Int) ∧ d.1 = d.1 ∧ d.2.1 = d.2.1) (
      .leaf (Option.some { d := (d.1, d.2.1, tab 16 d.2.2 (0 : Int)), p := p, ap := ap, i0 := IntKind.i64.wrap (i0 + (1 : Int)), i1 := i1 }))))))) (
 .req (i1 = Pl.bstC d.2.2 d.2.1 p ap (List.drop i0.toNat d.1) i0 i1) (
  .leaf (Option.none))) : Tree (Option Pl.ABe)) := by kernel_rfl
theorem tBe (d : DealD) (p : Int) (ap : Bool) : @Eq _
  (fnT W1 [(0, LBe.sp)] 100 Try.f43 [.ptr Deal, i64, .bool] [i64] (d, p, ap, ()))
  (.req (16 = 16 ∧ d.2.1.length = d.1.length ∧ d.1.length ≤ 8 ∧ (0 : Int) ≤ p ∧ p < (16 : Int) ∧ (0 : Int) ≤ (0 : Int) ∧ (0 : Int) ≤ (↑d.1.length : Int) ∧ (-1 : Int) ≤ (-1 : Int) ∧ (-1 : Int) < (↑d.1.length : Int)) (
 .req ((0 : Int) = (0 : Int) ∧ (↑d.1.length : Int) = (↑d.1.length : Int) ∧ (-1 : Int) = (-1 : Int) ∧ p = p ∧ ap = ap ∧ d.2.2.getD 0 (0 : Int) = (tab 16 d.2.2 (0 : Int)).getD 0 (0 : Int) ∧ d.2.2.getD 1 (0 : Int) = (tab 16 d.2.2 (0 : Int)).getD 1 (0 : Int) ∧ d.2.2.getD 2 (0 : Int) = (tab 16 d.2.2 (0 : Int)).getD 2 (0 : Int) ∧ d.2.2.getD 3 (0 : Int) = (tab 16 d.2.2 (0 : Int)).getD 3 (0 : Int) ∧ d.2.2.getD 4 (0 : Int) = (tab 16 d.2.2 (0 : Int)).getD 4 (0 : Int) ∧ d.2.2.getD 5 (0 : Int) = (tab 16 d.2.2 (0 : Int)).getD 5 (0 : Int) ∧ d.2.2.getD 6 (0 : Int) = (tab 16 d.2.2 (0 : Int)).getD 6 (0 : Int) ∧ d.2.2.getD 7 (0 : Int) = (tab 16 d.2.2 (0 : Int)).getD 7 (0 : Int) ∧ d.2.2.getD 8 (0 : Int) = (tab 16 d.2.2 (0 : Int)).getD 8 (0 : Int) ∧ d.2.2.getD 9 (0 : Int) = (tab 16 d.2.2 (0 : Int)).getD 9 (0 : Int) ∧ d.2.2.getD 10 (0 : Int) = (tab 16 d.2.2 (0 : Int)).getD 10 (0 : Int) ∧ d.2.2.getD 11 (0 : Int) = (tab 16 d.2.2 (0 : Int)).getD 11 (0 : Int) ∧ d.2.2.getD 12 (0 : Int) = (tab 16 d.2.2 (0 : Int)).getD 12 (0 : Int) ∧ d.2.2.getD 13 (0 : Int) = (tab 16 d.2.2 (0 : Int)).getD 13 (0 : Int) ∧ d.2.2.getD 14 (0 : Int) = (tab 16 d.2.2 (0 : Int)).getD 14 (0 : Int) ∧ d.2.2.getD 15 (0 : Int) = (tab 16 d.2.2 (0 : Int)).getD 15 (0 : Int) ∧ d.1 = d.1 ∧ d.2.1 = d.2.1) (
  .leaf ((Pl.bstC (tab 16 d.2.2 (0 : Int)) d.2.1 p ap (List.drop 0 d.1) (0 : Int) (-1 : Int), ())))) : Tree (Int × PUnit)) := by kernel_rfl
end Pl
namespace Pl
open Go Sx Go.Proofs Go.RowKit
theorem bs_t (d : DealD) (p n : Int) (h : d.2.2.length = 16) (h0 : 0 ≤ p) (h1 : p < 16) : (fnT W0 [] 100 Try.f56 [.ptr Deal, i64, i64] [.bool] (d, p, n, ())).all fun y => y = (bsd d.2.2 p n, ()) := by
  refine Tree.all_eq (tBs d p n) ?_
  show Tree.all (α := Bool × Unit) _ (fun y => y = (bsd d.2.2 p n, ()))
  rw [tab_eq h]
  simp only [all_leaf, all_req, conjP, and_true]
  unfold bsd
  rw [IntWalk.i64_in (p + 1) (by omega), IntWalk.i64_in (p + 16) (by omega), IntWalk.i64_in (p + 16 - 1) (by omega), Int.tmod_eq_emod_of_nonneg (by omega), Int.tmod_eq_emod_of_nonneg (by omega), show p + 16 - 1 = p + 15 by omega]
  exact ⟨⟨by decide, by omega, by omega, fun _ => ⟨by decide, by omega, by omega⟩⟩, rfl⟩
theorem bs_ok : PureOK Try.prog 56 [.ptr Deal, i64, i64] [.bool] (fun x => List.length (α := Int) x.1.2.2 = 16 ∧ 0 ≤ x.2.1 ∧ x.2.1 < 16) (fun x => (bsd x.1.2.2 x.2.1 x.2.2.1, ())) :=
  fn_pure (E := W0) (n := 100) W0_ok Try.func56 bodyBs .nil fun x h => bs_t x.1 x.2.1 x.2.2.1 h.1 h.2.1 h.2.2
abbrev KBs : Nat × Sx.Spec := (56, pureSp [.ptr Deal, i64, i64] [.bool] (fun x => List.length (α := Int) x.1.2.2 = 16 ∧ 0 ≤ x.2.1 ∧ x.2.1 < 16) (fun x => (bsd x.1.2.2 x.2.1 x.2.2.1, ())))
theorem W1_ok : W1.Sound := mkExM_sound ⟨pureSp_ok bs_ok, trivial⟩
theorem bstC_range (to lacks : List Int) (p : Int) (ap : Bool) (N : Int) : ∀ (l : List Int) (i out : Int), 0 ≤ i → i + l.length ≤ N → -1 ≤ out → out < N → -1 ≤ bstC to lacks p ap l i out ∧ bstC to lacks p ap l i out < N
  | [], _, _, _, _, h, h' => ⟨h, h'⟩
  | n :: r, i, out, h0, h1, h, h' => by
    simp only [List.length_cons, Int.natCast_add] at h1
    simp only [bstC]
    refine bstC_range to lacks p ap N r (i + 1) _ (by omega) (by omega) ?_ ?_
    · split <;> omega
    · split <;> omega
theorem lBe : LpsOK Try.prog Try.f43 [(0, LBe.sp)] := by
  refine .cons (LBe.sound W1_ok (lps := []) (n := 100) (inner rfl) (fun _ => rfl) ?_) .nil
  rintro ⟨d, p, ap, i0, i1⟩ ⟨h16, hl, h8, hp0, hp1, h0, h1, h2, h3⟩
  simp only at h16 hl h8 hp0 hp1 h0 h1 h2 h3
  rw [rBe, tab_eq h16]
  have step : ∀ c : i0 < d.1.length, bstC d.2.2 d.2.1 p ap (d.1.drop i0.toNat) i0 i1 = bstC d.2.2 d.2.1 p ap (d.1.drop (i0 + 1).toNat) (i0 + 1) (if decide (d.2.1.getD i0.toNat 0 > 0) && !(ap && bsd d.2.2 p (d.1.getD i0.toNat 0)) && (decide (i1 < 0) || decide (d.2.1.getD i0.toNat 0 > d.2.1.getD i1.toNat 0)) then i0 else i1) := fun c => by
    rw [drop_cons 0 h0 (by omega), bstC]
  have cond : (decide (d.2.1.getD i0.toNat 0 > 0) && bif ap then !Pl.bsd d.2.2 p (d.1.getD i0.toNat 0) && (decide (i1 < 0) || decide (d.2.1.getD i0.toNat 0 > d.2.1.getD i1.toNat 0)) else decide (i1 < 0) || decide (d.2.1.getD i0.toNat 0 > d.2.1.getD i1.toNat 0)) = (decide (d.2.1.getD i0.toNat 0 > 0) && !(ap && bsd d.2.2 p (d.1.getD i0.toNat 0)) && (decide (i1 < 0) || decide (d.2.1.getD i0.toNat 0 > d.2.1.getD i1.toNat 0))) := by
    cases ap <;> simp [Bool.and_assoc]
  rw [cond]
  simp only [all_leaf, all_fork, all_req, conjP, and_true, true_and, implies_true, decide_eq_true_eq, decide_eq_false_iff_not]
  refine ⟨fun c => ?_, fun c => ⟨?_, ?_⟩⟩
  · have hw := IntWalk.i64_in (i0 + 1) (by omega)
    have nx : ∀ v : Int, v = (if (decide (d.2.1.getD i0.toNat 0 > 0) && !(ap && bsd d.2.2 p (d.1.getD i0.toNat 0)) && (decide (i1 < 0) || decide (d.2.1.getD i0.toNat 0 > d.2.1.getD i1.toNat 0))) = true then i0 else i1) → LBe.Next ⟨d, p, ap, i0, i1⟩ (some ⟨(d.1, d.2.1, d.2.2), p, ap, IntKind.i64.wrap (i0 + 1), v⟩) := by
      intro v hv
      rw [hw]
      refine ⟨⟨h16, hl, h8, hp0, hp1, by dsimp only; omega, by dsimp only; omega, ?_, ?_⟩, by simp only [LBe]; omega, ?_⟩
      · dsimp only; rw [hv]; split <;> omega
      · dsimp only; rw [hv]; split <;> omega
      · simp only [LBe]; rw [step c, hv]
    refine ⟨by omega, by omega, ⟨by omega, by omega, fun _ => ?_⟩, fun t => nx _ (by rw [if_pos t]), fun t => nx _ (by rw [if_neg (by rw [t]; decide)])⟩
    have q : ¬ i1 < 0 → (0 ≤ i0 ∧ i0 < (d.2.1.length : Int)) ∧ (0 ≤ i0 ∧ i0 < (d.2.1.length : Int)) ∧ (0 ≤ i1 ∧ i1 < (d.2.1.length : Int)) ∧ 0 ≤ i1 ∧ i1 < (d.2.1.length : Int) := fun z => ⟨by omega, by omega, by omega, by omega⟩
    exact ⟨fun _ => ⟨⟨hp0, hp1⟩, fun _ => q⟩, fun _ => q⟩
  · rw [drop_end (by omega)]; rfl
  · trivial
def bstL (d : DealD) (p : Int) (ap : Bool) : Int := bstC d.2.2 d.2.1 p ap d.1 0 (-1)
theorem best_t (d : DealD) (p : Int) (ap : Bool) (h16 : d.2.2.length = 16) (hl : d.2.1.length = d.1.length) (h8 : d.1.length ≤ 8) (h0 : 0 ≤ p) (h1 : p < 16) : (fnT W1 [(0, LBe.sp)] 100 Try.f43 [.ptr Deal, i64, .bool] [i64] (d, p, ap, ())).all fun y => y = (bstL d p ap, ()) := by
  refine Tree.all_eq (tBe d p ap) ?_
  show Tree.all (α := Int × Unit) _ (fun y => y = (bstL d p ap, ()))
  rw [tab_eq h16]
  simp only [all_leaf, all_req, and_true, true_and]
  exact ⟨⟨hl, h8, h0, h1, by omega, by omega, by omega, by omega⟩, rfl⟩
theorem best_ok : PureOK Try.prog 43 [.ptr Deal, i64, .bool] [i64] (fun x => List.length (α := Int) x.1.2.2 = 16 ∧ List.length (α := Int) x.1.2.1 = List.length (α := Int) x.1.1 ∧ List.length (α := Int) x.1.1 ≤ 8 ∧ 0 ≤ x.2.1 ∧ x.2.1 < 16) (fun x => (bstL x.1 x.2.1 x.2.2.1, ())) :=
  fn_pure (E := W1) (n := 100) W1_ok Try.func43 bodyBe lBe fun x h => best_t x.1 x.2.1 x.2.2.1 h.1 h.2.1 h.2.2.1 h.2.2.2.1 h.2.2.2.2
abbrev KBe : Nat × Sx.Spec := (43, pureSp [.ptr Deal, i64, .bool] [i64] (fun x => List.length (α := Int) x.1.2.2 = 16 ∧ List.length (α := Int) x.1.2.1 = List.length (α := Int) x.1.1 ∧ List.length (α := Int) x.1.1 ≤ 8 ∧ 0 ≤ x.2.1 ∧ x.2.1 < 16) (fun x => (bstL x.1 x.2.1 x.2.2.1, ())))
end Pl
namespace Pl
open Go Sx Go.Proofs Go.RowKit

theorem own_cap {w : World} {base e : Nat} {v : Value} {xs : List Int} (h : w.ownsRow base e 1 v xs.length (xs.map (Value.int .i64))) : v = .slice none 0 0 ∧ xs = [] ∨ ∃ g cap cur T, v = .slice (some ⟨g, 0, none⟩) xs.length cap ∧ base ≤ g ∧ w.heap[g]? = some (.cells cur T (0, 0)) ∧ xs.length ≤ cap ∧ cur.size = cap ∧ ∀ (i : Nat) (x : Int), xs[i]? = some x → cur[i]? = some (Value.int .i64 x) := by
  rcases h.2 with ⟨e0, e1⟩ | ⟨g, cap, cur, rfl, hb, hg, hn, _, hs, ht⟩
  · exact .inl ⟨e0, List.eq_nil_of_length_eq_zero e1⟩
  · refine .inr ⟨g, cap, cur, _, rfl, hb, hg, hn, by omega, fun i x hx => ?_⟩
    have hi : i < xs.length := (List.getElem?_eq_some_iff.1 hx).1
    have h2 : (cur.toList.take (xs.length * 1))[i]? = some (Value.int .i64 x) := by rw [ht]; simp [hx]
    rw [Nat.mul_one, List.getElem?_take_of_lt hi] at h2
    simpa using h2
theorem clone_fresh (Q : Nat → Prop) (w : World) (xs : List Int) (v : Value) (h : IntsV Q w xs v) (hbig : (xs.length : Int) < 17592186044416) :
    Calls Try.prog 35 #[v] w fun e w' => ∃ A cap, e = .returned (.slice A xs.length cap) ∧ xs.length ≤ cap ∧ Below w.heap.size w w' ∧
      ((A = none ∧ xs = [] ∧ cap = 0) ∨ ∃ b o cs T, A = some ⟨b, o, none⟩ ∧ w.heap.size ≤ b ∧ w'.heap[b]? = some (.cells cs T (0, 0)) ∧ o + cap * 1 ≤ cs.size ∧ ∀ (i : Nat) (x : Int), xs[i]? = some x → cs[o + i]? = some (Value.int .i64 x)) := by
  obtain ⟨A, cap, rfl, hcap, hrow⟩ := h
  have fin : ∀ (e : Ending) (w' : World) (v' : Value), e = .returned v' → w'.ownsRow w.heap.size 3 1 v' xs.length (xs.map (Value.int .i64)) → Below w.heap.size w w' →
      ∃ A cap, e = .returned (.slice A xs.length cap) ∧ xs.length ≤ cap ∧ Below w.heap.size w w' ∧
      ((A = none ∧ xs = [] ∧ cap = 0) ∨ ∃ b o cs T, A = some ⟨b, o, none⟩ ∧ w.heap.size ≤ b ∧ w'.heap[b]? = some (.cells cs T (0, 0)) ∧ o + cap * 1 ≤ cs.size ∧ ∀ (i : Nat) (x : Int), xs[i]? = some x → cs[o + i]? = some (Value.int .i64 x)) := by
    intro e w' v' he hown hb
    rcases own_cap hown with ⟨e1, e2⟩ | ⟨g, c, cur, T, e1, hg, hh, hc, hs, hx⟩
    · subst e2
      exact ⟨none, 0, by rw [he, e1]; rfl, Nat.le_refl _, hb, .inl ⟨rfl, rfl, rfl⟩⟩
    · exact ⟨some ⟨g, 0, none⟩, c, by rw [he, e1], hc, hb, .inr ⟨g, 0, cur, T, rfl, hg, hh, by omega, fun i x hi => by rw [Nat.zero_add]; exact hx i x hi⟩⟩
  cases A with
  | none =>
    refine (Any.slices_Clone_int_nil Try.laysClone _ cap w).mono ?_
    rintro e w' ⟨rfl, rfl⟩
    cases xs with
    | nil => exact fin _ _ _ rfl ⟨rfl, .inl ⟨rfl, rfl⟩⟩ (Below.refl _ _)
    | cons x t => obtain ⟨b, o, h, _⟩ := hrow 0 x rfl; cases h
  | some a =>
    cases hxs : xs with
    | nil =>
      subst hxs
      refine (Any.slices_Clone_int_zero Try.laysClone a cap w).mono ?_
      rintro e w' ⟨v', he, hown, _, hb⟩
      exact fin _ _ _ he hown hb
    | cons x t =>
      obtain ⟨b, o, h, _⟩ := hrow 0 x (by rw [hxs]; rfl)
      injection h with h; subst h
      rw [← hxs]
      refine (Any.slices_Clone_int Try.laysClone b o xs.length cap xs w (Nat.le_refl _) (by omega) ?_).mono ?_
      · intro j hj
        obtain ⟨b', o', h', _, hc⟩ := hrow j (xs.getD j 0) (by simp [List.getD_eq_getElem?_getD, List.getElem?_eq_getElem hj])
        injection h' with h'
        have hb' : b = b' := congrArg Addr.block h'
        have ho' : o = o' := congrArg Addr.off h'
        subst hb'; subst ho'
        exact hc
      · rintro e w' ⟨v', he, hown, _, hb⟩
        rw [List.take_of_length_le (Nat.le_refl _)] at hown
        exact fin _ _ _ he hown hb

theorem clone_fok : FreshOK Try.prog 35 [ints] (fun x => (List.length (α := Int) x.1 : Int) < 17592186044416) i64 (fun x => x.1) := by
  rintro R w ⟨xs, u⟩ args hR ⟨cs, r, e, hrd, er⟩ hpre
  obtain ⟨v, rfl, hv⟩ := ints_iff.1 hrd
  subst er; subst e
  refine (clone_fresh R w xs v hv hpre).mono ?_
  rintro e w' ⟨A, cap, h1, h2, h3, h4⟩
  refine ⟨A, cap, h1, h2, h3, ?_⟩
  rcases h4 with h | ⟨b, o, cs, T, k1, k2, k3, k4, k5⟩
  · exact .inl h
  · refine .inr ⟨b, o, cs, T, k1, k2, k3, k4, fun i x hx => ⟨[Value.int .i64 x], rfl, fun j hj => ?_, rfl⟩⟩
    have hj0 : j = 0 := by simp [Ty.size] at hj; omega
    subst hj0
    simpa [Ty.size] using k5 i x hx
end Pl
namespace Pl
open Go Sx Go.Proofs Go.RowKit
abbrev KQo : Nat × Sx.Spec := (40, ownSp [ints, ints] [ints] (fun x => (List.length (α := Int) x.2.1 : Int) < big) (fun x => (quotaL x.1 x.2.1, ())))
abbrev KClo : Nat × Sx.Spec := (35, ownSp [ints] [ints] (fun x => (List.length (α := Int) x.1 : Int) < 17592186044416) (fun x => (x.1, ())))
noncomputable abbrev W2 : Ex := mkExM Try.prog [KMe, KQo, KAt, KIx, KBe, KClo, (42, fnI W0 [] 100 Try.f42)]
def asg0 (now m : List Int) : Nat → Nat → List Int → List Int → List Int × List Int
  | 0, _, to, la => (to, la)
  | c + 1, p, to, la => if decide (indexF m (atL now (p : Int)) ≥ 0) && decide (la.getD (indexF m (atL now (p : Int))).toNat 0 > 0) then asg0 now m c (p + 1) (to.set p (m.getD (indexF m (atL now (p : Int))).toNat 0)) (la.set (indexF m (atL now (p : Int))).toNat (la.getD (indexF m (atL now (p : Int))).toNat 0 - 1)) else asg0 now m c (p + 1) (to.set p (-1)) la
structure AA0 where
  now : List Int
  la : List Int
  m : List Int
  p : Int
  to : List Int
def LA0 : LoopC AA0 where
  n0 := 5
  det st := match rowS st 0 i64, rowC st 4 1 i64, rowC st 4 0 i64, intS st 24, datG st 4 2 (.rep 16 i64) with | some now, some l0, some l1, some i2, some to => some ⟨now, l0, l1, i2, to⟩ | _, _, _, _, _ => none
  inv a := ⟨[(24, iv a.p), (5, .one (.ptr 4 0)), (0, .one (.row 0))],
    [(4, .blk [.row 2, .row 3, .int .i64 (a.to.getD 0 (0 : Int)), .int .i64 (a.to.getD 1 (0 : Int)), .int .i64 (a.to.getD 2 (0 : Int)), .int .i64 (a.to.getD 3 (0 : Int)), .int .i64 (a.to.getD 4 (0 : Int)), .int .i64 (a.to.getD 5 (0 : Int)), .int .i64 (a.to.getD 6 (0 : Int)), .int .i64 (a.to.getD 7 (0 : Int)), .int .i64 (a.to.getD 8 (0 : Int)), .int .i64 (a.to.getD 9 (0 : Int)), .int .i64 (a.to.getD 10 (0 : Int)), .int .i64 (a.to.getD 11 (0 : Int)), .int .i64 (a.to.getD 12 (0 : Int)), .int .i64 (a.to.getD 13 (0 : Int)), .int .i64 (a.to.getD 14 (0 : Int)), .int .i64 (a.to.getD 15 (0 : Int))]), (3, .own i64 a.la), (2, .ro i64 a.m), (0, .ro i64 a.now)], 5⟩
  ok a := a.to.length = 16 ∧ a.la.length = a.m.length ∧ a.m.length ≤ 8 ∧ 0 ≤ a.p ∧ a.p ≤ 16 ∧ ∀ x ∈ a.la, 0 ≤ x ∧ x ≤ 40
  mu a := 16 - a.p.toNat
  fin a := .leaf ⟨2, ⟨[(5, .one (.ptr 4 0))],
    [(4, .blk [.row 2, .row 3, .int .i64 ((asg0 a.now a.m (16 - a.p.toNat) a.p.toNat a.to a.la).1.getD 0 (0 : Int)), .int .i64 ((asg0 a.now a.m (16 - a.p.toNat) a.p.toNat a.to a.la).1.getD 1 (0 : Int)), .int .i64 ((asg0 a.now a.m (16 - a.p.toNat) a.p.toNat a.to a.la).1.getD 2 (0 : Int)), .int .i64 ((asg0 a.now a.m (16 - a.p.toNat) a.p.toNat a.to a.la).1.getD 3 (0 : Int)), .int .i64 ((asg0 a.now a.m (16 - a.p.toNat) a.p.toNat a.to a.la).1.getD 4 (0 : Int)), .int .i64 ((asg0 a.now a.m (16 - a.p.toNat) a.p.toNat a.to a.la).1.getD 5 (0 : Int)), .int .i64 ((asg0 a.now a.m (16 - a.p.toNat) a.p.toNat a.to a.la).1.getD 6 (0 : Int)), .int .i64 ((asg0 a.now a.m (16 - a.p.toNat) a.p.toNat a.to a.la).1.getD 7 (0 : Int)), .int .i64 ((asg0 a.now a.m (16 - a.p.toNat) a.p.toNat a.to a.la).1.getD 8 (0 : Int)), .int .i64 ((asg0 a.now a.m (16 - a.p.toNat) a.p.toNat a.to a.la).1.getD 9 (0 : Int)), .int .i64 ((asg0 a.now a.m (16 - a.p.toNat) a.p.toNat a.to a.la).1.getD 10 (0 : Int)), .int .i64 ((asg0 a.now a.m (16 - a.p.toNat) a.p.toNat a.to a.la).1.getD 11 (0 : Int)), .int .i64 ((asg0 a.now a.m (16 - a.p.toNat) a.p.toNat a.to a.la).1.getD 12 (0 : Int)), .int .i64 ((asg0 a.now a.m (16 - a.p.toNat) a.p.toNat a.to a.la).1.getD 13 (0 : Int)), .int .i64 ((asg0 a.now a.m (16 - a.p.toNat) a.p.toNat a.to a.la).1.getD 14 (0 : Int)), .int .i64 ((asg0 a.now a.m (16 - a.p.toNat) a.p.toNat a.to a.la).1.getD 15 (0 : Int))]), (3, .own i64 (asg0 a.now a.m (16 - a.p.toNat) a.p.toNat a.to a.la).2), (2, .ro i64 a.m)], 5⟩⟩
theorem bclo : PureOwnOK Try.prog 35 [ints] [ints] (fun x => (List.length (α := Int) x.1 : Int) < 17592186044416) (fun x => (x.1, ())) := clone_fok.own
theorem W2_ok : W2.Sound := mkExM_sound ⟨pureSp_ok mem_ok, ownSp_ok quotas_own, pureSp_ok at_ok, pureSp_ok index_ok, pureSp_ok best_ok, ownSp_ok bclo, fnI_ok (E := W0) W0_ok Try.func42 bodyGi .nil, trivial⟩
theorem rA0 (now la m : List Int) (p : Int) (to : List Int) : @Eq _
  (LA0.round W2 [] 100 Try.f21 0 ⟨now, la, m, p, to⟩)
  (.fork (decide (p < (16 : Int))) (
 .req ((0 : Int) ≤ p ∧ p < (16 : Int)) (
  .req ((0 : Int) ≤ p ∧ p < (16 : Int)) (
   .req ((0 : Int) ≤ p) (
    .req ((↑m.length : Int) < (4611686018427387904 : Int)) (
     .req (decide (Pl.indexF m (Pl.atL now p) ≥ (0 : Int)) = true → conjP [(0 : Int) ≤ Pl.indexF m (Pl.atL now p) ∧ Pl.indexF m (Pl.atL now p) < (↑la.length : Int), (0 : Int) ≤ Pl.indexF m (Pl.atL now p) ∧ Pl.indexF m (Pl.atL now p) < (↑la.length : Int)]) (
      .fork (decide (Pl.indexF m (Pl.atL now p) ≥ (0 : Int)) && decide (la.getD (Pl.indexF m (Pl.atL now p)).toNat (0 : Int) > (0 : Int))) (
       .req ((0 : Int) ≤ Pl.indexF m (Pl.atL now p) ∧ Pl.indexF m (Pl.atL now p) < (↑m.length : Int)) (
        .req ((0 : Int) ≤ Pl.indexF m (Pl.atL now p) ∧ Pl.indexF m (Pl.atL now p) < (↑m.length : Int)) (
         .req ((0 : Int) ≤ p ∧ p < (16 : Int)) (
          .req ((0 : Int) ≤ p ∧ p < (16 : Int)) (
           .req ((0 : Int) ≤ Pl.indexF m (Pl.atL now p) ∧ Pl.indexF m (Pl.atL now p) < (↑la.length : Int)) (
            .req ((0 : Int) ≤ Pl.indexF m (Pl.atL now p) ∧ Pl.indexF m (Pl.atL now p) < (↑la.length : Int)) (
             .req ((0 : Int) ≤ Pl.indexF m (Pl.atL now p) ∧ Pl.indexF m (Pl.atL now p) < (↑la.length : Int)) (
              .req ((0 : Int) ≤ Pl.indexF m (Pl.atL now p) ∧ Pl.indexF m (Pl.atL now p) < (↑la.length : Int)) (
               .req (IntKind.i64.wrap (p + (1 : Int)) = IntKind.i64.wrap (p + (1 : Int)) ∧ (bif decide (p = (0 : Int)) then m.getD (Pl.indexF m (Pl.atL now p)).toNat (0 : Int) else bif decide (p = (0 : Int)) then (-1 : Int) else to.getD 0 (0 : Int)) = (tabL 16 fun j => bif decide (p = j) then m.getD (Pl.indexF m (Pl.atL now p)).toNat (0 : Int) else bif decide (p = j) then (-1 : Int) else to.getD j (0 : Int)).getD 0 (0 : Int) ∧ (bif decide (p = (1 : Int)) then m.getD (Pl.indexF m (Pl.atL now p)).toNat (0 : Int) else bif decide (p = (1 : Int)) then (-1 : Int) else to.getD 1 (0 : Int)) = (tabL 16 fun j => bif decide (p = j) then m.getD (Pl.indexF m (Pl.atL now p)).toNat (0 : Int) else bif decide (p = j) then (-1 : Int) else to.getD j (0 : Int)).getD 1 (0 : Int) ∧ (bif decide (p = (2 : Int)) then m.getD (Pl.indexF m (Pl.atL now p)).toNat (0 : Int) else bif decide (p = (2 : Int)) then (-1 : Int) else to.getD 2 (0 : Int)) = (tabL 16 fun j => bif decide (p = j) then m.getD (Pl.indexF m (Pl.atL now p)).toNat (0 : Int) else bif decide (p = j) then (-1 : Int) else to.getD j (0 : Int)).getD 2 (0 : Int) ∧ (bif decide (p = (3 : Int)) then m.getD (Pl.indexF m (Pl.atL now p)).toNat (0 : Int) else bif decide (p = (3 : Int)) then (-1 : Int) else to.getD 3 (0 : Int)) = (tabL 16 fun j => bif decide (p = j) then m.getD (Pl.indexF m (Pl.atL now p)).toNat (0 : Int) else bif decide (p = j) then (-1 : Int) else to.getD j (0 : Int)).getD 3 (0 : Int) ∧ (bif decide (p = (4 : Int)) then m.getD (Pl.indexF m (Pl.atL now p)).toNat (0 : Int) else bif decide (p = (4 : Int)) then (-1 : Int) else to.getD 4 (0 : Int)) = (tabL 16 fun j => bif decide (p = j) then m.getD (Pl.indexF m (Pl.atL now p)).toNat (0 : Int) else bif decide (p = j) then (-1 : Int) else to.getD j (0 : Int)).getD 4 (0 : Int) ∧ (bif decide (p = (5 : Int)) then m.getD (Pl.indexF m (Pl.atL now p)).toNat (0 : Int) else bif decide (p = (5 : Int)) then (-1 : Int) else to.getD 5 (0 : Int)) = (tabL 16 fun j => bif decide (p = j) then m.getD (Pl.indexF m (Pl.atL now p)).toNat (0 : Int) else bif decide (p = j) then (-1 : Int) else to.getD j (0 : Int)).getD 5 (0 : Int) ∧ (bif decide (p = (6 : Int)) then m.getD (Pl.indexF m (Pl.atL now p)).toNat (0 : Int) else bif decide (p = (6 : Int)) then (-1 : Int) else to.getD 6 (0 : Int)) = (tabL 16 fun j => bif decide (p = j) then m.getD (Pl.indexF m (Pl.atL now p)).toNat (0 : Int) else bif decide (p = j) then (-1 : Int) else to.getD j (0 : Int)).getD 6 (0 : Int) ∧ (bif decide (p = (7 : Int)) then m.getD (Pl.indexF m (Pl.atL now p)).toNat (0 : Int) else bif decide (p = (7 : Int)) then (-1 : Int) else to.getD 7 (0 : Int)) = (tabL 16 fun j => bif decide (p = j) then m.getD (Pl.indexF m (Pl.atL now p)).toNat (0 : Int) else bif decide (p = j) then (-1 : Int) else to.getD j (0 : Int)).getD 7 (0 : Int) ∧ (bif decide (p = (8 : Int)) then m.getD (Pl.indexF m (Pl.atL now p)).toNat (0 : Int) else bif decide (p = (8 : Int)) then (-1 : Int) else to.getD 8 (0 : Int)) = (tabL 16 fun j => bif decide (p = j) then m.getD (Pl.indexF m (Pl.atL now p)).toNat (0 : Int) else bif decide (p = j) then (-1 : Int) else to.getD j (0 : Int)).getD 8 (0 : Int) ∧ (bif decide (p = (9 : Int)) then m.getD (Pl.indexF m (Pl.atL now p)).toNat (0 : Int) else bif decide (p = (9 : Int)) then (-1 : Int) else to.getD 9 (0 : Int)) = (tabL 16 fun j => bif decide (p = j) then m.getD (Pl.indexF m (Pl.atL now p)).toNat (0 : Int) else bif decide (p = j) then (-1 : Int) else to.getD j (0 : Int)).getD 9 (0 : Int) ∧ (bif decide (p = (10 : Int)) then m.getD (Pl.indexF m (Pl.atL now p)).toNat (0 : Int) else bif decide (p = (10 : Int)) then (-1 : Int) else to.getD 10 (0 : Int)) = (tabL 16 fun j => bif decide (p = j) then m.getD (Pl.indexF m (Pl.atL now p)).toNat (0 : Int) else bif decide (p = j) then (-1 : Int) else to.getD j (0 : Int)).getD 10 (0 : Int) ∧ (bif decide (p = (11 : Int)) then m.getD (Pl.indexF m (Pl.atL now p)).toNat (0 : Int) else bif decide (p = (11 : Int)) then (-1 : Int) else to.getD 11 (0 : Int)) = (tabL 16 fun j => bif decide (p = j) then m.getD (Pl.indexF m (Pl.atL now p)).toNat (0 : Int) else bif decide (p = j) then (-1 : Int) else to.getD j (0 : Int)).getD 11 (0 : Int) ∧ (bif decide (p = (12 : Int)) then m.getD (Pl.indexF m (Pl.atL now p)).toNat (0 : Int) else bif decide (p = (12 : Int)) then (-1 : Int) else to.getD 12 (0 : Int)) = (tabL 16 fun j => bif decide (p = j) then m.getD (Pl.indexF m (Pl.atL now p)).toNat (0 : Int) else bif decide (p = j) then (-1 : Int) else to.getD j (0 : Int)).getD 12 (0 : Int) ∧ (bif decide (p = (13 : Int)) then m.getD (Pl.indexF m (Pl.atL now p)).toNat (0 : Int) else bif decide (p = (13 : Int)) then (-1 : Int) else to.getD 13 (0 : Int)) = (tabL 16 fun j => bif decide (p = j) then m.getD (Pl.indexF m (Pl.atL now p)).toNat (0 : Int) else bif decide (p = j) then (-1 : Int) else to.getD j (0 : Int)).getD 13 (0 : Int) ∧ (bif decide (p = (14 : Int)) then m.getD (Pl.indexF m (Pl.atL now p)).toNat (0 : Int) else bif decide (p = (14 : Int)) then (-1 : Int) else to.getD 14 (0 : Int)) = (tabL 16 fun j => bif decide (p = j) then m.getD (Pl.indexF m (Pl.atL now p)).toNat (0 : Int) else bif decide (p = j) then (-1 : Int) else to.getD j (0 : Int)).getD 14 (0 : Int) ∧ (bif decide (p = (15 : Int)) then m.getD (Pl.indexF m (Pl.atL now p)).toNat (0 : Int) else bif decide (p = (15 : Int)) then (-1 : Int) else to.getD 15 (0 : Int)) = (tabL 16 fun j => bif decide (p = j) then m.getD (Pl.indexF m (Pl.atL now p)).toNat (0 : Int) else bif decide (p = j) then (-1 : Int) else to.getD j (0 : Int)).getD 15 (0 : Int) ∧ la.set (Pl.indexF m (Pl.atL now p)).toNat (IntKind.i64.wrap (la.getD (Pl.indexF m (Pl.atL now p)).toNat (0 : Int) - (1 : Int))) = la.set (Pl.indexF m (Pl.atL now p)).toNat (IntKind.i64.wrap (la.getD (Pl.indexF m (Pl.atL now p)).toNat (0 : Int) - (1 : Int))) ∧ m = m ∧ now = now) (
                .leaf (Option.some { now := now, la := la.set (Pl.indexF m (Pl.atL now p)).toNat (IntKind.i64.wrap (la.getD (Pl.indexF m (Pl.atL now p)).toNat (0 : Int) - (1 : Int))), m := m, p := IntKind.i64.wrap (p + (1 : Int)), to := tabL 16 fun j => bif decide (p = j) then m.getD (Pl.indexF m (Pl.atL now p)).toNat (0 : Int) else bif decide (p = j) then (-1 : Int) else to.getD j (0 : Int) }))))))))))) (
       .req (IntKind.i64.wrap (p + (1 : Int)) = IntKind.i64.wrap (p + (1 : Int)) ∧ (bif decide (p = (0 : Int)) then (-1 : Int) else to.getD 0 (0 : Int)) = (tabL 16 fun j => bif decide (p = j) then (-1 : Int) else to.getD j (0 : Int)).getD 0 (0 : Int) ∧ (bif decide (p = (1 : Int)) then (-1 : Int) else to.getD 1 (0 : Int)) = (tabL 16 fun j => bif decide (p = j) then (-1 : Int) else to.getD j (0 : Int)).getD 1 (0 : Int) ∧ (bif decide (p = (2 : Int)) then (-1 : Int) else to.getD 2 (0 : Int)) = (tabL 16 fun j => bif decide (p = j) then (-1 : Int) else to.getD j (0 : Int)).getD 2 (0 : Int) ∧ (bif decide (p = (3 : Int)) then (-1 : Int) else to.getD 3 (0 : Int)) = (tabL 16 fun j => bif decide (p = j) then (-1 : Int) else to.getD j (0 : Int)).getD 3 (0 : Int) ∧ (bif decide (p = (4 : Int)) then (-1 : Int) else to.getD 4 (0 : Int)) = (tabL 16 fun j => bif decide (p = j) then (-1 : Int) else to.getD j (0 : Int)).getD 4 (0 : Int) ∧ (bif decide (p = (5 : Int)) then (-1 : Int) else to.getD 5 (0 : Int)) = (tabL 16 fun j => bif decide (p = j) then (-1 : Int) else to.getD j (0 : Int)).getD 5 (0 : Int) ∧ (bif decide (p = (6 : Int)) then (-1 : Int) else to.getD 6 (0 : Int)) = (tabL 16 fun j => bif decide (p = j) then (-1 : Int) else to.getD j (0 : Int)).getD 6 (0 : Int) ∧ (bif decide (p = (7 : Int)) then (-1 : Int) else to.getD 7 (0 : Int)) = (tabL 16 fun j => bif decide (p = j) then (-1 : Int) else to.getD j (0 : Int)).getD 7 (0 : Int) ∧ (bif decide (p = (8 : Int)) then (-1 : Int) else to.getD 8 (0 : Int)) = (tabL 16 fun j => bif decide (p = j) then (-1 : Int) else to.getD j (0 : Int)).getD 8 (0 : Int) ∧ (bif decide (p = (9 : Int)) then (-1 : Int) else to.getD 9 (0 : Int)) = (tabL 16 fun j => bif decide (p = j) then (-1 : Int) else to.getD j (0 : Int)).getD 9 (0 : Int) ∧ (bif decide (p = (10 : Int)) then (-1 : Int) else to.getD 10 (0 : Int)) = (tabL 16 fun j => bif decide (p = j) then (-1 : Int) else to.getD j (0 : Int)).getD 10 (0 : Int) ∧ (bif decide (p = (11 : Int)) then (-1 : Int) else to.getD 11 (0 : Int)) = (tabL 16 fun j => bif decide (p = j) then (-1 : Int) else to.getD j (0 : Int)).getD 11 (0 : Int) ∧ (bif decide (p = (12 : Int)) then (-1 : Int) else to.getD 12 (0 : Int)) = (tabL 16 fun j => bif decide (p = j) then (-1 : Int) else to.getD j (0 : Int)).getD 12 (0 : Int) ∧ (bif decide (p = (13 : Int)) then (-1 : Int) else to.getD 13 (0 : Int)) = (tabL 16 fun j => bif decide (p = j) then (-1 : Int) else to.getD j (0 : Int)).getD 13 (0 : Int) ∧ (bif decide (p = (14 : Int)) then (-1 : Int) else to.getD 14 (0 : Int)) = (tabL 16 fun j => bif decide (p = j) then (-1 : Int) else to.getD j (0 : Int)).getD 14 (0 : Int) ∧ (bif decide (p = (15 : Int)) then (-1 : Int) else to.getD 15 (0 : Int)) = (tabL 16 fun j => bif decide (p = j) then (-1 : Int) else to.getD j (0 : Int)).getD 15 (0 : Int) ∧ la = la ∧ m = m ∧ now = now) (
        .leaf (Option.some { now := now, la := la, m := m, p := IntKind.i64.wrap (p + (1 : Int)), to := tabL 16 fun j => bif decide (p = j) then (-1 : Int) else to.getD j (0 : Int) }))))))))) (
 .req (to.getD 0 (0 : Int) = (Pl.asg0 now m (16 - p.toNat) p.toNat to la).1.getD 0 (0 : Int) ∧ to.getD 1 (0 : Int) = (Pl.asg0 now m (16 - p.toNat) p.toNat to la).1.getD 1 (0 : Int) ∧ to.getD 2 (0 : Int) = (Pl.asg0 now m (16 - p.toNat) p.toNat to la).1.getD 2 (0 : Int) ∧ to.getD 3 (0 : Int) = (Pl.asg0 now m (16 - p.toNat) p.toNat to la).1.getD 3 (0 : Int) ∧ to.getD 4 (0 : Int) = (Pl.asg0 now m (16 - p.toNat) p.toNat to la).1.getD 4 (0 : Int) ∧ to.getD 5 (0 : Int) = (Pl.asg0 now m (16 - p.toNat) p.toNat to la).1.getD 5 (0 : Int) ∧ to.getD 6 (0 : Int) = (Pl.asg0 now m (16 - p.toNat) p.toNat to la).1.getD 6 (0 : Int) ∧ to.getD 7 (0 : Int) = (Pl.asg0 now m (16 - p.toNat) p.toNat to la).1.getD 7 (0 : Int) ∧ to.getD 8 (0 : Int) = (Pl.asg0 now m (16 - p.toNat) p.toNat to la).1.getD 8 (0 : Int) ∧ to.getD 9 (0 : Int) = (Pl.asg0 now m (16 - p.toNat) p.toNat to la).1.getD 9 (0 : Int) ∧ to.getD 10 (0 : Int) = (Pl.asg0 now m (16 - p.toNat) p.toNat to la).1.getD 10 (0 : Int) ∧ to.getD 11 (0 : Int) = (Pl.asg0 now m (16 - p.toNat) p.toNat to la).1.getD 11 (0 : Int) ∧ to.getD 12 (0 : Int) = (Pl.asg0 now m (16 - p.toNat) p.toNat to la).1.getD 12 (0 : Int) ∧ to.getD 13 (0 : Int) = (Pl.asg0 now m (16 - p.toNat) p.toNat to la).1.getD 13 (0 : Int) ∧ to.getD 14 (0 : Int) = (Pl.asg0 now m (16 - p.toNat) p.toNat to la).1.getD 14 (0 : Int) ∧ to.getD 15 (0 : Int) = (Pl.asg0 now m (16 - p.toNat) p.toNat to la).1.getD 15 (0 : Int) ∧ la = (Pl.asg0 now m (16 - p.toNat) p.toNat to la).2 ∧ m = m) (
  .leaf (Option.none))) : Tree (Option Pl.AA0)) := by kernel_rfl
def pick (m la to : List Int) (p : Int) : Int := if decide (bstL (m, la, to) p true < 0) then bstL (m, la, to) p false else bstL (m, la, to) p true
def asg1 (m to0 : List Int) : Nat → Nat → List Int → List Int → List Int × List Int
  | 0, _, to, la => (to, la)
  | c + 1, p, to, la => if to0.getD p 0 == -1 then asg1 m to0 c (p + 1) (to.set p (m.getD (pick m la to (p : Int)).toNat 0)) (la.set (pick m la to (p : Int)).toNat (la.getD (pick m la to (p : Int)).toNat 0 - 1)) else asg1 m to0 c (p + 1) to la
structure AA1 where
  la : List Int
  m : List Int
  to0 : List Int
  p : Int
  to : List Int
def LA1 : LoopC AA1 where
  n0 := 5
  det st := match rowC st 4 1 i64, rowC st 4 0 i64, datA st 60 (.rep 16 i64), intS st 61, datG st 4 2 (.rep 16 i64) with | some l0, some l1, some t0, some i2, some to => some ⟨l0, l1, t0, i2, to⟩ | _, _, _, _, _ => none
  inv a := ⟨[(61, iv a.p), (60, Tv.agg [.int .i64 (a.to0.getD 0 (0 : Int)), .int .i64 (a.to0.getD 1 (0 : Int)), .int .i64 (a.to0.getD 2 (0 : Int)), .int .i64 (a.to0.getD 3 (0 : Int)), .int .i64 (a.to0.getD 4 (0 : Int)), .int .i64 (a.to0.getD 5 (0 : Int)), .int .i64 (a.to0.getD 6 (0 : Int)), .int .i64 (a.to0.getD 7 (0 : Int)), .int .i64 (a.to0.getD 8 (0 : Int)), .int .i64 (a.to0.getD 9 (0 : Int)), .int .i64 (a.to0.getD 10 (0 : Int)), .int .i64 (a.to0.getD 11 (0 : Int)), .int .i64 (a.to0.getD 12 (0 : Int)), .int .i64 (a.to0.getD 13 (0 : Int)), .int .i64 (a.to0.getD 14 (0 : Int)), .int .i64 (a.to0.getD 15 (0 : Int))]), (5, .one (.ptr 4 0))],
    [(4, .blk [.row 2, .row 3, .int .i64 (a.to.getD 0 (0 : Int)), .int .i64 (a.to.getD 1 (0 : Int)), .int .i64 (a.to.getD 2 (0 : Int)), .int .i64 (a.to.getD 3 (0 : Int)), .int .i64 (a.to.getD 4 (0 : Int)), .int .i64 (a.to.getD 5 (0 : Int)), .int .i64 (a.to.getD 6 (0 : Int)), .int .i64 (a.to.getD 7 (0 : Int)), .int .i64 (a.to.getD 8 (0 : Int)), .int .i64 (a.to.getD 9 (0 : Int)), .int .i64 (a.to.getD 10 (0 : Int)), .int .i64 (a.to.getD 11 (0 : Int)), .int .i64 (a.to.getD 12 (0 : Int)), .int .i64 (a.to.getD 13 (0 : Int)), .int .i64 (a.to.getD 14 (0 : Int)), .int .i64 (a.to.getD 15 (0 : Int))]), (3, .own i64 a.la), (2, .ro i64 a.m)], 5⟩
  ok a := a.to.length = 16 ∧ a.to0.length = 16 ∧ a.la.length = a.m.length ∧ a.m.length ≤ 8 ∧ 0 ≤ a.p ∧ a.p ≤ 16 ∧ (∀ x ∈ a.la, 0 ≤ x ∧ x ≤ 40) ∧ ((a.to0.drop a.p.toNat).count (-1) : Int) ≤ a.la.sum
  mu a := 16 - a.p.toNat
  fin a := .leaf ⟨4, ⟨[(5, .one (.ptr 4 0))],
    [(4, .blk [.row 2, .row 3, .int .i64 ((asg1 a.m a.to0 (16 - a.p.toNat) a.p.toNat a.to a.la).1.getD 0 (0 : Int)), .int .i64 ((asg1 a.m a.to0 (16 - a.p.toNat) a.p.toNat a.to a.la).1.getD 1 (0 : Int)), .int .i64 ((asg1 a.m a.to0 (16 - a.p.toNat) a.p.toNat a.to a.la).1.getD 2 (0 : Int)), .int .i64 ((asg1 a.m a.to0 (16 - a.p.toNat) a.p.toNat a.to a.la).1.getD 3 (0 : Int)), .int .i64 ((asg1 a.m a.to0 (16 - a.p.toNat) a.p.toNat a.to a.la).1.getD 4 (0 : Int)), .int .i64 ((asg1 a.m a.to0 (16 - a.p.toNat) a.p.toNat a.to a.la).1.getD 5 (0 : Int)), .int .i64 ((asg1 a.m a.to0 (16 - a.p.toNat) a.p.toNat a.to a.la).1.getD 6 (0 : Int)), .int .i64 ((asg1 a.m a.to0 (16 - a.p.toNat) a.p.toNat a.to a.la).1.getD 7 (0 : Int)), .int .i64 ((asg1 a.m a.to0 (16 - a.p.toNat) a.p.toNat a.to a.la).1.getD 8 (0 : Int)), .int .i64 ((asg1 a.m a.to0 (16 - a.p.toNat) a.p.toNat a.to a.la).1.getD 9 (0 : Int)), .int .i64 ((asg1 a.m a.to0 (16 - a.p.toNat) a.p.toNat a.to a.la).1.getD 10 (0 : Int)), .int .i64 ((asg1 a.m a.to0 (16 - a.p.toNat) a.p.toNat a.to a.la).1.getD 11 (0 : Int)), .int .i64 ((asg1 a.m a.to0 (16 - a.p.toNat) a.p.toNat a.to a.la).1.getD 12 (0 : Int)), .int .i64 ((asg1 a.m a.to0 (16 - a.p.toNat) a.p.toNat a.to a.la).1.getD 13 (0 : Int)), .int .i64 ((asg1 a.m a.to0 (16 - a.p.toNat) a.p.toNat a.to a.la).1.getD 14 (0 : Int)), .int .i64 ((asg1 a.m a.to0 (16 - a.p.toNat) a.p.toNat a.to a.la).1.getD 15 (0 : Int))]), (3, .own i64 (asg1 a.m a.to0 (16 - a.p.toNat) a.p.toNat a.to a.la).2), (2, .ro i64 a.m)], 5⟩⟩
theorem rA1 (la m to0 : List Int) (p : Int) (to : List Int) : @Eq _
  (LA1.round W2 [] 100 Try.f21 1 ⟨la, m, to0, p, to⟩)
  (.fork (decide (p < (16 : Int))) (
 .req ((0 : Int) ≤ p ∧ p < (16 : Int)) (
  .fork ((tab 16 to0 (0 : Int)).getD p.toNat (0 : Int) != (-1 : Int)) (
   .req (IntKind.i64.wrap (p + (1 : Int)) = IntKind.i64.wrap (p + (1 : Int)) ∧ to0.getD 0 (0 : Int) = (tab 16 to0 (0 : Int)).getD 0 (0 : Int) ∧ to0.getD 1 (0 : Int) = (tab 16 to0 (0 : Int)).getD 1 (0 : Int) ∧ to0.getD 2 (0 : Int) = (tab 16 to0 (0 : Int)).getD 2 (0 : Int) ∧ to0.getD 3 (0 : Int) = (tab 16 to0 (0 : Int)).getD 3 (0 : Int) ∧ to0.getD 4 (0 : Int) = (tab 16 to0 (0 : Int)).getD 4 (0 : Int) ∧ to0.getD 5 (0 : Int) = (tab 16 to0 (0 : Int)).getD 5 (0 : Int) ∧ to0.getD 6 (0 : Int) = (tab 16 to0 (0 : Int)).getD 6 (0 : Int) ∧ to0.getD 7 (0 : Int) = (tab 16 to0 (0 : Int)).getD 7 (0 : Int) ∧ to0.getD 8 (0 : Int) = (tab 16 to0 (0 : Int)).getD 8 (0 : Int) ∧ to0.getD 9 (0 : Int) = (tab 16 to0 (0 : Int)).getD 9 (0 : Int) ∧ to0.getD 10 (0 : Int) = (tab 16 to0 (0 : Int)).getD 10 (0 : Int) ∧ to0.getD 11 (0 : Int) = (tab 16 to0 (0 : Int)).getD 11 (0 : Int) ∧ to0.getD 12 (0 : Int) = (tab 16 to0 (0 : Int)).getD 12 (0 : Int) ∧ to0.getD 13 (0 : Int) = (tab 16 to0 (0 : Int)).getD 13 (0 : Int) ∧ to0.getD 14 (0 : Int) = (tab 16 to0 (0 : Int)).getD 14 (0 : Int) ∧ to0.getD 15 (0 : Int) = (tab 16 to0 (0 : Int)).getD 15 (0 : Int) ∧ to.getD 0 (0 : Int) = (tab 16 to (0 : Int)).getD 0 (0 : Int) ∧ to.getD 1 (0 : Int) = (tab 16 to (0 : Int)).getD 1 (0 : Int) ∧ to.getD 2 (0 : Int) = (tab 16 to (0 : Int)).getD 2 (0 : Int) ∧ to.getD 3 (0 : Int) = (tab 16 to (0 : Int)).getD 3 (0 : Int) ∧ to.getD 4 (0 : Int) = (tab 16 to (0 : Int)).getD 4 (0 : Int) ∧ to.getD 5 (0 : Int) = (tab 16 to (0 : Int)).getD 5 (0 : Int) ∧ to.getD 6 (0 : Int) = (tab 16 to (0 : Int)).getD 6 (0 : Int) ∧ to.getD 7 (0 : Int) = (tab 16 to (0 : Int)).getD 7 (0 : Int) ∧ to.getD 8 (0 : Int) = (tab 16 to (0 : Int)).getD 8 (0 : Int) ∧ to.getD 9 (0 : Int) = (tab 16 to (0 : Int)).getD 9 (0 : Int) ∧ to.getD 10 (0 : Int) = (tab 16 to (0 : Int)).getD 10 (0 : Int) ∧ to.getD 11 (0 : Int) = (tab 16 to (0 : Int)).getD 11 (0 : Int) ∧ to.getD 12 (0 : Int) = (tab 16 to (0 : Int)).getD 12 (0 : Int) ∧ to.getD 13 (0 : Int) = (tab 16 to (0 : Int)).getD 13 (0 : Int) ∧ to.getD 14 (0 : Int) = (tab 16 to (0 : Int)).getD 14 (0 : Int) ∧ to.getD 15 (0 : Int) = (tab 16 to (0 : Int)).getD 15 (0 : Int) ∧ la = la ∧ m = m) (
    .leaf (Option.some { la := la, m := m, to0 := tab 16 to0 (0 : Int), p := IntKind.i64.wrap (p + (1 : Int)), to := tab 16 to (0 : Int) }))) (
   .req (16 = 16 ∧ la.length = m.length ∧ m.length ≤ 8 ∧ (0 : Int) ≤ p ∧ p < (16 : Int)) (
    .fork (decide (Pl.bstL (m, la, tab 16 to (0 : Int)) p true < (0 : Int))) (
     .req (16 = 16 ∧ la.length = m.length ∧ m.length ≤ 8 ∧ (0 : Int) ≤ p ∧ p < (16 : Int)) (
      .req ((0 : Int) ≤ Pl.bstL (m, la, tab 16 to (0 : Int)) p false ∧ Pl.bstL (m, la, tab 16 to (0 : Int)) p false < (↑m.length : Int)) (
       .req ((0 : Int) ≤ Pl.bstL (m, la, tab 16 to (0 : Int)) p false ∧ Pl.bstL (m, la, tab 16 to (0 : Int)) p false < (↑m.length : Int)) (
        .req ((0 : Int) ≤ p ∧ p < (16 : Int)) (
         .req ((0 : Int) ≤ p ∧ p < (16 : Int)) (
          .req ((0 : Int) ≤ Pl.bstL (m, la, tab 16 to (0 : Int)) p false ∧ Pl.bstL (m, la, tab 16 to (0 : Int)) p false < (↑la.length : Int)) (
           .req ((0 : Int) ≤ Pl.bstL (m, la, tab 16 to (0 : Int)) p false ∧ Pl.bstL (m, la, tab 16 to (0 : Int)) p false < (↑la.length : Int)) (
            .req ((0 : Int) ≤ Pl.bstL (m, la, tab 16 to (0 : Int)) p false ∧ Pl.bstL (m, la, tab 16 to (0 : Int)) p false < (↑la.length : Int)) (
             .req ((0 : Int) ≤ Pl.bstL (m, la, tab 16 to (0 : Int)) p false ∧ Pl.bstL (m, la, tab 16 to (0 : Int)) p false < (↑la.length : Int)) (
              .req (IntKind.i64.wrap (p + (1 : Int)) = IntKind.i64.wrap (p + (1 : Int)) ∧ to0.getD 0 (0 : Int) = (tab 16 to0 (0 : Int)).getD 0 (0 : Int) ∧ to0.getD 1 (0 : Int) = (tab 16 to0 (0 : Int)).getD 1 (0 : Int) ∧ to0.getD 2 (0 : Int) = (tab 16 to0 (0 : Int)).getD 2 (0 : Int) ∧ to0.getD 3 (0 : Int) = (tab 16 to0 (0 : Int)).getD 3 (0 : Int) ∧ to0.getD 4 (0 : Int) = (tab 16 to0 (0 : Int)).getD 4 (0 : Int) ∧ to0.getD 5 (0 : Int) = (tab 16 to0 (0 : Int)).getD 5 (0 : Int) ∧ to0.getD 6 (0 : Int) = (tab 16 to0 (0 : Int)).getD 6 (0 : Int) ∧ to0.getD 7 (0 : Int) = (tab 16 to0 (0 : Int)).getD 7 (0 : Int) ∧ to0.getD 8 (0 : Int) = (tab 16 to0 (0 : Int)).getD 8 (0 : Int) ∧ to0.getD 9 (0 : Int) = (tab 16 to0 (0 : Int)).getD 9 (0 : Int) ∧ to0.getD 10 (0 : Int) = (tab 16 to0 (0 : Int)).getD 10 (0 : Int) ∧ to0.getD 11 (0 : Int) = (tab 16 to0 (0 : Int)).getD 11 (0 : Int) ∧ to0.getD 12 (0 : Int) = (tab 16 to0 (0 : Int)).getD 12 (0 : Int) ∧ to0.getD 13 (0 : Int) = (tab 16 to0 (0 : Int)).getD 13 (0 : Int) ∧ to0.getD 14 (0 : Int) = (tab 16 to0 (0 : Int)).getD 14 (0 : Int) ∧ to0.getD 15 (0 : Int) = (tab 16 to0 (0 : Int)).getD 15 (0 : Int) ∧ (bif decide (p = (0 : Int)) then m.getD (Pl.bstL (m, la, tab 16 to (0 : Int)) p false).toNat (0 : Int) else to.getD 0 (0 : Int)) = (tabL 16 fun j => bif decide (p = j) then m.getD (Pl.bstL (m, la, tab 16 to (0 : Int)) p false).toNat (0 : Int) else to.getD j (0 : Int)).getD 0 (0 : Int) ∧ (bif decide (p = (1 : Int)) then m.getD (Pl.bstL (m, la, tab 16 to (0 : Int)) p false).toNat (0 : Int) else to.getD 1 (0 : Int)) = (tabL 16 fun j => bif decide (p = j) then m.getD (Pl.bstL (m, la, tab 16 to (0 : Int)) p false).toNat (0 : Int) else to.getD j (0 : Int)).getD 1 (0 : Int) ∧ (bif decide (p = (2 : Int)) then m.getD (Pl.bstL (m, la, tab 16 to (0 : Int)) p false).toNat (0 : Int) else to.getD 2 (0 : Int)) = (tabL 16 fun j => bif decide (p = j) then m.getD (Pl.bstL (m, la, tab 16 to (0 : Int)) p false).toNat (0 : Int) else to.getD j (0 : Int)).getD 2 (0 : Int) ∧ (bif decide (p = (3 : Int)) then m.getD (Pl.bstL (m, la, tab 16 to (0 : Int)) p false).toNat (0 : Int) else to.getD 3 (0 : Int)) = (tabL 16 fun j => bif decide (p = j) then m.getD (Pl.bstL (m, la, tab 16 to (0 : Int)) p false).toNat (0 : Int) else to.getD j (0 : Int)).getD 3 (0 : Int) ∧ (bif decide (p = (4 : Int)) then m.getD (Pl.bstL (m, la, tab 16 to (0 : Int)) p false).toNat (0 : Int) else to.getD 4 (0 : Int)) = (tabL 16 fun j => bif decide (p = j) then m.getD (Pl.bstL (m, la, tab 16 to (0 : Int)) p false).toNat (0 : Int) else to.getD j (0 : Int)).getD 4 (0 : Int) ∧ (bif decide (p = (5 : Int)) then m.getD (Pl.bstL (m, la, tab 16 to (0 : Int)) p false).toNat (0 : Int) else to.getD 5 (0 : Int)) = (tabL 16 fun j => bif decide (p = j) then m.getD (Pl.bstL (m, la, tab 16 to (0 : Int)) p false).toNat (0 : Int) else to.getD j (0 : Int)).getD 5 (0 : Int) ∧ (bif decide (p = (6 : Int)) then m.getD (Pl.bstL (m, la, tab 16 to (0 : Int)) p false).toNat (0 : Int) else to.getD 6 (0 : Int)) = (tabL 16 fun j => bif decide (p = j) then m.getD (Pl.bstL (m, la, tab 16 to (0 : Int)) p false).toNat (0 : Int) else to.getD j (0 : Int)).getD 6 (0 : Int) ∧ (bif decide (p = (7 : Int)) then m.getD (Pl.bstL (m, la, tab 16 to (0 : Int)) p false).toNat (0 : Int) else to.getD 7 (0 : Int)) = (tabL 16 fun j => bif decide (p = j) then m.getD (Pl.bstL (m, la, tab 16 to (0 : Int)) p false).toNat (0 : Int) else to.getD j (0 : Int)).getD 7 (0 : Int) ∧ (bif decide (p = (8 : Int)) then m.getD (Pl.bstL (m, la, tab 16 to (0 : Int)) p false).toNat (0 : Int) else to.getD 8 (0 : Int)) = (tabL 16 fun j => bif decide (p = j) then m.getD (Pl.bstL (m, la, tab 16 to (0 : Int)) p false).toNat (0 : Int) else to.getD j (0 : Int)).getD 8 (0 : Int) ∧ (bif decide (p = (9 : Int)) then m.getD (Pl.bstL (m, la, tab 16 to (0 : Int)) p false).toNat (0 : Int) else to.getD 9 (0 : Int)) = (tabL 16 fun j => bif decide (p = j) then m.getD (Pl.bstL (m, la, tab 16 to (0 : Int)) p false).toNat (0 : Int) else to.getD j (0 : Int)).getD 9 (0 : Int) ∧ (bif decide (p = (10 : Int)) then m.getD (Pl.bstL (m, la, tab 16 to (0 : Int)) p false).toNat (0 : Int) else to.getD 10 (0 : Int)) = (tabL 16 fun j => bif decide (p = j) then m.getD (Pl.bstL (m, la, tab 16 to (0 : Int)) p false).toNat (0 : Int) else to.getD j (0 : Int)).getD 10 (0 : Int) ∧ (bif decide (p = (11 : Int)) then m.getD (Pl.bstL (m, la, tab 16 to (0 : Int)) p false).toNat (0 : Int) else to.getD 11 (0 : Int)) = (tabL 16 fun j => bif decide (p = j) then m.getD (Pl.bstL (m, la, tab 16 to (0 : Int)) p false).toNat (0 : Int) else to.getD j (0 : Int)).getD 11 (0 : Int) ∧ (bif decide (p = (12 : Int)) then m.getD (Pl.bstL (m, la, tab 16 to (0 : Int)) p false).toNat (0 : Int) else to.getD 12 (0 : Int)) = (tabL 16 fun j => bif decide (p = j) then m.getD (Pl.bstL (m, la, tab 16 to (0 : Int)) p false).toNat (0 : Int) else to.getD j (0 : Int)).getD 12 (0 : Int) ∧ (bif decide (p = (13 : Int)) then m.getD (Pl.bstL (m, la, tab 16 to (0 : Int)) p false).toNat (0 : Int) else to.getD 13 (0 : Int)) = (tabL 16 fun j => bif decide (p = j) then m.getD (Pl.bstL (m, la, tab 16 to (0 : Int)) p false).toNat (0 : Int) else to.getD j (0 : Int)).getD 13 (0 : Int) ∧ (bif decide (p = (14 : Int)) then m.getD (Pl.bstL (m, la, tab 16 to (0 : Int)) p false).toNat (0 : Int) else to.getD 14 (0 : Int)) = (tabL 16 fun j => bif decide (p = j) then m.getD (Pl.bstL (m, la, tab 16 to (0 : Int)) p false).toNat (0 : Int) else to.getD j (0 : Int)).getD 14 (0 : Int) ∧ (bif decide (p = (15 : Int)) then m.getD (Pl.bstL (m, la, tab 16 to (0 : Int)) p false).toNat (0 : Int) else to.getD 15 (0 : Int)) = (tabL 16 fun j => bif decide (p = j) then m.getD (Pl.bstL (m, la, tab 16 to (0 : Int)) p false).toNat (0 : Int) else to.getD j (0 : Int)).getD 15 (0 : Int) ∧ la.set (Pl.bstL (m, la, tab 16 to (0 : Int)) p false).toNat (IntKind.i64.wrap (la.getD (Pl.bstL (m, la, tab 16 to (0 : Int)) p false).toNat (0 : Int) - (1 : Int))) = la.set (Pl.bstL (m, la, tab 16 to (0 : Int)) p false).toNat (IntKind.i64.wrap (la.getD (Pl.bstL (m, la, tab 16 to (0 : Int)) p false).toNat (0 : Int) - (1 : Int))) ∧ m = m) (
               .leaf (Option.some { la := la.set (Pl.bstL (m, la, tab 16 to (0 : Int)) p false).toNat (IntKind.i64.wrap (la.getD (Pl.bstL (m, la, tab 16 to (0 : Int)) p false).toNat (0 : Int) - (1 : Int))), m := m, to0 := tab 16 to0 (0 : Int), p := IntKind.i64.wrap (p + (1 : Int)), to := tabL 16 fun j => bif decide (p = j) then m.getD (Pl.bstL (m, la, tab 16 to (0 : Int)) p false).toNat (0 : Int) else to.getD j (0 : Int) })))))))))))) (
     .req ((0 : Int) ≤ Pl.bstL (m, la, tab 16 to (0 : Int)) p true ∧ Pl.bstL (m, la, tab 16 to (0 : Int)) p true < (↑m.length : Int)) (
      .req ((0 : Int) ≤ Pl.bstL (m, la, tab 16 to (0 : Int)) p true ∧ Pl.bstL (m, la, tab 16 to (0 : Int)) p true < (↑m.length : Int)) (
       .req ((0 : Int) ≤ p ∧ p < (16 : Int)) (
        .req ((0 : Int) ≤ p ∧ p < (16 : Int)) (
         .req ((0 : Int) ≤ Pl.bstL (m, la, tab 16 to (0 : Int)) p true ∧ Pl.bstL (m, la, tab 16 to (0 : Int)) p true < (↑la.length : Int)) (
          .req ((0 : Int) ≤ Pl.bstL (m, la, tab 16 to (0 : Int)) p true ∧ Pl.bstL (m, la, tab 16 to (0 : Int)) p true < (↑la.length : Int)) (
           .req ((0 : Int) ≤ Pl.bstL (m, la, tab 16 to (0 : Int)) p true ∧ Pl.bstL (m, la, tab 16 to (0 : Int)) p true < (↑la.length : Int)) (
            .req ((0 : Int) ≤ Pl.bstL (m, la, tab 16 to (0 : Int)) p true ∧ Pl.bstL (m, la, tab 16 to (0 : Int)) p true < (↑la.length : Int)) (
             .req (IntKind.i64.wrap (p + (1 : Int)) = IntKind.i64.wrap (p + (1 : Int)) ∧ to0.getD 0 (0 : Int) = (tab 16 to0 (0 : Int)).getD 0 (0 : Int) ∧ to0.getD 1 (0 : Int) = (tab 16 to0 (0 : Int)).getD 1 (0 : Int) ∧ to0.getD 2 (0 : Int) = (tab 16 to0 (0 : Int)).getD 2 (0 : Int) ∧ to0.getD 3 (0 : Int) = (tab 16 to0 (0 : Int)).getD 3 (0 : Int) ∧ to0.getD 4 (0 : Int) = (tab 16 to0 (0 : Int)).getD 4 (0 : Int) ∧ to0.getD 5 (0 : Int) = (tab 16 to0 (0 : Int)).getD 5 (0 : Int) ∧ to0.getD 6 (0 : Int) = (tab 16 to0 (0 : Int)).getD 6 (0 : Int) ∧ to0.getD 7 (0 : Int) = (tab 16 to0 (0 : Int)).getD 7 (0 : Int) ∧ to0.getD 8 (0 : Int) = (tab 16 to0 (0 : Int)).getD 8 (0 : Int) ∧ to0.getD 9 (0 : Int) = (tab 16 to0 (0 : Int)).getD 9 (0 : Int) ∧ to0.getD 10 (0 : Int) = (tab 16 to0 (0 : Int)).getD 10 (0 : Int) ∧ to0.getD 11 (0 : Int) = (tab 16 to0 (0 : Int)).getD 11 (0 : Int) ∧ to0.getD 12 (0 : Int) = (tab 16 to0 (0 : Int)).getD 12 (0 : Int) ∧ to0.getD 13 (0 : Int) = (tab 16 to0 (0 : Int)).getD 13 (0 : Int) ∧ to0.getD 14 (0 : Int) = (tab 16 to0 (0 : Int)).getD 14 (0 : Int) ∧ to0.getD 15 (0 : Int) = (tab 16 to0 (0 : Int)).getD 15 (0 : Int) ∧ (bif decide (p = (0 : Int)) then m.getD (Pl.bstL (m, la, tab 16 to (0 : Int)) p true).toNat (0 : Int) else to.getD 0 (0 : Int)) = (tabL 16 fun j => bif decide (p = j) then m.getD (Pl.bstL (m, la, tab 16 to (0 : Int)) p true).toNat (0 : Int) else to.getD j (0 : Int)).getD 0 (0 : Int) ∧ (bif decide (p = (1 : Int)) then m.getD (Pl.bstL (m, la, tab 16 to (0 : Int)) p true).toNat (0 : Int) else to.getD 1 (0 : Int)) = (tabL 16 fun j => bif decide (p = j) then m.getD (Pl.bstL (m, la, tab 16 to (0 : Int)) p true).toNat (0 : Int) else to.getD j (0 : Int)).getD 1 (0 : Int) ∧ (bif decide (p = (2 : Int)) then m.getD (Pl.bstL (m, la, tab 16 to (0 : Int)) p true).toNat (0 : Int) else to.getD 2 (0 : Int)) = (tabL 16 fun j => bif decide (p = j) then m.getD (Pl.bstL (m, la, tab 16 to (0 : Int)) p true).toNat (0 : Int) else to.getD j (0 : Int)).getD 2 (0 : Int) ∧ (bif decide (p = (3 : Int)) then m.getD (Pl.bstL (m, la, tab 16 to (0 : Int)) p true).toNat (0 : Int) else to.getD 3 (0 : Int)) = (tabL 16 fun j => bif decide (p = j) then m.getD (Pl.bstL (m, la, tab 16 to (0 : Int)) p true).toNat (0 : Int) else to.getD j (0 : Int)).getD 3 (0 : Int) ∧ (bif decide (p = (4 : Int)) then m.getD (Pl.bstL (m, la, tab 16 to (0 : Int)) p true).toNat (0 : Int) else to.getD 4 (0 : Int)) = (tabL 16 fun j => bif decide (p = j) then m.getD (Pl.bstL (m, la, tab 16 to (0 : Int)) p true).toNat (0 : Int) else to.getD j (0 : Int)).getD 4 (0 : Int) ∧ (bif decide (p = (5 : Int)) then m.getD (Pl.bstL (m, la, tab 16 to (0 : Int)) p true).toNat (0 : Int) else to.getD 5 (0 : Int)) = (tabL 16 fun j => bif decide (p = j) then m.getD (Pl.bstL (m, la, tab 16 to (0 : Int)) p true).toNat (0 : Int) else to.getD j (0 : Int)).getD 5 (0 : Int) ∧ (bif decide (p = (6 : Int)) then m.getD (Pl.bstL (m, la, tab 16 to (0 : Int)) p true).toNat (0 : Int) else to.getD 6 (0 : Int)) = (tabL 16 fun j => bif decide (p = j) then m.getD (Pl.bstL (m, la, tab 16 to (0 : Int)) p true).toNat (0 : Int) else to.getD j (0 : Int)).getD 6 (0 : Int) ∧ (bif decide (p = (7 : Int)) then m.getD (Pl.bstL (m, la, tab 16 to (0 : Int)) p true).toNat (0 : Int) else to.getD 7 (0 : Int)) = (tabL 16 fun j => bif decide (p = j) then m.getD (Pl.bstL (m, la, tab 16 to (0 : Int)) p true).toNat (0 : Int) else to.getD j (0 : Int)).getD 7 (0 : Int) ∧ (bif decide (p = (8 : Int)) then m.getD (Pl.bstL (m, la, tab 16 to (0 : Int)) p true).toNat (0 : Int) else to.getD 8 (0 : Int)) = (tabL 16 fun j => bif decide (p = j) then m.getD (Pl.bstL (m, la, tab 16 to (0 : Int)) p true).toNat (0 : Int) else to.getD j (0 : Int)).getD 8 (0 : Int) ∧ (bif decide (p = (9 : Int)) then m.getD (Pl.bstL (m, la, tab 16 to (0 : Int)) p true).toNat (0 : Int) else to.getD 9 (0 : Int)) = (tabL 16 fun j => bif decide (p = j) then m.getD (Pl.bstL (m, la, tab 16 to (0 : Int)) p true).toNat (0 : Int) else to.getD j (0 : Int)).getD 9 (0 : Int) ∧ (bif decide (p = (10 : Int)) then m.getD (Pl.bstL (m, la, tab 16 to (0 : Int)) p true).toNat (0 : Int) else to.getD 10 (0 : Int)) = (tabL 16 fun j => bif decide (p = j) then m.getD (Pl.bstL (m, la, tab 16 to (0 : Int)) p true).toNat (0 : Int) else to.getD j (0 : Int)).getD 10 (0 : Int) ∧ (bif decide (p = (11 : Int)) then m.getD (Pl.bstL (m, la, tab 16 to (0 : Int)) p true).toNat (0 : Int) else to.getD 11 (0 : Int)) = (tabL 16 fun j => bif decide (p = j) then m.getD (Pl.bstL (m, la, tab 16 to (0 : Int)) p true).toNat (0 : Int) else to.getD j (0 : Int)).getD 11 (0 : Int) ∧ (bif decide (p = (12 : Int)) then m.getD (Pl.bstL (m, la, tab 16 to (0 : Int)) p true).toNat (0 : Int) else to.getD 12 (0 : Int)) = (tabL 16 fun j => bif decide (p = j) then m.getD (Pl.bstL (m, la, tab 16 to (0 : Int)) p true).toNat (0 : Int) else to.getD j (0 : Int)).getD 12 (0 : Int) ∧ (bif decide (p = (13 : Int)) then m.getD (Pl.bstL (m, la, tab 16 to (0 : Int)) p true).toNat (0 : Int) else to.getD 13 (0 : Int)) = (tabL 16 fun j => bif decide (p = j) then m.getD (Pl.bstL (m, la, tab 16 to (0 : Int)) p true).toNat (0 : Int) else to.getD j (0 : Int)).getD 13 (0 : Int) ∧ (bif decide (p = (14 : Int)) then m.getD (Pl.bstL (m, la, tab 16 to (0 : Int)) p true).toNat (0 : Int) else to.getD 14 (0 : Int)) = (tabL 16 fun j => bif decide (p = j) then m.getD (Pl.bstL (m, la, tab 16 to (0 : Int)) p true).toNat (0 : Int) else to.getD j (0 : Int)).getD 14 (0 : Int) ∧ (bif decide (p = (15 : Int)) then m.getD (Pl.bstL (m, la, tab 16 to (0 : Int)) p true).toNat (0 : Int) else to.getD 15 (0 : Int)) = (tabL 16 fun j => bif decide (p = j) then m.getD (Pl.bstL (m, la, tab 16 to (0 : Int)) p true).toNat (0 : Int) else to.getD j (0 : Int)).getD 15 (0 : Int) ∧ la.set (Pl.bstL (m, la, tab 16 to (0 : Int)) p true).toNat (IntKind.i64.wrap (la.getD (Pl.bstL (m, la, tab 16 to (0 : Int)) p true).toNat (0 : Int) - (1 : Int))) = la.set (Pl.bstL (m, la, tab 16 to (0 : Int)) p true).toNat (IntKind.i64.wrap (la.getD (Pl.bstL (m, la, tab 16 to (0 : Int)) p true).toNat (0 : Int) - (1 : Int))) ∧ m = m) (
              .leaf (Option.some { la := la.set (Pl.bstL (m, la, tab 16 to (0 : Int)) p true).toNat (IntKind.i64.wrap (la.getD (Pl.bstL (m, la, tab 16 to (0 : Int)) p true).toNat (0 : Int) - (1 : Int))), m := m, to0 := tab 16 to0 (0 : Int), p := IntKind.i64.wrap (p + (1 : Int)), to := tabL 16 fun j => bif decide (p = j) then m.getD (Pl.bstL (m, la, tab 16 to (0 : Int)) p true).toNat (0 : Int) else to.getD j (0 : Int) }))))))))))))))) (
 .req (to.getD 0 (0 : Int) = (Pl.asg1 m to0 (16 - p.toNat) p.toNat to la).1.getD 0 (0 : Int) ∧ to.getD 1 (0 : Int) = (Pl.asg1 m to0 (16 - p.toNat) p.toNat to la).1.getD 1 (0 : Int) ∧ to.getD 2 (0 : Int) = (Pl.asg1 m to0 (16 - p.toNat) p.toNat to la).1.getD 2 (0 : Int) ∧ to.getD 3 (0 : Int) = (Pl.asg1 m to0 (16 - p.toNat) p.toNat to la).1.getD 3 (0 : Int) ∧ to.getD 4 (0 : Int) = (Pl.asg1 m to0 (16 - p.toNat) p.toNat to la).1.getD 4 (0 : Int) ∧ to.getD 5 (0 : Int) = (Pl.asg1 m to0 (16 - p.toNat) p.toNat to la).1.getD 5 (0 : Int) ∧ to.getD 6 (0 : Int) = (Pl.asg1 m to0 (16 - p.toNat) p.toNat to la).1.getD 6 (0 : Int) ∧ to.getD 7 (0 : Int) = (Pl.asg1 m to0 (16 - p.toNat) p.toNat to la).1.getD 7 (0 : Int) ∧ to.getD 8 (0 : Int) = (Pl.asg1 m to0 (16 - p.toNat) p.toNat to la).1.getD 8 (0 : Int) ∧ to.getD 9 (0 : Int) = (Pl.asg1 m to0 (16 - p.toNat) p.toNat to la).1.getD 9 (0 : Int) ∧ to.getD 10 (0 : Int) = (Pl.asg1 m to0 (16 - p.toNat) p.toNat to la).1.getD 10 (0 : Int) ∧ to.getD 11 (0 : Int) = (Pl.asg1 m to0 (16 - p.toNat) p.toNat to la).1.getD 11 (0 : Int) ∧ to.getD 12 (0 : Int) = (Pl.asg1 m to0 (16 - p.toNat) p.toNat to la).1.getD 12 (0 : Int) ∧ to.getD 13 (0 : Int) = (Pl.asg1 m to0 (16 - p.toNat) p.toNat to la).1.getD 13 (0 : Int) ∧ to.getD 14 (0 : Int) = (Pl.asg1 m to0 (16 - p.toNat) p.toNat to la).1.getD 14 (0 : Int) ∧ to.getD 15 (0 : Int) = (Pl.asg1 m to0 (16 - p.toNat) p.toNat to la).1.getD 15 (0 : Int) ∧ la = (Pl.asg1 m to0 (16 - p.toNat) p.toNat to la).2 ∧ m = m) (
  .leaf (Option.none))) : Tree (Option Pl.AA1)) := by kernel_rfl
theorem tAs (now ms : List Int) : @Eq _
  (fnO W2 [(0, LA0.sp), (1, LA1.sp)] 100 Try.f21 [ints, ints] [ints] (now, ms, ()))
  (.req ((↑ms.length : Int) < (4611686018427387904 : Int)) (
 .req ((↑ms.length : Int) < (4611686018427387904 : Int)) (
  .fork ((↑(Pl.memL ms).length : Int) == (0 : Int)) (
   .leaf ((([] : List Int), ()))) (
   .req (16 = 16 ∧ (Pl.quotaL now ms).length = (Pl.memL ms).length ∧ (Pl.memL ms).length ≤ 8 ∧ (0 : Int) ≤ (0 : Int) ∧ (0 : Int) ≤ (16 : Int) ∧ ∀ (x : Int), x ∈ Pl.quotaL now ms → (0 : Int) ≤ x ∧ x ≤ (40 : Int)) (
    .req ((0 : Int) = (0 : Int) ∧ (0 : Int) = (0 : Int) ∧ (0 : Int) = (0 : Int) ∧ (0 : Int) = (0 : Int) ∧ (0 : Int) = (0 : Int) ∧ (0 : Int) = (0 : Int) ∧ (0 : Int) = (0 : Int) ∧ (0 : Int) = (0 : Int) ∧ (0 : Int) = (0 : Int) ∧ (0 : Int) = (0 : Int) ∧ (0 : Int) = (0 : Int) ∧ (0 : Int) = (0 : Int) ∧ (0 : Int) = (0 : Int) ∧ (0 : Int) = (0 : Int) ∧ (0 : Int) = (0 : Int) ∧ (0 : Int) = (0 : Int) ∧ (0 : Int) = (0 : Int) ∧ Pl.quotaL now ms = Pl.quotaL now ms ∧ Pl.memL ms = Pl.memL ms ∧ now = now) (
     .req (16 = 16 ∧ 16 = 16 ∧ (Pl.asg0 now (Pl.memL ms) 16 0 (List.replicate 16 (0 : Int)) (Pl.quotaL now ms)).2.length = (Pl.memL ms).length ∧ (Pl.memL ms).length ≤ 8 ∧ (0 : Int) ≤ (0 : Int) ∧ (0 : Int) ≤ (16 : Int) ∧ (∀ (x : Int), x ∈ (Pl.asg0 now (Pl.memL ms) 16 0 (List.replicate 16 (0 : Int)) (Pl.quotaL now ms)).2 → (0 : Int) ≤ x ∧ x ≤ (40 : Int)) ∧ (↑(List.count (-1 : Int) (tab 16 (Pl.asg0 now (Pl.memL ms) 16 0 (List.replicate 16 (0 : Int)) (Pl.quotaL now ms)).1 (0 : Int))) : Int) ≤ (Pl.asg0 now (Pl.memL ms) 16 0 (List.replicate 16 (0 : Int)) (Pl.quotaL now ms)).2.sum) (
      .req ((0 : Int) = (0 : Int) ∧ (Pl.asg0 now (Pl.memL ms) 16 0 (List.replicate 16 (0 : Int)) (Pl.quotaL now ms)).1.getD 0 (0 : Int) = (tab 16 (Pl.asg0 now (Pl.memL ms) 16 0 (List.replicate 16 (0 : Int)) (Pl.quotaL now ms)).1 (0 : Int)).getD 0 (0 : Int) ∧ (Pl.asg0 now (Pl.memL ms) 16 0 (List.replicate 16 (0 : Int)) (Pl.quotaL now ms)).1.getD 1 (0 : Int) = (tab 16 (Pl.asg0 now (Pl.memL ms) 16 0 (List.replicate 16 (0 : Int)) (Pl.quotaL now ms)).1 (0 : Int)).getD 1 (0 : Int) ∧ (Pl.asg0 now (Pl.memL ms) 16 0 (List.replicate 16 (0 : Int)) (Pl.quotaL now ms)).1.getD 2 (0 : Int) = (tab 16 (Pl.asg0 now (Pl.memL ms) 16 0 (List.replicate 16 (0 : Int)) (Pl.quotaL now ms)).1 (0 : Int)).getD 2 (0 : Int) ∧ (Pl.asg0 now (Pl.memL ms) 16 0 (List.replicate 16 (0 : Int)) (Pl.quotaL now ms)).1.getD 3 (0 : Int) = (tab 16 (Pl.asg0 now (Pl.memL ms) 16 0 (List.replicate 16 (0 : Int)) (Pl.quotaL now ms)).1 (0 : Int)).getD 3 (0 : Int) ∧ (Pl.asg0 now (Pl.memL ms) 16 0 (List.replicate 16 (0 : Int)) (Pl.quotaL now ms)).1.getD 4 (0 : Int) = (tab 16 (Pl.asg0 now (Pl.memL ms) 16 0 (List.replicate 16 (0 : Int)) (Pl.quotaL now ms)).1 (0 : Int)).getD 4 (0 : Int) ∧ (Pl.asg0 now (Pl.memL ms) 16 0 (List.replicate 16 (0 : Int)) (Pl.quotaL now ms)).1.getD 5 (0 : Int) = (tab 16 (Pl.asg0 now (Pl.memL ms) 16 0 (List.replicate 16 (0 : Int)) (Pl.quotaL now ms)).1 (0 : Int)).getD 5 (0 : Int) ∧ (Pl.asg0 now (Pl.memL ms) 16 0 (List.replicate 16 (0 : Int)) (Pl.quotaL now ms)).1.getD 6 (0 : Int) = (tab 16 (Pl.asg0 now (Pl.memL ms) 16 0 (List.replicate 16 (0 : Int)) (Pl.quotaL now ms)).1 (0 : Int)).getD 6 (0 : Int) ∧ (Pl.asg0 now (Pl.memL ms) 16 0 (List.replicate 16 (0 : Int)) (Pl.quotaL now ms)).1.getD 7 (0 : Int) = (tab 16 (Pl.asg0 now (Pl.memL ms) 16 0 (List.replicate 16 (0 : Int)) (Pl.quotaL now ms)).1 (0 : Int)).getD 7 (0 : Int) ∧ (Pl.asg0 now (Pl.memL ms) 16 0 (List.replicate 16 (0 : Int)) (Pl.quotaL now ms)).1.getD 8 (0 : Int) = (tab 16 (Pl.asg0 now (Pl.memL ms) 16 0 (List.replicate 16 (0 : Int)) (Pl.quotaL now ms)).1 (0 : Int)).getD 8 (0 : Int) ∧ (Pl.asg0 now (Pl.memL ms) 16 0 (List.replicate 16 (0 : Int)) (Pl.quotaL now ms)).1.getD 9 (0 : Int) = (tab 16 (Pl.asg0 now (Pl.memL ms) 16 0 (List.replicate 16 (0 : Int)) (Pl.quotaL now ms)).1 (0 : Int)).getD 9 (0 : Int) ∧ (Pl.asg0 now (Pl.memL ms) 16 0 (List.replicate 16 (0 : Int)) (Pl.quotaL now ms)).1.getD 10 (0 : Int) = (tab 16 (Pl.asg0 now (Pl.memL ms) 16 0 (List.replicate 16 (0 : Int)) (Pl.quotaL now ms)).1 (0 : Int)).getD 10 (0 : Int) ∧ (Pl.asg0 now (Pl.memL ms) 16 0 (List.replicate 16 (0 : Int)) (Pl.quotaL now ms)).1.getD 11 (0 : Int) = (tab 16 (Pl.asg0 now (Pl.memL ms) 16 0 (List.replicate 16 (0 : Int)) (Pl.quotaL now ms)).1 (0 : Int)).getD 11 (0 : Int) ∧ (Pl.asg0 now (Pl.memL ms) 16 0 (List.replicate 16 (0 : Int)) (Pl.quotaL now ms)).1.getD 12 (0 : Int) = (tab 16 (Pl.asg0 now (Pl.memL ms) 16 0 (List.replicate 16 (0 : Int)) (Pl.quotaL now ms)).1 (0 : Int)).getD 12 (0 : Int) ∧ (Pl.asg0 now (Pl.memL ms) 16 0 (List.replicate 16 (0 : Int)) (Pl.quotaL now ms)).1.getD 13 (0 : Int) = (tab 16 (Pl.asg0 now (Pl.memL ms) 16 0 (List.replicate 16 (0 : Int)) (Pl.quotaL now ms)).1 (0 : Int)).getD 13 (0 : Int) ∧ (Pl.asg0 now (Pl.memL ms) 16 0 (List.replicate 16 (0 : Int)) (Pl.quotaL now ms)).1.getD 14 (0 : Int) = (tab 16 (Pl.asg0 now (Pl.memL ms) 16 0 (List.replicate 16 (0 : Int)) (Pl.quotaL now ms)).1 (0 : Int)).getD 14 (0 : Int) ∧ (Pl.asg0 now (Pl.memL ms) 16 0 (List.replicate 16 (0 : Int)) (Pl.quotaL now ms)).1.getD 15 (0 : Int) = (tab 16 (Pl.asg0 now (Pl.memL ms) 16 0 (List.replicate 16 (0 : Int)) (Pl.quotaL now ms)).1 (0 : Int)).getD 15 (0 : Int) ∧ (Pl.asg0 now (Pl.memL ms) 16 0 (List.replicate 16 (0 : Int)) (Pl.quotaL now ms)).1.getD 0 (0 : Int) = (tab 16 (Pl.asg0 now (Pl.memL ms) 16 0 (List.replicate 16 (0 : Int)) (Pl.quotaL now ms)).1 (0 : Int)).getD 0 (0 : Int) ∧ (Pl.asg0 now (Pl.memL ms) 16 0 (List.replicate 16 (0 : Int)) (Pl.quotaL now ms)).1.getD 1 (0 : Int) = (tab 16 (Pl.asg0 now (Pl.memL ms) 16 0 (List.replicate 16 (0 : Int)) (Pl.quotaL now ms)).1 (0 : Int)).getD 1 (0 : Int) ∧ (Pl.asg0 now (Pl.memL ms) 16 0 (List.replicate 16 (0 : Int)) (Pl.quotaL now ms)).1.getD 2 (0 : Int) = (tab 16 (Pl.asg0 now (Pl.memL ms) 16 0 (List.replicate 16 (0 : Int)) (Pl.quotaL now ms)).1 (0 : Int)).getD 2 (0 : Int) ∧ (Pl.asg0 now (Pl.memL ms) 16 0 (List.replicate 16 (0 : Int)) (Pl.quotaL now ms)).1.getD 3 (0 : Int) = (tab 16 (Pl.asg0 now (Pl.memL ms) 16 0 (List.replicate 16 (0 : Int)) (Pl.quotaL now ms)).1 (0 : Int)).getD 3 (0 : Int) ∧ (Pl.asg0 now (Pl.memL ms) 16 0 (List.replicate 16 (0 : Int)) (Pl.quotaL now ms)).1.getD 4 (0 : Int) = (tab 16 (Pl.asg0 now (Pl.memL ms) 16 0 (List.replicate 16 (0 : Int)) (Pl.quotaL now ms)).1 (0 : Int)).getD 4 (0 : Int) ∧ (Pl.asg0 now (Pl.memL ms) 16 0 (List.replicate 16 (0 : Int)) (Pl.quotaL now ms)).1.getD 5 (0 : Int) = (tab 16 (Pl.asg0 now (Pl.memL ms) 16 0 (List.replicate 16 (0 : Int)) (Pl.quotaL now ms)).1 (0 : Int)).getD 5 (0 : Int) ∧ (Pl.asg0 now (Pl.memL ms) 16 0 (List.replicate 16 (0 : Int)) (Pl.quotaL now ms)).1.getD 6 (0 : Int) = (tab 16 (Pl.asg0 now (Pl.memL ms) 16 0 (List.replicate 16 (0 : Int)) (Pl.quotaL now ms)).1 (0 : Int)).getD 6 (0 : Int) ∧ (Pl.asg0 now (Pl.memL ms) 16 0 (List.replicate 16 (0 : Int)) (Pl.quotaL now ms)).1.getD 7 (0 : Int) = (tab 16 (Pl.asg0 now (Pl.memL ms) 16 0 (List.replicate 16 (0 : Int)) (Pl.quotaL now ms)).1 (0 : Int)).getD 7 (0 : Int) ∧ (Pl.asg0 now (Pl.memL ms) 16 0 (List.replicate 16 (0 : Int)) (Pl.quotaL now ms)).1.getD 8 (0 : Int) = (tab 16 (Pl.asg0 now (Pl.memL ms) 16 0 (List.replicate 16 (0 : Int)) (Pl.quotaL now ms)).1 (0 : Int)).getD 8 (0 : Int) ∧ (Pl.asg0 now (Pl.memL ms) 16 0 (List.replicate 16 (0 : Int)) (Pl.quotaL now ms)).1.getD 9 (0 : Int) = (tab 16 (Pl.asg0 now (Pl.memL ms) 16 0 (List.replicate 16 (0 : Int)) (Pl.quotaL now ms)).1 (0 : Int)).getD 9 (0 : Int) ∧ (Pl.asg0 now (Pl.memL ms) 16 0 (List.replicate 16 (0 : Int)) (Pl.quotaL now ms)).1.getD 10 (0 : Int) = (tab 16 (Pl.asg0 now (Pl.memL ms) 16 0 (List.replicate 16 (0 : Int)) (Pl.quotaL now ms)).1 (0 : Int)).getD 10 (0 : Int) ∧ (Pl.asg0 now (Pl.memL ms) 16 0 (List.replicate 16 (0 : Int)) (Pl.quotaL now ms)).1.getD 11 (0 : Int) = (tab 16 (Pl.asg0 now (Pl.memL ms) 16 0 (List.replicate 16 (0 : Int)) (Pl.quotaL now ms)).1 (0 : Int)).getD 11 (0 : Int) ∧ (Pl.asg0 now (Pl.memL ms) 16 0 (List.replicate 16 (0 : Int)) (Pl.quotaL now ms)).1.getD 12 (0 : Int) = (tab 16 (Pl.asg0 now (Pl.memL ms) 16 0 (List.replicate 16 (0 : Int)) (Pl.quotaL now ms)).1 (0 : Int)).getD 12 (0 : Int) ∧ (Pl.asg0 now (Pl.memL ms) 16 0 (List.replicate 16 (0 : Int)) (Pl.quotaL now ms)).1.getD 13 (0 : Int) = (tab 16 (Pl.asg0 now (Pl.memL ms) 16 0 (List.replicate 16 (0 : Int)) (Pl.quotaL now ms)).1 (0 : Int)).getD 13 (0 : Int) ∧ (Pl.asg0 now (Pl.memL ms) 16 0 (List.replicate 16 (0 : Int)) (Pl.quotaL now ms)).1.getD 14 (0 : Int) = (tab 16 (Pl.asg0 now (Pl.memL ms) 16 0 (List.replicate 16 (0 : Int)) (Pl.quotaL now ms)).1 (0 : Int)).getD 14 (0 : Int) ∧ (Pl.asg0 now (Pl.memL ms) 16 0 (List.replicate 16 (0 : Int)) (Pl.quotaL now ms)).1.getD 15 (0 : Int) = (tab 16 (Pl.asg0 now (Pl.memL ms) 16 0 (List.replicate 16 (0 : Int)) (Pl.quotaL now ms)).1 (0 : Int)).getD 15 (0 : Int) ∧ (Pl.asg0 now (Pl.memL ms) 16 0 (List.replicate 16 (0 : Int)) (Pl.quotaL now ms)).2 = (Pl.asg0 now (Pl.memL ms) 16 0 (List.replicate 16 (0 : Int)) (Pl.quotaL now ms)).2 ∧ Pl.memL ms = Pl.memL ms) (
       .req ((16 : Int) < (17592186044416 : Int)) (
        .leaf ((tab 16 (Pl.asg1 (Pl.memL ms) (tab 16 (Pl.asg0 now (Pl.memL ms) 16 0 (List.replicate 16 (0 : Int)) (Pl.quotaL now ms)).1 (0 : Int)) 16 0 (tab 16 (Pl.asg0 now (Pl.memL ms) 16 0 (List.replicate 16 (0 : Int)) (Pl.quotaL now ms)).1 (0 : Int)) (Pl.asg0 now (Pl.memL ms) 16 0 (List.replicate 16 (0 : Int)) (Pl.quotaL now ms)).2).1 (0 : Int), ())))))))))) : Tree (List Int × PUnit)) := by kernel_rfl
end Pl
namespace Pl
open Go Sx Go.Proofs Go.RowKit
theorem indexF_range (l : List Int) (v : Int) : -1 ≤ indexF l v ∧ indexF l v < l.length ∧ (0 ≤ indexF l v → l.getD (indexF l v).toNat 0 = v) := by
  unfold indexF
  split
  · rename_i h
    obtain ⟨a, b, c, d⟩ := idxF_ge v l 0 (by omega) h
    refine ⟨by omega, by omega, fun _ => ?_⟩
    rw [Int.sub_zero] at d; exact d
  · exact ⟨by omega, by omega, fun h => by omega⟩
theorem set_mem {l : List Int} {k : Nat} {v x : Int} (h : x ∈ l.set k v) : x ∈ l ∨ x = v := List.mem_or_eq_of_mem_set h
theorem sum_set (v : Int) : ∀ (l : List Int) (k : Nat), k < l.length → (l.set k v).sum = l.sum - l.getD k 0 + v
  | [], _, h => by simp at h
  | a :: l, 0, _ => by simp; omega
  | a :: l, k + 1, h => by
    have := sum_set v l k (by simpa using h)
    simp only [List.set_cons_succ, List.sum_cons, List.getD_cons_succ, this]; omega
theorem tabL_put2 {xs : List Int} {z s t : Int} {n : Nat} {i : Int} (h : xs.length = n) (h0 : 0 ≤ i) : tabL n (fun j => bif decide (i = (j : Int)) then s else bif decide (i = (j : Int)) then t else xs.getD j z) = xs.set i.toNat s := by
  rw [← tabL_put h h0 (z := z) (s := s)]
  exact congrArg (tabL n) (funext fun j => by cases decide (i = (j : Int)) <;> rfl)
theorem asg0_step (now m : List Int) (p : Int) (to la : List Int) (h0 : 0 ≤ p) (h1 : p < 16) : asg0 now m (16 - p.toNat) p.toNat to la = if decide (indexF m (atL now p) ≥ 0) && decide (la.getD (indexF m (atL now p)).toNat 0 > 0) then asg0 now m (16 - (p + 1).toNat) (p + 1).toNat (to.set p.toNat (m.getD (indexF m (atL now p)).toNat 0)) (la.set (indexF m (atL now p)).toNat (la.getD (indexF m (atL now p)).toNat 0 - 1)) else asg0 now m (16 - (p + 1).toNat) (p + 1).toNat (to.set p.toNat (-1)) la := by
  have e1 : 16 - p.toNat = (16 - (p + 1).toNat) + 1 := by omega
  have e2 : (p.toNat : Int) = p := by omega
  have e3 : p.toNat + 1 = (p + 1).toNat := by omega
  rw [e1, asg0, e2, e3]
theorem lA0 : LpsOK Try.prog Try.f21 [(0, LA0.sp)] := by
  refine .cons (LA0.sound W2_ok (lps := []) (n := 100) (inner rfl) (fun _ => rfl) ?_) .nil
  rintro ⟨now, la, m, p, to⟩ ⟨h16, hl, h8, h0, h1, hx⟩
  simp only at h16 hl h8 h0 h1 hx
  rw [rA0]
  obtain ⟨i1, i2, i3⟩ := indexF_range m (atL now p)
  simp only [all_leaf, all_fork, all_req, conjP, and_true, decide_eq_true_eq, decide_eq_false_iff_not]
  have hii : indexF m (atL now p) ≥ 0 → 0 ≤ indexF m (atL now p) ∧ indexF m (atL now p) < (la.length : Int) := fun c => ⟨c, by omega⟩
  refine ⟨fun c => ⟨⟨h0, c⟩, ⟨h0, c⟩, h0, by omega, fun c' => ⟨hii c', hii c'⟩, fun t => ?_, fun t => ?_⟩, fun c => ⟨?_, trivial⟩⟩
  · have t' := t
    simp only [Bool.and_eq_true, decide_eq_true_eq] at t
    have hlt : (indexF m (atL now p)).toNat < la.length := by omega
    have hg : la.getD (indexF m (atL now p)).toNat 0 ∈ la := by rw [getD_get 0 hlt]; exact List.getElem_mem hlt
    have hb := hx _ hg
    refine ⟨⟨t.1, by omega⟩, ⟨t.1, by omega⟩, ⟨h0, c⟩, ⟨h0, c⟩, hii t.1, hii t.1, hii t.1, hii t.1, by repeat' (first | exact trivial | rfl | apply And.intro), ?_⟩
    rw [tabL_put2 h16 h0, IntWalk.i64_in (p + 1) (by omega), IntWalk.i64_in _ (by omega)]
    refine ⟨⟨by simp [h16], by simp [hl], h8, by dsimp only; omega, by dsimp only; omega, fun x h => ?_⟩, by simp only [LA0]; omega, ?_⟩
    · rcases set_mem h with h | h
      · exact hx x h
      · omega
    · simp only [LA0]
      rw [asg0_step now m p to la h0 c, if_pos t']
  · refine ⟨by repeat' (first | exact trivial | rfl | apply And.intro), ?_⟩
    rw [tabL_put h16 h0, IntWalk.i64_in (p + 1) (by omega)]
    refine ⟨⟨by simp [h16], hl, h8, by dsimp only; omega, by dsimp only; omega, hx⟩, by simp only [LA0]; omega, ?_⟩
    simp only [LA0]
    rw [asg0_step now m p to la h0 c, if_neg (by rw [t]; decide)]
  · have e : 16 - p.toNat = 0 := by omega
    rw [e, asg0]; repeat' (first | exact trivial | rfl | apply And.intro)
end Pl
namespace Pl
open Go Sx Go.Proofs Go.RowKit
theorem qLoop_sum (now : List Int) (e : Int) (b : Bool) : ∀ (l : List Int) (i : Int) (out : List Int) (m : Int), 0 ≤ i → i + l.length ≤ out.length → (qLoop now e b l i out m).1.sum + (qLoop now e b l i out m).2 = out.sum + m
  | [], _, _, _, _, _ => rfl
  | x :: r, i, out, m, h0, h1 => by
    simp only [List.length_cons, Int.natCast_add] at h1
    simp only [qLoop]
    split
    · rw [qLoop_sum now e b r (i + 1) _ _ (by omega) (by simp only [List.length_set]; omega), sum_set _ _ _ (by omega)]; omega
    · rw [qLoop_sum now e b r (i + 1) _ _ (by omega) (by omega)]
def rch (now : List Int) (e : Int) (b : Bool) : List Int → Int
  | [] => 0
  | m :: r => (if decide (hasL now m > e) == b then 1 else 0) + rch now e b r
theorem rch_nn (now : List Int) (e : Int) (b : Bool) : ∀ l : List Int, 0 ≤ rch now e b l
  | [] => by simp [rch]
  | m :: r => by have := rch_nn now e b r; simp only [rch]; split <;> omega
theorem rch_both (now : List Int) (e : Int) : ∀ l : List Int, rch now e true l + rch now e false l = l.length
  | [] => by simp [rch]
  | m :: r => by
    have := rch_both now e r
    simp only [rch, List.length_cons]
    cases decide (hasL now m > e) <;> simp <;> omega
theorem qLoop_more (now : List Int) (e : Int) (b : Bool) : ∀ (l : List Int) (i : Int) (out : List Int) (m : Int), 0 ≤ m → (qLoop now e b l i out m).2 = max (m - rch now e b l) 0
  | [], _, _, m, h => by simp only [qLoop, rch]; omega
  | x :: r, i, out, m, h => by
    have hn := rch_nn now e b r
    simp only [qLoop, rch]
    by_cases c : (decide (hasL now x > e) == b) = true
    · by_cases d : m > 0
      · rw [if_pos (by rw [c]; simpa using d), if_pos c, qLoop_more now e b r _ _ _ (by omega)]; omega
      · rw [if_neg (by simp [d]), if_pos c, qLoop_more now e b r _ _ _ (by omega)]; omega
    · rw [if_neg (by simp only [Bool.and_eq_true]; exact fun z => c z.2), if_neg c, qLoop_more now e b r _ _ _ (by omega)]; omega
theorem sum_rep (k : Nat) (v : Int) : (List.replicate k v).sum = k * v := by
  induction k with
  | zero => simp
  | succ k ih => rw [List.replicate_succ, List.sum_cons, ih, Int.natCast_succ, Int.add_mul]; omega
theorem quotaM_all (now l : List Int) (h1 : 1 ≤ l.length) (h8 : l.length ≤ 8) : (quotaM now l).sum = 16 ∧ (quotaM now l).length = l.length ∧ ∀ x ∈ quotaM now l, 0 ≤ x ∧ x ≤ 40 := by
  have hn := qNum (n := (l.length : Int)) (by omega) (by omega)
  have hk := okQ0 (n := (l.length : Int)) (by omega) (by omega) l.length
  have hl1 := qLoop_len now (qEach (l.length : Int)) true l 0 (List.replicate l.length (qEach (l.length : Int))) (Int.tmod 16 (l.length : Int))
  have hs1 := qLoop_sum now (qEach (l.length : Int)) true l 0 (List.replicate l.length (qEach (l.length : Int))) (Int.tmod 16 (l.length : Int)) (by omega) (by simp)
  have hm1 := qLoop_more now (qEach (l.length : Int)) true l 0 (List.replicate l.length (qEach (l.length : Int))) (Int.tmod 16 (l.length : Int)) hn.2.2.1
  have ho1 := qLoop_ok now (qEach (l.length : Int)) true l 0 (List.replicate l.length (qEach (l.length : Int))) (Int.tmod 16 (l.length : Int)) (by omega) (by simp) hk
  have e : quotaM now l = (qLoop now (qEach (l.length : Int)) false l 0 (qLoop now (qEach (l.length : Int)) true l 0 (List.replicate l.length (qEach (l.length : Int))) (Int.tmod 16 (l.length : Int))).1 (qLoop now (qEach (l.length : Int)) true l 0 (List.replicate l.length (qEach (l.length : Int))) (Int.tmod 16 (l.length : Int))).2).1 := rfl
  rw [e]
  generalize hr : qLoop now (qEach (l.length : Int)) true l 0 (List.replicate l.length (qEach (l.length : Int))) (Int.tmod 16 (l.length : Int)) = r at *
  rw [List.length_replicate] at hl1
  have hs2 := qLoop_sum now (qEach (l.length : Int)) false l 0 r.1 r.2 (by omega) (by omega)
  have hm2 := qLoop_more now (qEach (l.length : Int)) false l 0 r.1 r.2 ho1.1
  have ho2 := qLoop_ok now (qEach (l.length : Int)) false l 0 r.1 r.2 (by omega) (by omega) ho1
  have hl2 := qLoop_len now (qEach (l.length : Int)) false l 0 r.1 r.2
  have hb := rch_both now (qEach (l.length : Int)) l
  have hrn := rch_nn now (qEach (l.length : Int)) true l
  have hrf := rch_nn now (qEach (l.length : Int)) false l
  have h16 : (l.length : Int) * qEach (l.length : Int) + Int.tmod 16 (l.length : Int) = 16 := by
    have : l.length = 1 ∨ l.length = 2 ∨ l.length = 3 ∨ l.length = 4 ∨ l.length = 5 ∨ l.length = 6 ∨ l.length = 7 ∨ l.length = 8 := by omega
    rcases this with h | h | h | h | h | h | h | h <;> rw [h] <;> decide
  rw [sum_rep, h16] at hs1
  refine ⟨by omega, by omega, fun x hx => ?_⟩
  have h2 := ho2.2 x hx
  have h3 := ho2.1
  omega
theorem memL_nn (ms : List Int) : ∀ x ∈ memL ms, 0 ≤ x ∧ x < 8 := by
  intro x hx
  obtain ⟨k, _, h2, _, h3⟩ := (fltB_mem _ _ _ _).1 hx
  omega
theorem asg0_all (now m : List Int) (hm : ∀ x ∈ m, 0 ≤ x) : ∀ (c p : Nat) (to la : List Int), p + c = 16 → to.length = 16 → la.length = m.length → (∀ x ∈ la, 0 ≤ x ∧ x ≤ 40) → ((to.take p).count (-1) : Int) + c ≤ la.sum →
    (asg0 now m c p to la).1.length = 16 ∧ (asg0 now m c p to la).2.length = m.length ∧ (∀ x ∈ (asg0 now m c p to la).2, 0 ≤ x ∧ x ≤ 40) ∧ ((asg0 now m c p to la).1.count (-1) : Int) ≤ (asg0 now m c p to la).2.sum
  | 0, p, to, la, hp, ht, hl, hx, hs => by
    rw [List.take_of_length_le (by omega)] at hs
    exact ⟨ht, hl, hx, by simpa [asg0] using hs⟩
  | c + 1, p, to, la, hp, ht, hl, hx, hs => by
    obtain ⟨i1, i2, i3⟩ := indexF_range m (atL now (p : Int))
    simp only [asg0]
    split
    · rename_i t
      simp only [Bool.and_eq_true, decide_eq_true_eq] at t
      have hlt : (indexF m (atL now (p : Int))).toNat < la.length := by omega
      have hg : la.getD (indexF m (atL now (p : Int))).toNat 0 ∈ la := by rw [getD_get 0 hlt]; exact List.getElem_mem hlt
      have hb := hx _ hg
      have hv : m.getD (indexF m (atL now (p : Int))).toNat 0 ∈ m := getD_mem 0 t.1 i2
      have hv0 := hm _ hv
      refine asg0_all now m hm c (p + 1) _ _ (by omega) (by simp [ht]) (by simp [hl]) (fun x h => ?_) ?_
      · rcases set_mem h with h | h
        · exact hx x h
        · omega
      · rw [set_take_succ _ (by omega), sum_set _ _ _ hlt, List.count_append, List.count_singleton, if_neg (fun z => by have := eq_of_beq z; omega)]
        omega
    · refine asg0_all now m hm c (p + 1) _ _ (by omega) (by simp [ht]) hl hx ?_
      rw [set_take_succ _ (by omega), List.count_append, List.count_singleton, if_pos (by simp)]
      omega
theorem bstC_pos (to la : List Int) (p : Int) (ap : Bool) : ∀ (l : List Int) (i out : Int), out < 0 ∨ la.getD out.toNat 0 > 0 → bstC to la p ap l i out < 0 ∨ la.getD (bstC to la p ap l i out).toNat 0 > 0
  | [], _, _, h => h
  | n :: r, i, out, h => by
    simp only [bstC]
    refine bstC_pos to la p ap r (i + 1) _ ?_
    split
    · rename_i t
      simp only [Bool.and_eq_true, decide_eq_true_eq] at t
      exact .inr t.1.1
    · exact h
theorem bstC_ge (to la : List Int) (p : Int) : ∀ (l : List Int) (i out : Int), 0 ≤ i → (0 ≤ out ∨ ∃ k : Nat, i.toNat ≤ k ∧ k < i.toNat + l.length ∧ la.getD k 0 > 0) → 0 ≤ bstC to la p false l i out
  | [], i, out, _, h => by
    rcases h with h | ⟨k, h1, h2, _⟩
    · exact h
    · simp only [List.length_nil] at h2; omega
  | n :: r, i, out, h0, h => by
    simp only [bstC]
    refine bstC_ge to la p r (i + 1) _ (by omega) ?_
    split
    · exact .inl h0
    · rename_i t
      rcases h with h | ⟨k, h1, h2, h3⟩
      · exact .inl h
      · simp only [List.length_cons] at h2
        by_cases e : k = i.toNat
        · subst e
          by_cases ho : out < 0
          · exact absurd (by simp only [Bool.and_eq_true, Bool.or_eq_true, decide_eq_true_eq]; exact ⟨⟨h3, rfl⟩, .inl ho⟩) t
          · exact .inl (by omega)
        · exact .inr ⟨k, by omega, by omega, h3⟩
theorem sum_pos : ∀ (l : List Int), 1 ≤ l.sum → ∃ k, k < l.length ∧ l.getD k 0 > 0
  | [], h => by simp at h
  | a :: l, h => by
    by_cases c : a > 0
    · exact ⟨0, by simp, by simpa using c⟩
    · obtain ⟨k, h1, h2⟩ := sum_pos l (by simp only [List.sum_cons] at h; omega)
      exact ⟨k + 1, by simpa using h1, by simpa using h2⟩
theorem bst_range (m la to : List Int) (p : Int) (ap : Bool) (hl : la.length = m.length) : -1 ≤ bstL (m, la, to) p ap ∧ bstL (m, la, to) p ap < m.length ∧ (bstL (m, la, to) p ap < 0 ∨ la.getD (bstL (m, la, to) p ap).toNat 0 > 0) := by
  by_cases h : m.length = 0
  · have : m = [] := List.eq_nil_of_length_eq_zero h
    subst this
    have e : bstL ([], la, to) p ap = -1 := rfl
    rw [e]
    exact ⟨by omega, by simp, .inl (by omega)⟩
  · have := bstC_range to la p ap m.length m 0 (-1) (by omega) (by omega) (by omega) (by omega)
    exact ⟨this.1, this.2, bstC_pos to la p ap m 0 (-1) (.inl (by omega))⟩
theorem bst_false (m la to : List Int) (p : Int) (hl : la.length = m.length) (hs : 1 ≤ la.sum) : 0 ≤ bstL (m, la, to) p false := by
  obtain ⟨k, h1, h2⟩ := sum_pos la hs
  exact bstC_ge to la p m 0 (-1) (by omega) (.inr ⟨k, by omega, by simp; omega, h2⟩)
theorem pick_range (m la to : List Int) (p : Int) (hl : la.length = m.length) (hs : 1 ≤ la.sum) : 0 ≤ pick m la to p ∧ pick m la to p < m.length ∧ la.getD (pick m la to p).toNat 0 > 0 := by
  have h1 := bst_range m la to p true hl
  have h2 := bst_range m la to p false hl
  have h3 := bst_false m la to p hl hs
  unfold pick
  split
  · exact ⟨h3, h2.2.1, h2.2.2.resolve_left (by omega)⟩
  · rename_i h
    simp only [decide_eq_true_eq] at h
    exact ⟨by omega, h1.2.1, h1.2.2.resolve_left h⟩
theorem asg1_step (m to0 : List Int) (p : Int) (to la : List Int) (h0 : 0 ≤ p) (h1 : p < 16) : asg1 m to0 (16 - p.toNat) p.toNat to la = if to0.getD p.toNat 0 == -1 then asg1 m to0 (16 - (p + 1).toNat) (p + 1).toNat (to.set p.toNat (m.getD (pick m la to p).toNat 0)) (la.set (pick m la to p).toNat (la.getD (pick m la to p).toNat 0 - 1)) else asg1 m to0 (16 - (p + 1).toNat) (p + 1).toNat to la := by
  have e1 : 16 - p.toNat = (16 - (p + 1).toNat) + 1 := by omega
  have e2 : (p.toNat : Int) = p := by omega
  have e3 : p.toNat + 1 = (p + 1).toNat := by omega
  rw [e1, asg1, e2, e3]
theorem lA1 : ∀ st out, (LA1.sp st).reach out → CodeOK Try.prog Try.f21.ntmps (.loop (loopAt (bodyOf Try.f21) 1)) st out := by
  refine LA1.sound W2_ok (lps := []) (n := 100) (inner rfl) (fun _ => rfl) ?_
  rintro ⟨la, m, t0, p, to⟩ ⟨h16, hz, hl, h8, h0, h1, hx, hs⟩
  simp only at h16 hz hl h8 h0 h1 hx hs
  rw [rA1]
  simp only [tab_eq h16, tab_eq hz]
  simp only [all_leaf, all_fork, all_req, conjP, and_true, decide_eq_true_eq, decide_eq_false_iff_not]
  refine ⟨fun c => ⟨⟨h0, c⟩, fun t => ⟨by repeat' (first | exact trivial | rfl | apply And.intro), ?_⟩, fun t => ?_⟩, fun c => ⟨?_, trivial⟩⟩
  · rw [IntWalk.i64_in (p + 1) (by omega)]
    have hd := drop_cons (l := t0) 0 h0 (by omega)
    rw [hd, List.count_cons] at hs
    refine ⟨⟨h16, hz, hl, h8, by dsimp only; omega, by dsimp only; omega, hx, by dsimp only; omega⟩, by simp only [LA1]; omega, ?_⟩
    simp only [LA1]
    rw [asg1_step m t0 p to la h0 c, if_neg (by simpa using t)]
  · have t' : t0.getD p.toNat 0 = -1 := by simpa using t
    have hd := drop_cons (l := t0) 0 h0 (by omega)
    rw [hd, List.count_cons, if_pos (by rw [t']; rfl)] at hs
    have hp := pick_range m la to p hl (by omega)
    have r1 := bst_range m la to p true hl
    have fin : ∀ v : Int, v = pick m la to p → LA1.Next ⟨la, m, t0, p, to⟩ (some ⟨la.set v.toNat (IntKind.i64.wrap (la.getD v.toNat 0 - 1)), m, t0, IntKind.i64.wrap (p + 1), to.set p.toNat (m.getD v.toNat 0)⟩) := by
      intro v hv
      subst hv
      have hlt : (pick m la to p).toNat < la.length := by omega
      have hg : la.getD (pick m la to p).toNat 0 ∈ la := by rw [getD_get 0 hlt]; exact List.getElem_mem hlt
      have hb := hx _ hg
      rw [IntWalk.i64_in (p + 1) (by omega), IntWalk.i64_in _ (by omega)]
      refine ⟨⟨by simp [h16], hz, by simp [hl], h8, by dsimp only; omega, by dsimp only; omega, fun x h => ?_, ?_⟩, by simp only [LA1]; omega, ?_⟩
      · rcases set_mem h with h | h
        · exact hx x h
        · omega
      · dsimp only; rw [sum_set _ _ _ hlt]; omega
      · simp only [LA1]
        rw [asg1_step m t0 p to la h0 c, if_pos (by rw [t']; rfl)]
    have eF : bstL (m, la, to) p true < 0 → pick m la to p = bstL (m, la, to) p false := fun d => by unfold pick; rw [if_pos (by simpa using d)]
    have eT : ¬ bstL (m, la, to) p true < 0 → pick m la to p = bstL (m, la, to) p true := fun d => by unfold pick; rw [if_neg (by simpa using d)]
    have pre : la.length = m.length ∧ m.length ≤ 8 ∧ 0 ≤ p ∧ p < 16 := ⟨hl, h8, h0, c⟩
    refine ⟨⟨trivial, pre⟩, fun d => ?_, fun d => ?_⟩
    · have e := eF d
      rw [e] at hp
      have q1 : 0 ≤ bstL (m, la, to) p false ∧ bstL (m, la, to) p false < (m.length : Int) := ⟨hp.1, hp.2.1⟩
      have q2 : 0 ≤ bstL (m, la, to) p false ∧ bstL (m, la, to) p false < (la.length : Int) := ⟨hp.1, by omega⟩
      refine ⟨⟨trivial, pre⟩, q1, q1, ⟨h0, c⟩, ⟨h0, c⟩, q2, q2, q2, q2, by repeat' (first | exact trivial | rfl | apply And.intro), ?_⟩
      rw [tabL_put h16 h0]
      exact fin _ e.symm
    · have e := eT d
      rw [e] at hp
      have q1 : 0 ≤ bstL (m, la, to) p true ∧ bstL (m, la, to) p true < (m.length : Int) := ⟨hp.1, hp.2.1⟩
      have q2 : 0 ≤ bstL (m, la, to) p true ∧ bstL (m, la, to) p true < (la.length : Int) := ⟨hp.1, by omega⟩
      refine ⟨q1, q1, ⟨h0, c⟩, ⟨h0, c⟩, q2, q2, q2, q2, by repeat' (first | exact trivial | rfl | apply And.intro), ?_⟩
      rw [tabL_put h16 h0]
      exact fin _ e.symm
  · have e : 16 - p.toNat = 0 := by omega
    rw [e, asg1]; repeat' (first | exact trivial | rfl | apply And.intro)
end Pl
