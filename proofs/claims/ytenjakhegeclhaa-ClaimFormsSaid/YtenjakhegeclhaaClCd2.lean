import Derived.Test.YtenjakhegeclhaaClCq3
namespace Pl
open Go Sx Go.Proofs Go.RowKit
abbrev Deal : Ty := .cat ints (.cat ints (.rep 16 i64))
abbrev DealD : Type := List Int × List Int × List Int
theorem bodyBs : Try.f32.body = some (bodyOf Try.f32) := by kernel_rfl
theorem bodyBe : Try.f29.body = some (bodyOf Try.f29) := by kernel_rfl
theorem bodyGi : Try.f28.body = some (bodyOf Try.f28) := by kernel_rfl
theorem bodyAs : Try.f17.body = some (bodyOf Try.f17) := by kernel_rfl
def bsd (to : List Int) (p n : Int) : Bool := to.getD ((p + 1) % 16).toNat 0 == n || to.getD ((p + 15) % 16).toNat 0 == n
noncomputable abbrev W0 : Ex := mkExM Try.prog []
theorem W0_ok : W0.Sound := mkExM_sound trivial
theorem tBs (d : DealD) (p n : Int) : @Eq _
  (fnT W0 [] 100 Try.f32 [.ptr Deal, i64, i64] [.bool] (d, p, n, ()))
  (.req ((16 : Int) ≠ (0 : Int) ∧ ((0 : Int) ≤ (IntKind.i64.wrap (p + (1 : Int))).tmod (16 : Int) ∧ (IntKind.i64.wrap (p + (1 : Int))).tmod (16 : Int) < (16 : Int)) ∧ ((0 : Int) ≤ (IntKind.i64.wrap (p + (1 : Int))).tmod (16 : Int) ∧ (IntKind.i64.wrap (p + (1 : Int))).tmod (16 : Int) < (16 : Int)) ∧ (((tab 16 d.2.2 (0 : Int)).getD ((IntKind.i64.wrap (p + (1 : Int))).tmod (16 : Int)).toNat (0 : Int) == n) = false → conjP [(16 : Int) ≠ (0 : Int), (0 : Int) ≤ (IntKind.i64.wrap (IntKind.i64.wrap (p + (16 : Int)) - (1 : Int))).tmod (16 : Int) ∧ (IntKind.i64.wrap (IntKind.i64.wrap (p + (16 : Int)) - (1 : Int))).tmod (16 : Int) < (16 : Int), (0 : Int) ≤ (IntKind.i64.wrap (IntKind.i64.wrap (p + (16 : Int)) - (1 : Int))).tmod (16 : Int) ∧ (IntKind.i64.wrap (IntKind.i64.wrap (p + (16 : Int)) - (1 : Int))).tmod (16 : Int) < (16 : Int)])) (
 .leaf (((tab 16 d.2.2 (0 : Int)).getD ((IntKind.i64.wrap (p + (1 : Int))).tmod (16 : Int)).toNat (0 : Int) == n || (tab 16 d.2.2 (0 : Int)).getD ((IntKind.i64.wrap (IntKind.i64.wrap (p + (16 : Int)) - (1 : Int))).tmod (16 : Int)).toNat (0 : Int) == n, ()))) : Tree (Bool × PUnit)) := by kernel_rfl
def bstC (to lacks : List Int) (p : Int) (ap : Bool) : List Int → Int → Int → Int
  | [], _, out => out
  | n :: r, i, out => bstC to lacks p ap r (i + 1) (if decide (lacks.getD i.toNat 0 > 0) && !(ap && bsd to p n) && (decide (out < 0) || decide (lacks.getD i.toNat 0 > lacks.getD out.toNat 0)) then i else out)
noncomputable abbrev W1 : Ex := mkExM Try.prog [(32, pureSp [.ptr Deal, i64, i64] [.bool] (fun x => List.length (α := Int) x.1.2.2 = 16 ∧ 0 ≤ x.2.1 ∧ x.2.1 < 16) (fun x => (bsd x.1.2.2 x.2.1 x.2.2.1, ())))]
structure ABe where
  d : Pl.DealD
  p : Int
  ap : Bool
  i0 : Int
  i1 : Int
def LBe : LoopC ABe where
  n0 := 3
  det st := match datG st 0 0 Deal, intS st 1, boolS st 2, intS st 15, intS st 7 with | some d, some p, some ap, some i0, some i1 => some ⟨d, p, ap, i0, i1⟩ | _, _, _, _, _ => none
  inv a := ⟨[(15, iv a.i0), (14, iv (↑a.d.1.length : Int)), (13, .one (.row 1)), (7, iv a.i1), (0, .one (.ptr 0 0)), (1, iv a.p), (2, .one (.bool a.ap))],
    [(0, .rob [.row 1, .row 2, .int .i64 (a.d.2.2.getD 0 (0 : Int)), .int .i64 (a.d.2.2.getD 1 (0 : Int)), .int .i64 (a.d.2.2.getD 2 (0 : Int)), .int .i64 (a.d.2.2.getD 3 (0 : Int)), .int .i64 (a.d.2.2.getD 4 (0 : Int)), .int .i64 (a.d.2.2.getD 5 (0 : Int)), .int .i64 (a.d.2.2.getD 6 (0 : Int)), .int .i64 (a.d.2.2.getD 7 (0 : Int)), .int .i64 (a.d.2.2.getD 8 (0 : Int)), .int .i64 (a.d.2.2.getD 9 (0 : Int)), .int .i64 (a.d.2.2.getD 10 (0 : Int)), .int .i64 (a.d.2.2.getD 11 (0 : Int)), .int .i64 (a.d.2.2.getD 12 (0 : Int)), .int .i64 (a.d.2.2.getD 13 (0 : Int)), .int .i64 (a.d.2.2.getD 14 (0 : Int)), .int .i64 (a.d.2.2.getD 15 (0 : Int))]), (1, .ro i64 a.d.1), (2, .ro i64 a.d.2.1)], 3⟩
  ok a := a.d.2.2.length = 16 ∧ a.d.2.1.length = a.d.1.length ∧ a.d.1.length ≤ 8 ∧ 0 ≤ a.p ∧ a.p < 16 ∧ 0 ≤ a.i0 ∧ a.i0 ≤ a.d.1.length ∧ -1 ≤ a.i1 ∧ a.i1 < a.d.1.length
  mu a := a.d.1.length - a.i0.toNat
  fin a := .leaf ⟨2, ⟨[(7, iv (bstC a.d.2.2 a.d.2.1 a.p a.ap (a.d.1.drop a.i0.toNat) a.i0 a.i1))], [], 3⟩⟩
theorem rBe (d : DealD) (p : Int) (ap : Bool) (i0 i1 : Int) : @Eq _
  (LBe.round W1 [] 100 Try.f29 0 ⟨d, p, ap, i0, i1⟩)
  (.fork (decide (i0 < (↑d.1.length : Int))) (
 .req ((0 : Int) ≤ i0 ∧ i0 < (↑d.1.length : Int)) (
  .req ((0 : Int) ≤ i0 ∧ i0 < (↑d.1.length : Int)) (
   .req (((0 : Int) ≤ i0 ∧ i0 < (↑d.2.1.length : Int)) ∧ ((0 : Int) ≤ i0 ∧ i0 < (↑d.2.1.length : Int)) ∧ (decide (d.2.1.getD i0.toNat (0 : Int) > (0 : Int)) = true → conjP [ap = true → conjP [16 = 16 ∧ (0 : Int) ≤ p ∧ p < (16 : Int), (!Pl.bsd (tab 16 d.2.2 (0 : Int)) p (d.1.getD i0.toNat (0 : Int))) = true → conjP [decide (i1 < (0 : Int)) = false → conjP [(0 : Int) ≤ i0 ∧ i0 < (↑d.2.1.length : Int), (0 : Int) ≤ i0 ∧ i0 < (↑d.2.1.length : Int), (0 : Int) ≤ i1 ∧ i1 < (↑d.2.1.length : Int), (0 : Int) ≤ i1 ∧ i1 < (↑d.2.1.length : Int)]]], ap = false → conjP [decide (i1 < (0 : Int)) = false → conjP [(0 : Int) ≤ i0 ∧ i0 < (↑d.2.1.length : Int), (0 : Int) ≤ i0 ∧ i0 < (↑d.2.1.length : Int), (0 : Int) ≤ i1 ∧ i1 < (↑d.2.1.length : Int), (0 : Int) ≤ i1 ∧ i1 < (↑d.2.1.length : Int)]]])) (
    .fork (decide (d.2.1.getD i0.toNat (0 : Int) > (0 : Int)) && bif ap then !Pl.bsd (tab 16 d.2.2 (0 : Int)) p (d.1.getD i0.toNat (0 : Int)) && (decide (i1 < (0 : Int)) || decide (d.2.1.getD i0.toNat (0 : Int) > d.2.1.getD i1.toNat (0 : Int))) else decide (i1 < (0 : Int)) || decide (d.2.1.getD i0.toNat (0 : Int) > d.2.1.getD i1.toNat (0 : Int))) (
     .req (IntKind.i64.wrap (i0 + (1 : Int)) = IntKind.i64.wrap (i0 + (1 : Int)) ∧ (↑d.1.length : Int) = (↑d.1.length : Int) ∧ i0 = i0 ∧ p = p ∧ ap = ap ∧ d.2.2.getD 0 (0 : Int) = (tab 16 d.2.2 (0 : Int)).getD 0 (0 : Int) ∧ d.2.2.getD 1 (0 : Int) = (tab 16 d.2.2 (0 : Int)).getD 1 (0 : Int) ∧ d.2.2.getD 2 (0 : Int) = (tab 16 d.2.2 (0 : Int)).getD 2 (0 : Int) ∧ d.2.2.getD 3 (0 : Int) = (tab 16 d.2.2 (0 : Int)).getD 3 (0 : Int) ∧ d.2.2.getD 4 (0 : Int) = (tab 16 d.2.2 (0 : Int)).getD 4 (0 : Int) ∧ d.2.2.getD 5 (0 : Int) = (tab 16 d.2.2 (0 : Int)).getD 5 (0 : Int) ∧ d.2.2.getD 6 (0 : Int) = (tab 16 d.2.2 (0 : Int)).getD 6 (0 : Int) ∧ d.2.2.getD 7 (0 : Int) = (tab 16 d.2.2 (0 : Int)).getD 7 (0 : Int) ∧ d.2.2.getD 8 (0 : Int) = (tab 16 d.2.2 (0 : Int)).getD 8 (0 : Int) ∧ d.2.2.getD 9 (0 : Int) = (tab 16 d.2.2 (0 : Int)).getD 9 (0 : Int) ∧ d.2.2.getD 10 (0 : Int) = (tab 16 d.2.2 (0 : Int)).getD 10 (0 : Int) ∧ d.2.2.getD 11 (0 : Int) = (tab 16 d.2.2 (0 : Int)).getD 11 (0 : Int) ∧ d.2.2.getD 12 (0 : Int) = (tab 16 d.2.2 (0 : Int)).getD 12 (0 : Int) ∧ d.2.2.getD 13 (0 : Int) = (tab 16 d.2.2 (0 : Int)).getD 13 (0 : Int) ∧ d.2.2.getD 14 (0 : Int) = (tab 16 d.2.2 (0 : Int)).getD 14 (0 : Int) ∧ d.2.2.getD 15 (0 : Int) = (tab 16 d.2.2 (0 : Int)).getD 15 (0 : Int) ∧ d.1 = d.1 ∧ d.2.1 = d.2.1) (
      .leaf (Option.some { d := (d.1, d.2.1, tab 16 d.2.2 (0 : Int)), p := p, ap := ap, i0 := IntKind.i64.wrap (i0 + (1 : Int)), i1 := i0 }))) (
     .req (IntKind.i64.wrap (i0 + (1 : Int)) = IntKind.i64.wrap (i0 + (1 : Int)) ∧ (↑d.1.length : Int) = (↑d.1.length : Int) ∧ i1 = i1 ∧ p = p ∧ ap = ap ∧ d.2.2.getD 0 (0 : Int) = (tab 16 d.2.2 (0 : Int)).getD 0 (0 : Int) ∧ d.2.2.getD 1 (0 : Int) = (tab 16 d.2.2 (0 : Int)).getD 1 (0 : Int) ∧ d.2.2.getD 2 (0 : Int) = (tab 16 d.2.2 (0 : Int)).getD 2 (0 : Int) ∧ d.2.2.getD 3 (0 : Int) = (tab 16 d.2.2 (0 : Int)).getD 3 (0 : Int) ∧ d.2.2.getD 4 (0 : Int) = (tab 16 d.2.2 (0 : Int)).getD 4 (0 : Int) ∧ d.2.2.getD 5 (0 : Int) = (tab 16 d.2.2 (0 : Int)).getD 5 (0 : Int) ∧ d.2.2.getD 6 (0 : Int) = (tab 16 d.2.2 (0 : Int)).getD 6 (0 : Int) ∧ d.2.2.getD 7 (0 : Int) = (tab 16 d.2.2 (0 : Int)).getD 7 (0 : Int) ∧ d.2.2.getD 8 (0 : Int) = (tab 16 d.2.2 (0 : Int)).getD 8 (0 : Int) ∧ d.2.2.getD 9 (0 : Int) = (tab 16 d.2.2 (0 : Int)).getD 9 (0 : Int) ∧ d.2.2.getD 10 (0 : Int) = (tab 16 d.2.2 (0 : Int)).getD 10 (0 : Int) ∧ d.2.2.getD 11 (0 : Int) = (tab 16 d.2.2 (0 : Int)).getD 11 (0 : Int) ∧ d.2.2.getD 12 (0 : Int) = (tab 16 d.2.2 (0 : Int)).getD 12 (0 : Int) ∧ d.2.2.getD 13 (0 : Int) = (tab 16 d.2.2 (0 : Int)).getD 13 (0 : Int) ∧ d.2.2.getD 14 (0 : Int) = (tab 16 d.2.2 (0 : Int)).getD 14 (0 : Int) ∧ d.2.2.getD 15 (0 : Int) = (tab 16 d.2.2 (0 : Int)).getD 15 (0 : Int) ∧ d.1 = d.1 ∧ d.2.1 = d.2.1) (
      .leaf (Option.some { d := (d.1, d.2.1, tab 16 d.2.2 (0 : Int)), p := p, ap := ap, i0 := IntKind.i64.wrap (i0 + (1 : Int)), i1 := i1 }))))))) (
 .req (i1 = Pl.bstC d.2.2 d.2.1 p ap (List.drop i0.toNat d.1) i0 i1) (
  .leaf (Option.none))) : Tree (Option Pl.ABe)) := by kernel_rfl
theorem tBe (d : DealD) (p : Int) (ap : Bool) : @Eq _
  (fnT W1 [(0, LBe.sp)] 100 Try.f29 [.ptr Deal, i64, .bool] [i64] (d, p, ap, ()))
  (.req (16 = 16 ∧ d.2.1.length = d.1.length ∧ d.1.length ≤ 8 ∧ (0 : Int) ≤ p ∧ p < (16 : Int) ∧ (0 : Int) ≤ (0 : Int) ∧ (0 : Int) ≤ (↑d.1.length : Int) ∧ (-1 : Int) ≤ (-1 : Int) ∧ (-1 : Int) < (↑d.1.length : Int)) (
 .req ((0 : Int) = (0 : Int) ∧ (↑d.1.length : Int) = (↑d.1.length : Int) ∧ (-1 : Int) = (-1 : Int) ∧ p = p ∧ ap = ap ∧ d.2.2.getD 0 (0 : Int) = (tab 16 d.2.2 (0 : Int)).getD 0 (0 : Int) ∧ d.2.2.getD 1 (0 : Int) = (tab 16 d.2.2 (0 : Int)).getD 1 (0 : Int) ∧ d.2.2.getD 2 (0 : Int) = (tab 16 d.2.2 (0 : Int)).getD 2 (0 : Int) ∧ d.2.2.getD 3 (0 : Int) = (tab 16 d.2.2 (0 : Int)).getD 3 (0 : Int) ∧ d.2.2.getD 4 (0 : Int) = (tab 16 d.2.2 (0 : Int)).getD 4 (0 : Int) ∧ d.2.2.getD 5 (0 : Int) = (tab 16 d.2.2 (0 : Int)).getD 5 (0 : Int) ∧ d.2.2.getD 6 (0 : Int) = (tab 16 d.2.2 (0 : Int)).getD 6 (0 : Int) ∧ d.2.2.getD 7 (0 : Int) = (tab 16 d.2.2 (0 : Int)).getD 7 (0 : Int) ∧ d.2.2.getD 8 (0 : Int) = (tab 16 d.2.2 (0 : Int)).getD 8 (0 : Int) ∧ d.2.2.getD 9 (0 : Int) = (tab 16 d.2.2 (0 : Int)).getD 9 (0 : Int) ∧ d.2.2.getD 10 (0 : Int) = (tab 16 d.2.2 (0 : Int)).getD 10 (0 : Int) ∧ d.2.2.getD 11 (0 : Int) = (tab 16 d.2.2 (0 : Int)).getD 11 (0 : Int) ∧ d.2.2.getD 12 (0 : Int) = (tab 16 d.2.2 (0 : Int)).getD 12 (0 : Int) ∧ d.2.2.getD 13 (0 : Int) = (tab 16 d.2.2 (0 : Int)).getD 13 (0 : Int) ∧ d.2.2.getD 14 (0 : Int) = (tab 16 d.2.2 (0 : Int)).getD 14 (0 : Int) ∧ d.2.2.getD 15 (0 : Int) = (tab 16 d.2.2 (0 : Int)).getD 15 (0 : Int) ∧ d.1 = d.1 ∧ d.2.1 = d.2.1) (
  .leaf ((Pl.bstC (tab 16 d.2.2 (0 : Int)) d.2.1 p ap (List.drop 0 d.1) (0 : Int) (-1 : Int), ())))) : Tree (Int × PUnit)) := by kernel_rfl
end Pl
namespace Pl
open Go Sx Go.Proofs Go.RowKit
theorem bs_t (d : DealD) (p n : Int) (h : d.2.2.length = 16) (h0 : 0 ≤ p) (h1 : p < 16) : (fnT W0 [] 100 Try.f32 [.ptr Deal, i64, i64] [.bool] (d, p, n, ())).all fun y => y = (bsd d.2.2 p n, ()) := by
  refine Tree.all_eq (tBs d p n) ?_
  show Tree.all (α := Bool × Unit) _ (fun y => y = (bsd d.2.2 p n, ()))
  rw [tab_eq h]
  simp only [all_leaf, all_req, conjP, and_true]
  unfold bsd
  rw [IntWalk.i64_in (p + 1) (by omega), IntWalk.i64_in (p + 16) (by omega), IntWalk.i64_in (p + 16 - 1) (by omega), Int.tmod_eq_emod_of_nonneg (by omega), Int.tmod_eq_emod_of_nonneg (by omega), show p + 16 - 1 = p + 15 by omega]
  exact ⟨⟨by decide, by omega, by omega, fun _ => ⟨by decide, by omega, by omega⟩⟩, rfl⟩
theorem bs_ok : PureOK Try.prog 32 [.ptr Deal, i64, i64] [.bool] (fun x => List.length (α := Int) x.1.2.2 = 16 ∧ 0 ≤ x.2.1 ∧ x.2.1 < 16) (fun x => (bsd x.1.2.2 x.2.1 x.2.2.1, ())) :=
  fn_pure (E := W0) (n := 100) W0_ok Try.func32 bodyBs .nil fun x h => bs_t x.1 x.2.1 x.2.2.1 h.1 h.2.1 h.2.2
abbrev KBs : Nat × Sx.Spec := (32, pureSp [.ptr Deal, i64, i64] [.bool] (fun x => List.length (α := Int) x.1.2.2 = 16 ∧ 0 ≤ x.2.1 ∧ x.2.1 < 16) (fun x => (bsd x.1.2.2 x.2.1 x.2.2.1, ())))
theorem W1_ok : W1.Sound := mkExM_sound ⟨pureSp_ok bs_ok, trivial⟩
theorem bstC_range (to lacks : List Int) (p : Int) (ap : Bool) (N : Int) : ∀ (l : List Int) (i out : Int), 0 ≤ i → i + l.length ≤ N → -1 ≤ out → out < N → -1 ≤ bstC to lacks p ap l i out ∧ bstC to lacks p ap l i out < N
  | [], _, _, _, _, h, h' => ⟨h, h'⟩
  | n :: r, i, out, h0, h1, h, h' => by
    simp only [List.length_cons, Int.natCast_add] at h1
    simp only [bstC]
    refine bstC_range to lacks p ap N r (i + 1) _ (by omega) (by omega) ?_ ?_
    · split <;> omega
    · split <;> omega
theorem lBe : LpsOK Try.prog Try.f29 [(0, LBe.sp)] := by
  refine .cons (LBe.sound W1_ok (lps := []) (n := 100) (inner rfl) (fun _ => rfl) ?_) .nil
  rintro ⟨d, p, ap, i0, i1⟩ ⟨h16, hl, h8, hp0, hp1, h0, h1, h2, h3⟩
  simp only at h16 hl h8 hp0 hp1 h0 h1 h2 h3
  rw [rBe, tab_eq h16]
  have step : ∀ c : i0 < d.1.length, bstC d.2.2 d.2.1 p ap (d.1.drop i0.toNat) i0 i1 = bstC d.2.2 d.2.1 p ap (d.1.drop (i0 + 1).toNat) (i0 + 1) (if decide (d.2.1.getD i0.toNat 0 > 0) && !(ap && bsd d.2.2 p (d.1.getD i0.toNat 0)) && (decide (i1 < 0) || decide (d.2.1.getD i0.toNat 0 > d.2.1.getD i1.toNat 0)) then i0 else i1) := fun c => by
    rw [drop_cons 0 h0 (by omega), bstC]
  have cond : (decide (d.2.1.getD i0.toNat 0 > 0) && bif ap then !Pl.bsd d.2.2 p (d.1.getD i0.toNat 0) && (decide (i1 < 0) || decide (d.2.1.getD i0.toNat 0 > d.2.1.getD i1.toNat 0)) else decide (i1 < 0) || decide (d.2.1.getD i0.toNat 0 > d.2.1.getD i1.toNat 0)) = (decide (d.2.1.getD i0.toNat 0 > 0) && !(ap && bsd d.2.2 p (d.1.getD i0.toNat 0)) && (decide (i1 < 0) || decide (d.2.1.getD i0.toNat 0 > d.2.1.getD i1.toNat 0))) := by
    cases ap <;> simp [Bool.and_assoc]
  rw [cond]
  simp only [all_leaf, all_fork, all_req, conjP, and_true, true_and, implies_true, decide_eq_true_eq, decide_eq_false_iff_not]
  refine ⟨fun c => ?_, fun c => ⟨?_, ?_⟩⟩
  · have hw := IntWalk.i64_in (i0 + 1) (by omega)
    have nx : ∀ v : Int, v = (if (decide (d.2.1.getD i0.toNat 0 > 0) && !(ap && bsd d.2.2 p (d.1.getD i0.toNat 0)) && (decide (i1 < 0) || decide (d.2.1.getD i0.toNat 0 > d.2.1.getD i1.toNat 0))) = true then i0 else i1) → LBe.Next ⟨d, p, ap, i0, i1⟩ (some ⟨(d.1, d.2.1, d.2.2), p, ap, IntKind.i64.wrap (i0 + 1), v⟩) := by
      intro v hv
      rw [hw]
      refine ⟨⟨h16, hl, h8, hp0, hp1, by dsimp only; omega, by dsimp only; omega, ?_, ?_⟩, by simp only [LBe]; omega, ?_⟩
      · dsimp only; rw [hv]; split <;> omega
      · dsimp only; rw [hv]; split <;> omega
      · simp only [LBe]; rw [step c, hv]
    refine ⟨by omega, by omega, ⟨by omega, by omega, fun _ => ?_⟩, fun t => nx _ (by rw [if_pos t]), fun t => nx _ (by rw [if_neg (by rw [t]; decide)])⟩
    have q : ¬ i1 < 0 → (0 ≤ i0 ∧ i0 < (d.2.1.length : Int)) ∧ (0 ≤ i0 ∧ i0 < (d.2.1.length : Int)) ∧ (0 ≤ i1 ∧ i1 < (d.2.1.length : Int)) ∧ 0 ≤ i1 ∧ i1 < (d.2.1.length : Int) := fun z => ⟨by omega, by omega, by omega, by omega⟩
    exact ⟨fun _ => ⟨⟨hp0, hp1⟩, fun _ => q⟩, fun _ => q⟩
  · rw [drop_end (by omega)]; rfl
  · trivial
def bstL (d : DealD) (p : Int) (ap : Bool) : Int := bstC d.2.2 d.2.1 p ap d.1 0 (-1)
theorem best_t (d : DealD) (p : Int) (ap : Bool) (h16 : d.2.2.length = 16) (hl : d.2.1.length = d.1.length) (h8 : d.1.length ≤ 8) (h0 : 0 ≤ p) (h1 : p < 16) : (fnT W1 [(0, LBe.sp)] 100 Try.f29 [.ptr Deal, i64, .bool] [i64] (d, p, ap, ())).all fun y => y = (bstL d p ap, ()) := by
  refine Tree.all_eq (tBe d p ap) ?_
  show Tree.all (α := Int × Unit) _ (fun y => y = (bstL d p ap, ()))
  rw [tab_eq h16]
  simp only [all_leaf, all_req, and_true, true_and]
  exact ⟨⟨hl, h8, h0, h1, by omega, by omega, by omega, by omega⟩, rfl⟩
theorem best_ok : PureOK Try.prog 29 [.ptr Deal, i64, .bool] [i64] (fun x => List.length (α := Int) x.1.2.2 = 16 ∧ List.length (α := Int) x.1.2.1 = List.length (α := Int) x.1.1 ∧ List.length (α := Int) x.1.1 ≤ 8 ∧ 0 ≤ x.2.1 ∧ x.2.1 < 16) (fun x => (bstL x.1 x.2.1 x.2.2.1, ())) :=
  fn_pure (E := W1) (n := 100) W1_ok Try.func29 bodyBe lBe fun x h => best_t x.1 x.2.1 x.2.2.1 h.1 h.2.1 h.2.2.1 h.2.2.2.1 h.2.2.2.2
abbrev KBe : Nat × Sx.Spec := (29, pureSp [.ptr Deal, i64, .bool] [i64] (fun x => List.length (α := Int) x.1.2.2 = 16 ∧ List.length (α := Int) x.1.2.1 = List.length (α := Int) x.1.1 ∧ List.length (α := Int) x.1.1 ≤ 8 ∧ 0 ≤ x.2.1 ∧ x.2.1 < 16) (fun x => (bstL x.1 x.2.1 x.2.2.1, ())))
end Pl
