import Derived.Test.YtmgglkmpkhdclaaDoorHePl1
namespace Pl
open Go Sx Go.Proofs

theorem toNat1 {i : Int} (h : 0 ≤ i) : (i + 1).toNat = i.toNat + 1 := by omega
theorem cut {l : List Int} {i : Int} (h0 : 0 ≤ i) (h1 : i < l.length) : ∃ x r, l.getD i.toNat 0 = x ∧ l.drop i.toNat = x :: r ∧ l.drop (i + 1).toNat = r :=
  ⟨_, _, rfl, getD_lt h0 h1, by rw [toNat1 h0]⟩
theorem ends {l : List Int} {i : Int} (h1 : ¬ i < l.length) : l.drop i.toNat = [] := List.drop_eq_nil_of_le (by omega)
def cmpI (a b : Int) : Int := if a < b then -1 else if b < a then 1 else 0
def orL : List Int → Int
  | [] => 0
  | x :: r => if x = 0 then orL r else x
def nz (l : List Int) : Bool := l.any fun x => x != 0

theorem body30 : Tryd.f27.body = some (bodyOf Tryd.f27) := by kernel_rfl
theorem body22 : Tryd.f22.body = some (bodyOf Tryd.f22) := by kernel_rfl
theorem body21 : Tryd.f21.body = some (bodyOf Tryd.f21) := by kernel_rfl
noncomputable abbrev E1 : Ex := mkEx Tryd.prog [(27, fnI E0 [] 100 Tryd.f27)]
theorem E1_ok : E1.Sound := mkEx_sound ⟨fnI_ok (E := E0) E0_ok Tryd.func27 body30 .nil, trivial⟩

theorem t22 (x y : Int) :
  fnT E1 [] 100 Tryd.f22 [i64, i64] [i64] (x, y, ()) =
.fork (x != x) (
 .fork (y != y) (
  .leaf (((0 : Int), ()))) (
  .leaf (((-1 : Int), ())))) (
 .fork (y != y) (
  .leaf (((1 : Int), ()))) (
  .fork (decide (x < y)) (
   .leaf (((-1 : Int), ()))) (
   .fork (decide (x > y)) (
    .leaf (((1 : Int), ()))) (
    .leaf (((0 : Int), ())))))) := by kernel_rfl
theorem cmp_t (x y : Int) : (fnT E1 [] 100 Tryd.f22 [i64, i64] [i64] (x, y, ())).all fun r => r = (cmpI x y, ()) := by
  rw [t22]
  simp only [Tree.all, decide_eq_true_eq, decide_eq_false_iff_not, bne_self_eq_false, cmpI]
  refine ⟨by simp, fun _ => ⟨by simp, fun _ => ⟨fun c => ?_, fun c => ⟨fun d => ?_, fun d => ?_⟩⟩⟩⟩
  · simp [c]
  · simp [c, show y < x from d]
  · simp [c, show ¬ y < x from d]
theorem cmp_ok : PureOK Tryd.prog 22 [i64, i64] [i64] (fun _ => True) (fun x => (cmpI x.1 x.2.1, ())) :=
  fn_pure (E := E1) (n := 100) E1_ok Tryd.func22 body22 .nil fun x _ => cmp_t x.1 x.2.1

/-! cmp.Or -/
structure A21 where
  l : List Int
  i : Int
def L21 : LoopC A21 where
  n0 := 1
  det st := match Sx.look st.gh 0, intAt st.slots 8 with
    | some (.ro (.int .i64) l), some i => some ⟨l, i⟩
    | _, _ => none
  inv a := ⟨[(8, iv a.i), (7, iv a.l.length), (6, .one (.row 0)), (3, iv 0)], [(0, .ro i64 a.l)], 1⟩
  ok a := 0 ≤ a.i ∧ a.i ≤ a.l.length ∧ (a.l.length : Int) < big
  mu a := a.l.length - a.i.toNat
  fin a := .fork (nz (a.l.drop a.i.toNat)) (.leaf ⟨1, ⟨[(2, iv (orL (a.l.drop a.i.toNat)))], [], 1⟩⟩) (.leaf ⟨2, ⟨[(3, iv 0)], [], 1⟩⟩)
theorem r21 (l : List Int) (i : Int) :
  L21.round E0 [] 100 Tryd.f21 0 ⟨l, i⟩ =
.fork (decide (i < (↑l.length : Int))) (
 .req ((0 : Int) ≤ i ∧ i < (↑l.length : Int)) (
  .req ((0 : Int) ≤ i ∧ i < (↑l.length : Int)) (
   .fork (l.getD i.toNat (0 : Int) != (0 : Int)) (
    .fork (Pl.nz (List.drop i.toNat l)) (
     .req (l.getD i.toNat (0 : Int) = Pl.orL (List.drop i.toNat l)) (
      .leaf (Option.none))) (
     .req (False) (
      .leaf (Option.none)))) (
    .req (IntKind.i64.wrap (i + (1 : Int)) = IntKind.i64.wrap (i + (1 : Int)) ∧ (↑l.length : Int) = (↑l.length : Int) ∧ (0 : Int) = (0 : Int) ∧ l = l) (
     .leaf (Option.some { l := l, i := IntKind.i64.wrap (i + (1 : Int)) })))))) (
 .fork (Pl.nz (List.drop i.toNat l)) (
  .req (False) (
   .leaf (Option.none))) (
  .req ((0 : Int) = (0 : Int)) (
   .leaf (Option.none)))) := by kernel_rfl
theorem t21 (l : List Int) :
  fnT E0 [(0, L21.sp)] 100 Tryd.f21 [ints] [i64] (l, ()) =
.req ((0 : Int) ≤ (0 : Int) ∧ (0 : Int) ≤ (↑l.length : Int) ∧ (↑l.length : Int) < (4611686018427387904 : Int)) (
 .req ((0 : Int) = (0 : Int) ∧ (↑l.length : Int) = (↑l.length : Int) ∧ (0 : Int) = (0 : Int) ∧ l = l) (
  .fork (Pl.nz l) (
   .leaf ((Pl.orL l, ()))) (
   .leaf (((0 : Int), ()))))) := by kernel_rfl
theorem l21 : LpsOK Tryd.prog Tryd.f21 [(0, L21.sp)] := by
  refine .cons (L21.sound E0_ok (lps := []) (n := 100) (inner rfl) (fun _ => rfl) ?_) .nil
  rintro ⟨l, i⟩ ⟨h1, h2, h3⟩
  simp only at h1 h2 h3
  rw [r21]
  simp only [Tree.all, decide_eq_true_eq, decide_eq_false_iff_not, bne_iff_ne, ne_eq, bne_eq_false_iff_eq]
  refine ⟨fun c => ?_, fun c => ?_⟩
  · obtain ⟨x, r, e1, e2, e3⟩ := cut h1 c
    rw [e1, e2]
    refine ⟨⟨h1, c⟩, ⟨h1, c⟩, fun d => ?_, fun d => ⟨by simp, ?_⟩⟩
    · simp [nz, orL, d, LoopC.Next]
    · rw [wrap1 h1 (by omega)]
      exact ⟨⟨by dsimp only; omega, by dsimp only; omega, h3⟩, by simp only [L21]; omega, by simp only [L21]; rw [e2, e3, d]; simp [nz, orL]⟩
  · rw [List.drop_eq_nil_of_le (by omega)]; simp [nz, LoopC.Next]

theorem orL_nz : ∀ {l : List Int}, nz l = false → orL l = 0
  | [], _ => rfl
  | x :: r, h => by
    simp only [nz, List.any_cons, Bool.or_eq_false_iff, bne_eq_false_iff_eq] at h
    rw [orL, if_pos h.1]; exact orL_nz h.2
theorem or_t (l : List Int) (h : (l.length : Int) < big) : (fnT E0 [(0, L21.sp)] 100 Tryd.f21 [ints] [i64] (l, ())).all fun r => r = (orL l, ()) := by
  rw [t21]
  simp only [Tree.all]
  exact ⟨⟨by omega, by omega, h⟩, by simp, fun k => by simp [k], fun c => by rw [orL_nz c]⟩
theorem or_ok : PureOK Tryd.prog 21 [ints] [i64] (fun x => (List.length (α := Int) x.1 : Int) < big) (fun x => (orL x.1, ())) :=
  fn_pure (E := E0) (n := 100) E0_ok Tryd.func21 body21 l21 fun x h => or_t x.1 h
end Pl
