import Derived.Test.YtcjhmlfdmddhkaaGoPl1
namespace Pl
open Go Sx Go.Proofs

theorem toNat1 {i : Int} (h : 0 ≤ i) : (i + 1).toNat = i.toNat + 1 := by omega
theorem cut {l : List Int} {i : Int} (h0 : 0 ≤ i) (h1 : i < l.length) : ∃ x r, l.getD i.toNat 0 = x ∧ l.drop i.toNat = x :: r ∧ l.drop (i + 1).toNat = r :=
  ⟨_, _, rfl, getD_lt h0 h1, by rw [toNat1 h0]⟩
theorem ends {l : List Int} {i : Int} (h1 : ¬ i < l.length) : l.drop i.toNat = [] := List.drop_eq_nil_of_le (by omega)
def cmpI (a b : Int) : Int := if a < b then -1 else if b < a then 1 else 0
def orL : List Int → Int
  | [] => 0
  | x :: r => if x = 0 then orL r else x
def nz (l : List Int) : Bool := l.any fun x => x != 0

theorem body30 : Try.f72.body = some (bodyOf Try.f72) := by kernel_rfl
theorem body22 : Try.f67.body = some (bodyOf Try.f67) := by kernel_rfl
theorem body21 : Try.f66.body = some (bodyOf Try.f66) := by kernel_rfl
noncomputable abbrev E1 : Ex := mkEx Try.prog [(72, fnI E0 [] 100 Try.f72)]
theorem E1_ok : E1.Sound := mkEx_sound ⟨fnI_ok (E := E0) E0_ok Try.func72 body30 .nil, trivial⟩

theorem t22 (x y : Int) :
  fnT E1 [] 100 Try.f67 [i64, i64] [i64] (x, y, ()) =
.fork (x != x) (
 .fork (y != y) (
  .leaf (((0 : Int), ()))) (
  .leaf (((-1 : Int), ())))) (
 .fork (y != y) (
  .leaf (((1 : Int), ()))) (
  .fork (decide (x < y)) (
   .leaf (((-1 : Int), ()))) (
   .fork (decide (x > y)) (
    .leaf (((1 : Int), ()))) (
    .leaf (((0 : Int), ())))))) := by kernel_rfl
theorem cmp_t (x y : Int) : (fnT E1 [] 100 Try.f67 [i64, i64] [i64] (x, y, ())).all fun r => r = (cmpI x y, ()) := by
  rw [t22]
  simp only [Tree.all, decide_eq_true_eq, decide_eq_false_iff_not, bne_self_eq_false, cmpI]
  refine ⟨by simp, fun _ => ⟨by simp, fun _ => ⟨fun c => ?_, fun c => ⟨fun d => ?_, fun d => ?_⟩⟩⟩⟩
  · simp [c]
  · simp [c, show y < x from d]
  · simp [c, show ¬ y < x from d]
theorem cmp_ok : PureOK Try.prog 67 [i64, i64] [i64] (fun _ => True) (fun x => (cmpI x.1 x.2.1, ())) :=
  fn_pure (E := E1) (n := 100) E1_ok Try.func67 body22 .nil fun x _ => cmp_t x.1 x.2.1

/-! cmp.Or -/
structure A21 where
  l : List Int
  i : Int
def L21 : LoopC A21 where
  n0 := 1
  det st := match Sx.look st.gh 0, intAt st.slots 8 with
    | some (.ro (.int .i64) l), some i => some ⟨l, i⟩
    | _, _ => none
  inv a := ⟨[(8, iv a.i), (7, iv a.l.length), (6, .one (.row 0)), (3, iv 0)], [(0, .ro i64 a.l)], 1⟩
  ok a := 0 ≤ a.i ∧ a.i ≤ a.l.length ∧ (a.l.length : Int) < big
  mu a := a.l.length - a.i.toNat
  fin a := .fork (nz (a.l.drop a.i.toNat)) (.leaf ⟨1, ⟨[(2, iv (orL (a.l.drop a.i.toNat)))], [], 1⟩⟩) (.leaf ⟨2, ⟨[(3, iv 0)], [], 1⟩⟩)
theorem r21 (l : List Int) (i : Int) :
  L21.round E0 [] 100 Try.f66 0 ⟨l, i⟩ =
.fork (decide (i < (↑l.length : Int))) (
 .req ((0 : Int) ≤ i ∧ i < (↑l.length : Int)) (
  .req ((0 : Int) ≤ i ∧ i < (↑l.length : Int)) (
   .fork (l.getD i.toNat (0 : Int) != (0 : Int)) (
    .fork (Pl.nz (List.drop i.toNat l)) (
     .req (l.getD i.toNat (0 : Int) = Pl.orL (List.drop i.toNat l)) (
      .leaf (Option.none))) (
     .req (False) (
      .leaf (Option.none)))) (
    .req (IntKind.i64.wrap (i + (1 : Int)) = IntKind.i64.wrap (i + (1 : Int)) ∧ (↑l.length : Int) = (↑l.length : Int) ∧ (0 : Int) = (0 : Int) ∧ l = l) (
     .leaf (Option.some { l := l, i := IntKind.i64.wrap (i + (1 : Int)) })))))) (
 .fork (Pl.nz (List.drop i.toNat l)) (
  .req (False) (
   .leaf (Option.none))) (
  .req ((0 : Int) = (0 : Int)) (
   .leaf (Option.none)))) := by kernel_rfl
theorem t21 (l : List Int) :
  fnT E0 [(0, L21.sp)] 100 Try.f66 [ints] [i64] (l, ()) =
.req ((0 : Int) ≤ (0 : Int) ∧ (0 : Int) ≤ (↑l.length : Int) ∧ (↑l.length : Int) < (4611686018427387904 : Int)) (
 .req ((0 : Int) = (0 : Int) ∧ (↑l.length : Int) = (↑l.length : Int) ∧ (0 : Int) = (0 : Int) ∧ l = l) (
  .fork (Pl.nz l) (
   .leaf ((Pl.orL l, ()))) (
   .leaf (((0 : Int), ()))))) := by kernel_rfl
theorem l21 : LpsOK Try.prog Try.f66 [(0, L21.sp)] := by
  refine .cons (L21.sound E0_ok (lps := []) (n := 100) (inner rfl) (fun _ => rfl) ?_) .nil
  rintro ⟨l, i⟩ ⟨h1, h2, h3⟩
  simp only at h1 h2 h3
  rw [r21]
  simp only [Tree.all, decide_eq_true_eq, decide_eq_false_iff_not, bne_iff_ne, ne_eq, bne_eq_false_iff_eq]
  refine ⟨fun c => ?_, fun c => ?_⟩
  · obtain ⟨x, r, e1, e2, e3⟩ := cut h1 c
    rw [e1, e2]
    refine ⟨⟨h1, c⟩, ⟨h1, c⟩, fun d => ?_, fun d => ⟨by simp, ?_⟩⟩
    · simp [nz, orL, d, LoopC.Next]
    · rw [wrap1 h1 (by omega)]
      exact ⟨⟨by dsimp only; omega, by dsimp only; omega, h3⟩, by simp only [L21]; omega, by simp only [L21]; rw [e2, e3, d]; simp [nz, orL]⟩
  · rw [List.drop_eq_nil_of_le (by omega)]; simp [nz, LoopC.Next]

theorem orL_nz : ∀ {l : List Int}, nz l = false → orL l = 0
  | [], _ => rfl
  | x :: r, h => by
    simp only [nz, List.any_cons, Bool.or_eq_false_iff, bne_eq_false_iff_eq] at h
    rw [orL, if_pos h.1]; exact orL_nz h.2
theorem or_t (l : List Int) (h : (l.length : Int) < big) : (fnT E0 [(0, L21.sp)] 100 Try.f66 [ints] [i64] (l, ())).all fun r => r = (orL l, ()) := by
  rw [t21]
  simp only [Tree.all]
  exact ⟨⟨by omega, by omega, h⟩, by simp, fun k => by simp [k], fun c => by rw [orL_nz c]⟩
theorem or_ok : PureOK Try.prog 66 [ints] [i64] (fun x => (List.length (α := Int) x.1 : Int) < big) (fun x => (orL x.1, ())) :=
  fn_pure (E := E0) (n := 100) E0_ok Try.func66 body21 l21 fun x h => or_t x.1 h

/-! slices.Compare -/
def cmpL : List Int → List Int → Int
  | [], [] => 0
  | [], _ :: _ => -1
  | _ :: _, [] => 1
  | x :: r, y :: s => if cmpI x y = 0 then cmpL r s else cmpI x y
theorem body23 : Try.f68.body = some (bodyOf Try.f68) := by kernel_rfl
noncomputable abbrev E2 : Ex := mkEx Try.prog [(67, pureSp [i64, i64] [i64] (fun _ => True) (fun x => (cmpI x.1 x.2.1, ()))), (66, pureSp [ints] [i64] (fun x => (List.length (α := Int) x.1 : Int) < big) (fun x => (orL x.1, ())))]
theorem E2_ok : E2.Sound := mkEx_sound ⟨pureSp_ok cmp_ok, pureSp_ok or_ok, trivial⟩
structure A23 where
  l : List Int
  m : List Int
  i : Int
/-- they differ ahead of both ends, or the second ends first -/
def dif : List Int → List Int → Bool
  | [], _ => false
  | _ :: _, [] => true
  | x :: r, y :: s => cmpI x y != 0 || dif r s
def L23 : LoopC A23 where
  n0 := 2
  det st := match Sx.look st.gh 0, Sx.look st.gh 1, intAt st.slots 11 with
    | some (.ro (.int .i64) l), some (.ro (.int .i64) m), some i => some ⟨l, m, i⟩
    | _, _, _ => none
  inv a := ⟨[(11, iv a.i), (10, iv a.l.length), (9, .one (.row 0)), (1, .one (.row 1)), (0, .one (.row 0))], [(0, .ro i64 a.l), (1, .ro i64 a.m)], 2⟩
  ok a := 0 ≤ a.i ∧ a.i ≤ a.l.length ∧ a.i ≤ a.m.length ∧ (a.l.length : Int) < big
  mu a := a.l.length - a.i.toNat
  fin a := .fork (dif (a.l.drop a.i.toNat) (a.m.drop a.i.toNat)) (.leaf ⟨1, ⟨[(4, iv (cmpL (a.l.drop a.i.toNat) (a.m.drop a.i.toNat)))], [], 2⟩⟩)
    (.leaf ⟨2, ⟨[(1, .one (.row 1)), (0, .one (.row 0))], [(0, .ro i64 a.l), (1, .ro i64 a.m)], 2⟩⟩)
theorem r23 (l m : List Int) (i : Int) :
  L23.round E2 [] 100 Try.f68 0 ⟨l, m, i⟩ =
.fork (decide (i < (↑l.length : Int))) (
 .req ((0 : Int) ≤ i ∧ i < (↑l.length : Int)) (
  .req ((0 : Int) ≤ i ∧ i < (↑l.length : Int)) (
   .fork (decide (i ≥ (↑m.length : Int))) (
    .fork (Pl.dif (List.drop i.toNat l) (List.drop i.toNat m)) (
     .req ((1 : Int) = Pl.cmpL (List.drop i.toNat l) (List.drop i.toNat m)) (
      .leaf (Option.none))) (
     .req (False) (
      .leaf (Option.none)))) (
    .req ((0 : Int) ≤ i ∧ i < (↑m.length : Int)) (
     .req ((0 : Int) ≤ i ∧ i < (↑m.length : Int)) (
      .req (True) (
       .fork (Pl.cmpI (l.getD i.toNat (0 : Int)) (m.getD i.toNat (0 : Int)) != (0 : Int)) (
        .fork (Pl.dif (List.drop i.toNat l) (List.drop i.toNat m)) (
         .req (Pl.cmpI (l.getD i.toNat (0 : Int)) (m.getD i.toNat (0 : Int)) = Pl.cmpL (List.drop i.toNat l) (List.drop i.toNat m)) (
          .leaf (Option.none))) (
         .req (False) (
          .leaf (Option.none)))) (
        .req (IntKind.i64.wrap (i + (1 : Int)) = IntKind.i64.wrap (i + (1 : Int)) ∧ (↑l.length : Int) = (↑l.length : Int) ∧ l = l ∧ m = m) (
         .leaf (Option.some { l := l, m := m, i := IntKind.i64.wrap (i + (1 : Int)) })))))))))) (
 .fork (Pl.dif (List.drop i.toNat l) (List.drop i.toNat m)) (
  .req (False) (
   .leaf (Option.none))) (
  .req (l = l ∧ m = m) (
   .leaf (Option.none)))) := by kernel_rfl
theorem t23 (l m : List Int) :
  fnT E2 [(0, L23.sp)] 100 Try.f68 [ints, ints] [i64] (l, m, ()) =
.req ((0 : Int) ≤ (0 : Int) ∧ (0 : Int) ≤ (↑l.length : Int) ∧ (0 : Int) ≤ (↑m.length : Int) ∧ (↑l.length : Int) < (4611686018427387904 : Int)) (
 .req ((0 : Int) = (0 : Int) ∧ (↑l.length : Int) = (↑l.length : Int) ∧ l = l ∧ m = m) (
  .fork (Pl.dif l m) (
   .leaf ((Pl.cmpL l m, ()))) (
   .fork (decide ((↑l.length : Int) < (↑m.length : Int))) (
    .leaf (((-1 : Int), ()))) (
    .leaf (((0 : Int), ())))))) := by kernel_rfl
theorem l23 : LpsOK Try.prog Try.f68 [(0, L23.sp)] := by
  refine .cons (L23.sound E2_ok (lps := []) (n := 100) (inner rfl) (fun _ => rfl) ?_) .nil
  rintro ⟨l, m, i⟩ ⟨h1, h2, h3, h4⟩
  simp only at h1 h2 h3 h4
  rw [r23]
  simp only [Tree.all, decide_eq_true_eq, decide_eq_false_iff_not, bne_iff_ne, ne_eq, bne_eq_false_iff_eq]
  refine ⟨fun c => ?_, fun c => ?_⟩
  · obtain ⟨x, r, e1, e2, e3⟩ := cut h1 c
    rw [e1, e2]
    refine ⟨⟨h1, c⟩, ⟨h1, c⟩, fun d => ?_, fun d => ?_⟩
    · rw [ends (l := m) (by omega)]
      simp [dif, cmpL, LoopC.Next]
    · obtain ⟨y, q, f1, f2, f3⟩ := cut (l := m) h1 (by omega)
      rw [f1, f2]
      refine ⟨⟨h1, by omega⟩, ⟨h1, by omega⟩, trivial, fun g => ?_, fun g => ⟨by simp, ?_⟩⟩
      · simp [dif, cmpL, g, LoopC.Next]
      · rw [wrap1 h1 (by omega)]
        exact ⟨⟨by dsimp only; omega, by dsimp only; omega, by dsimp only; omega, h4⟩, by simp only [L23]; omega, by simp only [L23]; rw [e2, e3, f2, f3]; simp [dif, cmpL, g]⟩
  · rw [ends c]
    simp [dif, LoopC.Next]
theorem cmpL_dif : ∀ {l m : List Int}, dif l m = false → (l.length < m.length → cmpL l m = -1) ∧ (¬ l.length < m.length → cmpL l m = 0)
  | [], [], _ => by simp [cmpL]
  | [], _ :: _, _ => by simp [cmpL]
  | _ :: _, [], h => by simp [dif] at h
  | x :: r, y :: s, h => by
    simp only [dif, Bool.or_eq_false_iff, bne_eq_false_iff_eq] at h
    have := cmpL_dif h.2
    simp only [cmpL, h.1, if_true, List.length_cons, Nat.add_lt_add_iff_right]
    exact this
theorem scmp_t (l m : List Int) (h : (l.length : Int) < big) : (fnT E2 [(0, L23.sp)] 100 Try.f68 [ints, ints] [i64] (l, m, ())).all fun r => r = (cmpL l m, ()) := by
  rw [t23]
  simp only [Tree.all, decide_eq_true_eq, decide_eq_false_iff_not]
  refine ⟨⟨by omega, by omega, by omega, h⟩, by simp, fun k => by simp [k], fun c => ⟨fun d => ?_, fun d => ?_⟩⟩
  · rw [(cmpL_dif c).1 (by omega)]
  · rw [(cmpL_dif c).2 (by omega)]
theorem scmp_ok : PureOK Try.prog 68 [ints, ints] [i64] (fun x => (List.length (α := Int) x.1 : Int) < big) (fun x => (cmpL x.1 x.2.1, ())) :=
  fn_pure (E := E2) (n := 100) E2_ok Try.func68 body23 l23 fun x h => scmp_t x.1 x.2.1 h

/-! plan.Compare -/
def cmpP (a b : PlanD) : Int := orL [cmpI a.1 b.1, cmpI a.2.1 b.2.1, cmpI a.2.2.length b.2.2.length, cmpL a.2.2 b.2.2]
theorem body12 : Try.f54.body = some (bodyOf Try.f54) := by kernel_rfl
noncomputable abbrev E3 : Ex := mkEx Try.prog [(67, pureSp [i64, i64] [i64] (fun _ => True) (fun x => (cmpI x.1 x.2.1, ()))), (66, pureSp [ints] [i64] (fun x => (List.length (α := Int) x.1 : Int) < big) (fun x => (orL x.1, ()))),
  (68, pureSp [ints, ints] [i64] (fun x => (List.length (α := Int) x.1 : Int) < big) (fun x => (cmpL x.1 x.2.1, ())))]
theorem E3_ok : E3.Sound := mkEx_sound ⟨pureSp_ok cmp_ok, pureSp_ok or_ok, pureSp_ok scmp_ok, trivial⟩
theorem t12 (v b v' b' : Int) (l l' : List Int) :
  fnT E3 [] 100 Try.f54 [Plan, Plan] [i64] ((v, b, l), (v', b', l'), ()) =
.req (True) (
 .req (True) (
  .req (True) (
   .req ((↑l.length : Int) < (4611686018427387904 : Int)) (
    .req ((4 : Int) < (4611686018427387904 : Int)) (
     .leaf ((Pl.orL [Pl.cmpI v v', Pl.cmpI b b', Pl.cmpI (↑l.length : Int) (↑l'.length : Int), Pl.cmpL l l'], ()))))))) := by kernel_rfl
end Pl
