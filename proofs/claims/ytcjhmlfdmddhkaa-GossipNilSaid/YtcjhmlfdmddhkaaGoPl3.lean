import Derived.Test.YtcjhmlfdmddhkaaGoPl2
namespace Pl
open Go Sx Go.Proofs

theorem cmpP_ok : PureOK Try.prog 54 [Plan, Plan] [i64] (fun x => (List.length (α := Int) x.1.2.2 : Int) < big) (fun x => (cmpP x.1 x.2.1, ())) := by
  refine fn_pure (E := E3) (n := 100) E3_ok Try.func54 body12 .nil fun x h => ?_
  have := t12 x.1.1 x.1.2.1 x.2.1.1 x.2.1.2.1 x.1.2.2 x.2.1.2.2
  refine Tree.all_eq this ?_
  exact ⟨trivial, trivial, trivial, h, by decide, rfl⟩

def nodeB (x : Int) : Bool := decide (x ≥ 0) && decide (x < 8)
theorem body24 : Try.f56.body = some (bodyOf Try.f56) := by kernel_rfl
theorem t24 (x : Int) :
  fnT E0 [] 100 Try.f56 [i64] [.bool] (x, ()) =
.fork (decide (x ≥ (0 : Int))) (
 .leaf ((decide (x < (8 : Int)), ()))) (
 .leaf ((false, ()))) := by kernel_rfl
theorem node_ok : PureOK Try.prog 56 [i64] [.bool] (fun _ => True) (fun x => (nodeB x.1, ())) :=
  fn_pure (E := E0) (n := 100) E0_ok Try.func56 body24 .nil fun x _ => by
    refine Tree.all_eq (t24 x.1) ?_
    simp only [Tree.all, decide_eq_true_eq, decide_eq_false_iff_not, nodeB]
    exact ⟨fun c => by simp [c], fun c => by simp [c]⟩
noncomputable abbrev E4 : Ex := mkEx Try.prog [(56, pureSp [i64] [.bool] (fun _ => True) (fun x => (nodeB x.1, ())))]
theorem E4_ok : E4.Sound := mkEx_sound ⟨pureSp_ok node_ok, trivial⟩
theorem body32 : Try.f70.body = some (bodyOf Try.f70) := by kernel_rfl
noncomputable abbrev E5 : Ex := mkEx Try.prog [(70, fnI E4 [] 100 Try.f70)]
theorem E5_ok : E5.Sound := mkEx_sound ⟨fnI_ok (E := E4) E4_ok Try.func70 body32 .nil, trivial⟩

/-! slices.IndexFunc, of what is no node -/
def allN (l : List Int) : Bool := l.all nodeB
def idxL : List Int → Int → Int
  | [], _ => -1
  | x :: r, i => if nodeB x then idxL r (i + 1) else i
structure A33 where
  l : List Int
  i : Int
def L33 : LoopC A33 where
  n0 := 1
  det st := match Sx.look st.gh 0, intAt st.slots 8 with
    | some (.ro (.int .i64) l), some i => some ⟨l, i⟩
    | _, _ => none
  inv a := ⟨[(8, iv a.i), (7, iv a.l.length), (6, .one (.row 0)), (0, .one (.row 0)), (1, .one (.fn 70 [] []))], [(0, .ro i64 a.l)], 1⟩
  ok a := 0 ≤ a.i ∧ a.i ≤ a.l.length ∧ (a.l.length : Int) < big
  mu a := a.l.length - a.i.toNat
  fin a := .fork (allN (a.l.drop a.i.toNat)) (.leaf ⟨2, ⟨[], [], 1⟩⟩) (.leaf ⟨1, ⟨[(4, iv (idxL (a.l.drop a.i.toNat) a.i))], [], 1⟩⟩)
theorem body33 : Try.f61.body = some (bodyOf Try.f61) := by kernel_rfl
theorem r33 (l : List Int) (i : Int) :
  L33.round E5 [] 100 Try.f61 0 ⟨l, i⟩ =
.fork (decide (i < (↑l.length : Int))) (
 .req ((0 : Int) ≤ i ∧ i < (↑l.length : Int)) (
  .req ((0 : Int) ≤ i ∧ i < (↑l.length : Int)) (
   .req (True) (
    .fork (!Pl.nodeB (l.getD i.toNat (0 : Int))) (
     .fork (Pl.allN (List.drop i.toNat l)) (
      .req (False) (
       .leaf (Option.none))) (
      .req (i = Pl.idxL (List.drop i.toNat l) i) (
       .leaf (Option.none)))) (
     .req (IntKind.i64.wrap (i + (1 : Int)) = IntKind.i64.wrap (i + (1 : Int)) ∧ (↑l.length : Int) = (↑l.length : Int) ∧ l = l) (
      .leaf (Option.some { l := l, i := IntKind.i64.wrap (i + (1 : Int)) }))))))) (
 .fork (Pl.allN (List.drop i.toNat l)) (
  .req (True) (
   .leaf (Option.none))) (
  .req (False) (
   .leaf (Option.none)))) := by kernel_rfl
theorem t33 (l : List Int) :
  fnT E5 [(0, L33.sp)] 100 Try.f61 [ints, .fnl 70] [i64] (l, (), ()) =
.req ((0 : Int) ≤ (0 : Int) ∧ (0 : Int) ≤ (↑l.length : Int) ∧ (↑l.length : Int) < (4611686018427387904 : Int)) (
 .req ((0 : Int) = (0 : Int) ∧ (↑l.length : Int) = (↑l.length : Int) ∧ l = l) (
  .fork (Pl.allN l) (
   .leaf (((-1 : Int), ()))) (
   .leaf ((Pl.idxL l (0 : Int), ()))))) := by kernel_rfl
theorem l33 : LpsOK Try.prog Try.f61 [(0, L33.sp)] := by
  refine .cons (L33.sound E5_ok (lps := []) (n := 100) (inner rfl) (fun _ => rfl) ?_) .nil
  rintro ⟨l, i⟩ ⟨h1, h2, h3⟩
  simp only at h1 h2 h3
  rw [r33]
  simp only [Tree.all, decide_eq_true_eq, decide_eq_false_iff_not, Bool.not_eq_true', Bool.not_eq_false']
  refine ⟨fun c => ?_, fun c => ?_⟩
  · obtain ⟨x, r, e1, e2, e3⟩ := cut h1 c
    rw [e1, e2]
    refine ⟨⟨h1, c⟩, ⟨h1, c⟩, trivial, fun d => ?_, fun d => ⟨by simp, ?_⟩⟩
    · simp [allN, idxL, d, LoopC.Next]
    · rw [wrap1 h1 (by omega)]
      exact ⟨⟨by dsimp only; omega, by dsimp only; omega, h3⟩, by simp only [L33]; omega, by simp only [L33]; rw [e2, e3]; simp [allN, idxL, d]⟩
  · rw [ends c]; simp [allN, LoopC.Next]
theorem idxL_neg : ∀ {l : List Int} {i : Int}, 0 ≤ i → allN l = false → 0 ≤ idxL l i
  | [], _, _, h => by simp [allN] at h
  | x :: r, i, h0, h => by
    simp only [allN, List.all_cons, Bool.and_eq_false_iff] at h
    simp only [idxL]
    split
    · rename_i hx
      rcases h with h | h
      · rw [hx] at h; cases h
      · exact idxL_neg (by omega) h
    · exact h0
def idxN (l : List Int) : Int := if allN l then -1 else idxL l 0
theorem idx_ok : PureOK Try.prog 61 [ints, .fnl 70] [i64] (fun x => (List.length (α := Int) x.1 : Int) < big) (fun x => (idxN x.1, ())) :=
  fn_pure (E := E5) (n := 100) E5_ok Try.func61 body33 l33 fun x h => by
    refine Tree.all_eq (t33 x.1) ?_
    exact ⟨⟨by omega, by omega, h⟩, ⟨rfl, rfl, rfl⟩, fun c => by simp only [idxN, c]; rfl, fun c => by simp only [idxN, c]; rfl⟩
theorem idxN_ge (l : List Int) : (!decide (idxN l ≥ 0)) = allN l := by
  unfold idxN
  cases h : allN l with
  | true => simp
  | false => have := idxL_neg (i := 0) (by omega) h; simp [this]
noncomputable abbrev E6 : Ex := mkEx Try.prog [(61, pureSp [ints, .fnl 70] [i64] (fun x => (List.length (α := Int) x.1 : Int) < big) (fun x => (idxN x.1, ()))), (56, pureSp [i64] [.bool] (fun _ => True) (fun x => (nodeB x.1, ())))]
theorem E6_ok : E6.Sound := mkEx_sound ⟨pureSp_ok idx_ok, pureSp_ok node_ok, trivial⟩
theorem body31 : Try.f69.body = some (bodyOf Try.f69) := by kernel_rfl
theorem body25 : Try.f57.body = some (bodyOf Try.f57) := by kernel_rfl
theorem body14 : Try.f34.body = some (bodyOf Try.f34) := by kernel_rfl
noncomputable abbrev E7 : Ex := mkEx Try.prog [(69, fnI E6 [] 100 Try.f69)]
theorem E7_ok : E7.Sound := mkEx_sound ⟨fnI_ok (E := E6) E6_ok Try.func69 body31 .nil, trivial⟩
theorem t25 (l : List Int) :
  fnT E7 [] 100 Try.f57 [ints] [.bool] (l, ()) =
.fork ((↑l.length : Int) == (16 : Int)) (
 .req ((↑l.length : Int) < (4611686018427387904 : Int)) (
  .leaf ((!decide (Pl.idxN l ≥ (0 : Int)), ())))) (
 .leaf ((false, ()))) := by kernel_rfl
def fullB (l : List Int) : Bool := decide (l.length = 16) && allN l
theorem full_ok : PureOK Try.prog 57 [ints] [.bool] (fun x => (List.length (α := Int) x.1 : Int) < big) (fun x => (fullB x.1, ())) :=
  fn_pure (E := E7) (n := 100) E7_ok Try.func57 body25 .nil fun x h => by
    refine Tree.all_eq (t25 x.1) ?_
    simp only [Tree.all, beq_iff_eq, beq_eq_false_iff_ne, ne_eq]
    refine ⟨fun c => ⟨h, ?_⟩, fun c => ?_⟩
    · show ((!decide (idxN x.1 ≥ 0)), ()) = (fullB x.1, ())
      rw [idxN_ge x.1]
      have : List.length (α := Int) x.1 = 16 := by omega
      simp only [fullB, this]; rfl
    · have : ¬ List.length (α := Int) x.1 = 16 := by omega
      simp only [fullB, this]; rfl
noncomputable abbrev E8 : Ex := mkEx Try.prog [(57, pureSp [ints] [.bool] (fun x => (List.length (α := Int) x.1 : Int) < big) (fun x => (fullB x.1, ()))), (56, pureSp [i64] [.bool] (fun _ => True) (fun x => (nodeB x.1, ())))]
theorem E8_ok : E8.Sound := mkEx_sound ⟨pureSp_ok full_ok, pureSp_ok node_ok, trivial⟩
theorem t14 (v b : Int) (l : List Int) :
  fnT E8 [] 100 Try.f34 [Plan] [.bool] ((v, b, l), ()) =
.fork ((↑l.length : Int) == (0 : Int)) (
 .fork (v == (0 : Int)) (
  .leaf ((b == (0 : Int), ()))) (
  .leaf ((false, ())))) (
 .fork (decide (v ≥ (1 : Int))) (
  .fork (decide (v ≤ (1000000 : Int))) (
   .req (True) (
    .fork (Pl.nodeB b) (
     .req ((↑l.length : Int) < (4611686018427387904 : Int)) (
      .leaf ((Pl.fullB l, ())))) (
     .leaf ((false, ()))))) (
   .leaf ((false, ())))) (
  .leaf ((false, ())))) := by kernel_rfl
def mayB (p : PlanD) : Bool :=
  if p.2.2.length = 0 then decide (p.1 = 0) && decide (p.2.1 = 0) else decide (1 ≤ p.1) && decide (p.1 ≤ 1000000) && nodeB p.2.1 && fullB p.2.2
theorem may_ok : PureOK Try.prog 34 [Plan] [.bool] (fun x => (List.length (α := Int) x.1.2.2 : Int) < big) (fun x => (mayB x.1, ())) :=
  fn_pure (E := E8) (n := 100) E8_ok Try.func34 body14 .nil fun x h => by
    obtain ⟨⟨v, b, l⟩, _⟩ : PlanD × Unit := x
    have h : (l.length : Int) < big := h
    refine Tree.all_eq (t14 v b l) ?_
    show Tree.all _ fun y => y = (mayB (v, b, l), ())
    simp only [Tree.all, beq_iff_eq, beq_eq_false_iff_ne, ne_eq, decide_eq_true_eq, decide_eq_false_iff_not]
    refine ⟨fun c => ⟨fun d => ?_, fun d => ?_⟩, fun c => ⟨fun d => ⟨fun e => ⟨trivial, fun f => ⟨h, ?_⟩, fun f => ?_⟩, fun e => ?_⟩, fun d => ?_⟩⟩
    · simp [mayB, show l.length = 0 by omega, d]; rfl
    · simp [mayB, show l.length = 0 by omega, d]
    · simp [mayB, show ¬ l.length = 0 by omega, show 1 ≤ v from d, e, f]
    · simp [mayB, show ¬ l.length = 0 by omega, f]
    · simp [mayB, show ¬ l.length = 0 by omega, e]
    · simp [mayB, show ¬ l.length = 0 by omega, show ¬ 1 ≤ v from d]
end Pl
