import Derived.Test.YtcjhmlfdmddhkaaSx30
import Derived.Test.YtcjhmlfdmddhkaaProg
import Derived.IntWalk
import Derived.Shelf.Slices.Clone
import Derived.Ground.Names2Prog
import Derived.Test.YtcjhmlfdmddhkaaSx31
import Derived.Test.YtcjhmlfdmddhkaaSx28
import Derived.Test.YtcjhmlfdmddhkaaSx32
namespace Pl
open Go Sx Go.Proofs
abbrev i64 : Ty := .int .i64
abbrev ints : Ty := .slice i64
abbrev Plan : Ty := .cat i64 (.cat i64 ints)
abbrev iv (n : Int) : Tv := .one (.int .i64 n)
abbrev bv (n : Bool) : Tv := .one (.bool n)
abbrev cv (n : Bool) : Tv := .one (.cbool n)
noncomputable abbrev E0 : Ex := mkEx Try.prog []
theorem E0_ok : E0.Sound := mkEx_sound trivial
abbrev big : Int := 4611686018427387904
def intAt (slots : List (Nat × Tv)) (s : Nat) : Option Int := match Sx.look slots s with | some (.one (.cint _ i)) => some i | some (.one (.int _ i)) => some i | _ => none

theorem getD_lt {l : List Int} {i : Int} (h0 : 0 ≤ i) (h1 : i < l.length) : l.drop i.toNat = l.getD i.toNat 0 :: l.drop (i.toNat + 1) := by
  have hi : i.toNat < l.length := by omega
  rw [List.drop_eq_getElem_cons hi]
  simp [List.getD_eq_getElem?_getD, hi]

theorem wrap1 {i : Int} (h0 : 0 ≤ i) (h1 : i < big) : IntKind.i64.wrap (i + 1) = i + 1 := by
  unfold big at h1
  exact IntWalk.i64_in _ (by omega)

abbrev PlanD : Type := Int × Int × List Int
def sameF (a b : PlanD) : Bool := decide (a = b)
end Pl
namespace Pl
open Go Sx Go.Proofs

theorem toNat1 {i : Int} (h : 0 ≤ i) : (i + 1).toNat = i.toNat + 1 := by omega
theorem cut {l : List Int} {i : Int} (h0 : 0 ≤ i) (h1 : i < l.length) : ∃ x r, l.getD i.toNat 0 = x ∧ l.drop i.toNat = x :: r ∧ l.drop (i + 1).toNat = r :=
  ⟨_, _, rfl, getD_lt h0 h1, by rw [toNat1 h0]⟩
theorem ends {l : List Int} {i : Int} (h1 : ¬ i < l.length) : l.drop i.toNat = [] := List.drop_eq_nil_of_le (by omega)
def cmpI (a b : Int) : Int := if a < b then -1 else if b < a then 1 else 0
def orL : List Int → Int
  | [] => 0
  | x :: r => if x = 0 then orL r else x
def nz (l : List Int) : Bool := l.any fun x => x != 0

theorem body30 : Try.f72.body = some (bodyOf Try.f72) := by kernel_rfl
theorem body22 : Try.f67.body = some (bodyOf Try.f67) := by kernel_rfl
theorem body21 : Try.f66.body = some (bodyOf Try.f66) := by kernel_rfl
noncomputable abbrev E1 : Ex := mkEx Try.prog [(72, fnI E0 [] 100 Try.f72)]
theorem E1_ok : E1.Sound := mkEx_sound ⟨fnI_ok (E := E0) E0_ok Try.func72 body30 .nil, trivial⟩

theorem t22 (x y : Int) :
  fnT E1 [] 100 Try.f67 [i64, i64] [i64] (x, y, ()) =
.fork (x != x) (
 .fork (y != y) (
  .leaf (((0 : Int), ()))) (
  .leaf (((-1 : Int), ())))) (
 .fork (y != y) (
  .leaf (((1 : Int), ()))) (
  .fork (decide (x < y)) (
   .leaf (((-1 : Int), ()))) (
   .fork (decide (x > y)) (
    .leaf (((1 : Int), ()))) (
    .leaf (((0 : Int), ())))))) := by kernel_rfl
theorem cmp_t (x y : Int) : (fnT E1 [] 100 Try.f67 [i64, i64] [i64] (x, y, ())).all fun r => r = (cmpI x y, ()) := by
  rw [t22]
  simp only [Tree.all, decide_eq_true_eq, decide_eq_false_iff_not, bne_self_eq_false, cmpI]
  refine ⟨by simp, fun _ => ⟨by simp, fun _ => ⟨fun c => ?_, fun c => ⟨fun d => ?_, fun d => ?_⟩⟩⟩⟩
  · simp [c]
  · simp [c, show y < x from d]
  · simp [c, show ¬ y < x from d]
theorem cmp_ok : PureOK Try.prog 67 [i64, i64] [i64] (fun _ => True) (fun x => (cmpI x.1 x.2.1, ())) :=
  fn_pure (E := E1) (n := 100) E1_ok Try.func67 body22 .nil fun x _ => cmp_t x.1 x.2.1


structure A21 where
  l : List Int
  i : Int
def L21 : LoopC A21 where
  n0 := 1
  det st := match Sx.look st.gh 0, intAt st.slots 8 with
    | some (.ro (.int .i64) l), some i => some ⟨l, i⟩
    | _, _ => none
  inv a := ⟨[(8, iv a.i), (7, iv a.l.length), (6, .one (.row 0)), (3, iv 0)], [(0, .ro i64 a.l)], 1⟩
  ok a := 0 ≤ a.i ∧ a.i ≤ a.l.length ∧ (a.l.length : Int) < big
  mu a := a.l.length - a.i.toNat
  fin a := .fork (nz (a.l.drop a.i.toNat)) (.leaf ⟨1, ⟨[(2, iv (orL (a.l.drop a.i.toNat)))], [], 1⟩⟩) (.leaf ⟨2, ⟨[(3, iv 0)], [], 1⟩⟩)
theorem r21 (l : List Int) (i : Int) :
  L21.round E0 [] 100 Try.f66 0 ⟨l, i⟩ =
.fork (decide (i < (↑l.length : Int))) (
 .req ((0 : Int) ≤ i ∧ i < (↑l.length : Int)) (
  .req ((0 : Int) ≤ i ∧ i < (↑l.length : Int)) (
   .fork (l.getD i.toNat (0 : Int) != (0 : Int)) (
    .fork (Pl.nz (List.drop i.toNat l)) (
     .req (l.getD i.toNat (0 : Int) = Pl.orL (List.drop i.toNat l)) (
      .leaf (Option.none))) (
     .req (False) (
      .leaf (Option.none)))) (
    .req (IntKind.i64.wrap (i + (1 : Int)) = IntKind.i64.wrap (i + (1 : Int)) ∧ (↑l.length : Int) = (↑l.length : Int) ∧ (0 : Int) = (0 : Int) ∧ l = l) (
     .leaf (Option.some { l := l, i := IntKind.i64.wrap (i + (1 : Int)) })))))) (
 .fork (Pl.nz (List.drop i.toNat l)) (
  .req (False) (
   .leaf (Option.none))) (
  .req ((0 : Int) = (0 : Int)) (
   .leaf (Option.none)))) := by kernel_rfl
theorem t21 (l : List Int) :
  fnT E0 [(0, L21.sp)] 100 Try.f66 [ints] [i64] (l, ()) =
.req ((0 : Int) ≤ (0 : Int) ∧ (0 : Int) ≤ (↑l.length : Int) ∧ (↑l.length : Int) < (4611686018427387904 : Int)) (
 .req ((0 : Int) = (0 : Int) ∧ (↑l.length : Int) = (↑l.length : Int) ∧ (0 : Int) = (0 : Int) ∧ l = l) (
  .fork (Pl.nz l) (
   .leaf ((Pl.orL l, ()))) (
   .leaf (((0 : Int), ()))))) := by kernel_rfl
theorem l21 : LpsOK Try.prog Try.f66 [(0, L21.sp)] := by
  refine .cons (L21.sound E0_ok (lps := []) (n := 100) (inner rfl) (fun _ => rfl) ?_) .nil
  rintro ⟨l, i⟩ ⟨h1, h2, h3⟩
  simp only at h1 h2 h3
  rw [r21]
  simp only [Tree.all, decide_eq_true_eq, decide_eq_false_iff_not, bne_iff_ne, ne_eq, bne_eq_false_iff_eq]
  refine ⟨fun c => ?_, fun c => ?_⟩
  · obtain ⟨x, r, e1, e2, e3⟩ := cut h1 c
    rw [e1, e2]
    refine ⟨⟨h1, c⟩, ⟨h1, c⟩, fun d => ?_, fun d => ⟨by simp, ?_⟩⟩
    · simp [nz, orL, d, LoopC.Next]
    · rw [wrap1 h1 (by omega)]
      exact ⟨⟨by dsimp only; omega, by dsimp only; omega, h3⟩, by simp only [L21]; omega, by simp only [L21]; rw [e2, e3, d]; simp [nz, orL]⟩
  · rw [List.drop_eq_nil_of_le (by omega)]; simp [nz, LoopC.Next]

theorem orL_nz : ∀ {l : List Int}, nz l = false → orL l = 0
  | [], _ => rfl
  | x :: r, h => by
    simp only [nz, List.any_cons, Bool.or_eq_false_iff, bne_eq_false_iff_eq] at h
    rw [orL, if_pos h.1]; exact orL_nz h.2
theorem or_t (l : List Int) (h : (l.length : Int) < big) : (fnT E0 [(0, L21.sp)] 100 Try.f66 [ints] [i64] (l, ())).all fun r => r = (orL l, ()) := by
  rw [t21]
  simp only [Tree.all]
  exact ⟨⟨by omega, by omega, h⟩, by simp, fun k => by simp [k], fun c => by rw [orL_nz c]⟩
theorem or_ok : PureOK Try.prog 66 [ints] [i64] (fun x => (List.length (α := Int) x.1 : Int) < big) (fun x => (orL x.1, ())) :=
  fn_pure (E := E0) (n := 100) E0_ok Try.func66 body21 l21 fun x h => or_t x.1 h


def cmpL : List Int → List Int → Int
  | [], [] => 0
  | [], _ :: _ => -1
  | _ :: _, [] => 1
  | x :: r, y :: s => if cmpI x y = 0 then cmpL r s else cmpI x y
theorem body23 : Try.f68.body = some (bodyOf Try.f68) := by kernel_rfl
noncomputable abbrev E2 : Ex := mkEx Try.prog [(67, pureSp [i64, i64] [i64] (fun _ => True) (fun x => (cmpI x.1 x.2.1, ()))), (66, pureSp [ints] [i64] (fun x => (List.length (α := Int) x.1 : Int) < big) (fun x => (orL x.1, ())))]
theorem E2_ok : E2.Sound := mkEx_sound ⟨pureSp_ok cmp_ok, pureSp_ok or_ok, trivial⟩
structure A23 where
  l : List Int
  m : List Int
  i : Int

def dif : List Int → List Int → Bool
  | [], _ => false
  | _ :: _, [] => true
  | x :: r, y :: s => cmpI x y != 0 || dif r s
def L23 : LoopC A23 where
  n0 := 2
  det st := match Sx.look st.gh 0, Sx.look st.gh 1, intAt st.slots 11 with
    | some (.ro (.int .i64) l), some (.ro (.int .i64) m), some i => some ⟨l, m, i⟩
    | _, _, _ => none
  inv a := ⟨[(11, iv a.i), (10, iv a.l.length), (9, .one (.row 0)), (1, .one (.row 1)), (0, .one (.row 0))], [(0, .ro i64 a.l), (1, .ro i64 a.m)], 2⟩
  ok a := 0 ≤ a.i ∧ a.i ≤ a.l.length ∧ a.i ≤ a.m.length ∧ (a.l.length : Int) < big
  mu a := a.l.length - a.i.toNat
  fin a := .fork (dif (a.l.drop a.i.toNat) (a.m.drop a.i.toNat)) (.leaf ⟨1, ⟨[(4, iv (cmpL (a.l.drop a.i.toNat) (a.m.drop a.i.toNat)))], [], 2⟩⟩)
    (.leaf ⟨2, ⟨[(1, .one (.row 1)), (0, .one (.row 0))], [(0, .ro i64 a.l), (1, .ro i64 a.m)], 2⟩⟩)
theorem r23 (l m : List Int) (i : Int) :
  L23.round E2 [] 100 Try.f68 0 ⟨l, m, i⟩ =
.fork (decide (i < (↑l.length : Int))) (
 .req ((0 : Int) ≤ i ∧ i < (↑l.length : Int)) (
  .req ((0 : Int) ≤ i ∧ i < (↑l.length : Int)) (
   .fork (decide (i ≥ (↑m.length : Int))) (
    .fork (Pl.dif (List.drop i.toNat l) (List.drop i.toNat m)) (
     .req ((1 : Int) = Pl.cmpL (List.drop i.toNat l) (List.drop i.toNat m)) (
      .leaf (Option.none))) (
     .req (False) (
      .leaf (Option.none)))) (
    .req ((0 : Int) ≤ i ∧ i < (↑m.length : Int)) (
     .req ((0 : Int) ≤ i ∧ i < (↑m.length : Int)) (
      .req (True) (
       .fork (Pl.cmpI (l.getD i.toNat (0 : Int)) (m.getD i.toNat (0 : Int)) != (0 : Int)) (
        .fork (Pl.dif (List.drop i.toNat l) (List.drop i.toNat m)) (
         .req (Pl.cmpI (l.getD i.toNat (0 : Int)) (m.getD i.toNat (0 : Int)) = Pl.cmpL (List.drop i.toNat l) (List.drop i.toNat m)) (
          .leaf (Option.none))) (
         .req (False) (
          .leaf (Option.none)))) (
        .req (IntKind.i64.wrap (i + (1 : Int)) = IntKind.i64.wrap (i + (1 : Int)) ∧ (↑l.length : Int) = (↑l.length : Int) ∧ l = l ∧ m = m) (
         .leaf (Option.some { l := l, m := m, i := IntKind.i64.wrap (i + (1 : Int)) })))))))))) (
 .fork (Pl.dif (List.drop i.toNat l) (List.drop i.toNat m)) (
  .req (False) (
   .leaf (Option.none))) (
  .req (l = l ∧ m = m) (
   .leaf (Option.none)))) := by kernel_rfl
theorem t23 (l m : List Int) :
  fnT E2 [(0, L23.sp)] 100 Try.f68 [ints, ints] [i64] (l, m, ()) =
.req ((0 : Int) ≤ (0 : Int) ∧ (0 : Int) ≤ (↑l.length : Int) ∧ (0 : Int) ≤ (↑m.length : Int) ∧ (↑l.length : Int) < (4611686018427387904 : Int)) (
 .req ((0 : Int) = (0 : Int) ∧ (↑l.length : Int) = (↑l.length : Int) ∧ l = l ∧ m = m) (
  .fork (Pl.dif l m) (
   .leaf ((Pl.cmpL l m, ()))) (
   .fork (decide ((↑l.length : Int) < (↑m.length : Int))) (
    .leaf (((-1 : Int), ()))) (
    .leaf (((0 : Int), ())))))) := by kernel_rfl
theorem l23 : LpsOK Try.prog Try.f68 [(0, L23.sp)] := by
  refine .cons (L23.sound E2_ok (lps := []) (n := 100) (inner rfl) (fun _ => rfl) ?_) .nil
  rintro ⟨l, m, i⟩ ⟨h1, h2, h3, h4⟩
  simp only at h1 h2 h3 h4
  rw [r23]
  simp only [Tree.all, decide_eq_true_eq, decide_eq_false_iff_not, bne_iff_ne, ne_eq, bne_eq_false_iff_eq]
  refine ⟨fun c => ?_, fun c => ?_⟩
  · obtain ⟨x, r, e1, e2, e3⟩ := cut h1 c
    rw [e1, e2]
    refine ⟨⟨h1, c⟩, ⟨h1, c⟩, fun d => ?_, fun d => ?_⟩
    · rw [ends (l := m) (by omega)]
      simp [dif, cmpL, LoopC.Next]
    · obtain ⟨y, q, f1, f2, f3⟩ := cut (l := m) h1 (by omega)
      rw [f1, f2]
      refine ⟨⟨h1, by omega⟩, ⟨h1, by omega⟩, trivial, fun g => ?_, fun g => ⟨by simp, ?_⟩⟩
      · simp [dif, cmpL, g, LoopC.Next]
      · rw [wrap1 h1 (by omega)]
        exact ⟨⟨by dsimp only; omega, by dsimp only; omega, by dsimp only; omega, h4⟩, by simp only [L23]; omega, by simp only [L23]; rw [e2, e3, f2, f3]; simp [dif, cmpL, g]⟩
  · rw [ends c]
    simp [dif, LoopC.Next]
theorem cmpL_dif : ∀ {l m : List Int}, dif l m = false → (l.length < m.length → cmpL l m = -1) ∧ (¬ l.length < m.length → cmpL l m = 0)
  | [], [], _ => by simp [cmpL]
  | [], _ :: _, _ => by simp [cmpL]
  | _ :: _, [], h => by simp [dif] at h
  | x :: r, y :: s, h => by
    simp only [dif, Bool.or_eq_false_iff, bne_eq_false_iff_eq] at h
    have := cmpL_dif h.2
    simp only [cmpL, h.1, if_true, List.length_cons, Nat.add_lt_add_iff_right]
    exact this
theorem scmp_t (l m : List Int) (h : (l.length : Int) < big) : (fnT E2 [(0, L23.sp)] 100 Try.f68 [ints, ints] [i64] (l, m, ())).all fun r => r = (cmpL l m, ()) := by
  rw [t23]
  simp only [Tree.all, decide_eq_true_eq, decide_eq_false_iff_not]
  refine ⟨⟨by omega, by omega, by omega, h⟩, by simp, fun k => by simp [k], fun c => ⟨fun d => ?_, fun d => ?_⟩⟩
  · rw [(cmpL_dif c).1 (by omega)]
  · rw [(cmpL_dif c).2 (by omega)]
theorem scmp_ok : PureOK Try.prog 68 [ints, ints] [i64] (fun x => (List.length (α := Int) x.1 : Int) < big) (fun x => (cmpL x.1 x.2.1, ())) :=
  fn_pure (E := E2) (n := 100) E2_ok Try.func68 body23 l23 fun x h => scmp_t x.1 x.2.1 h


def cmpP (a b : PlanD) : Int := orL [cmpI a.1 b.1, cmpI a.2.1 b.2.1, cmpI a.2.2.length b.2.2.length, cmpL a.2.2 b.2.2]
theorem body12 : Try.f54.body = some (bodyOf Try.f54) := by kernel_rfl
noncomputable abbrev E3 : Ex := mkEx Try.prog [(67, pureSp [i64, i64] [i64] (fun _ => True) (fun x => (cmpI x.1 x.2.1, ()))), (66, pureSp [ints] [i64] (fun x => (List.length (α := Int) x.1 : Int) < big) (fun x => (orL x.1, ()))),
  (68, pureSp [ints, ints] [i64] (fun x => (List.length (α := Int) x.1 : Int) < big) (fun x => (cmpL x.1 x.2.1, ())))]
theorem E3_ok : E3.Sound := mkEx_sound ⟨pureSp_ok cmp_ok, pureSp_ok or_ok, pureSp_ok scmp_ok, trivial⟩
theorem t12 (v b v' b' : Int) (l l' : List Int) :
  fnT E3 [] 100 Try.f54 [Plan, Plan] [i64] ((v, b, l), (v', b', l'), ()) =
.req (True) (
 .req (True) (
  .req (True) (
   .req ((↑l.length : Int) < (4611686018427387904 : Int)) (
    .req ((4 : Int) < (4611686018427387904 : Int)) (
     .leaf ((Pl.orL [Pl.cmpI v v', Pl.cmpI b b', Pl.cmpI (↑l.length : Int) (↑l'.length : Int), Pl.cmpL l l'], ()))))))) := by kernel_rfl
end Pl
namespace Pl
open Go Sx Go.Proofs

theorem cmpP_ok : PureOK Try.prog 54 [Plan, Plan] [i64] (fun x => (List.length (α := Int) x.1.2.2 : Int) < big) (fun x => (cmpP x.1 x.2.1, ())) := by
  refine fn_pure (E := E3) (n := 100) E3_ok Try.func54 body12 .nil fun x h => ?_
  have := t12 x.1.1 x.1.2.1 x.2.1.1 x.2.1.2.1 x.1.2.2 x.2.1.2.2
  refine Tree.all_eq this ?_
  exact ⟨trivial, trivial, trivial, h, by decide, rfl⟩

def nodeB (x : Int) : Bool := decide (x ≥ 0) && decide (x < 8)
theorem body24 : Try.f56.body = some (bodyOf Try.f56) := by kernel_rfl
theorem t24 (x : Int) :
  fnT E0 [] 100 Try.f56 [i64] [.bool] (x, ()) =
.fork (decide (x ≥ (0 : Int))) (
 .leaf ((decide (x < (8 : Int)), ()))) (
 .leaf ((false, ()))) := by kernel_rfl
theorem node_ok : PureOK Try.prog 56 [i64] [.bool] (fun _ => True) (fun x => (nodeB x.1, ())) :=
  fn_pure (E := E0) (n := 100) E0_ok Try.func56 body24 .nil fun x _ => by
    refine Tree.all_eq (t24 x.1) ?_
    simp only [Tree.all, decide_eq_true_eq, decide_eq_false_iff_not, nodeB]
    exact ⟨fun c => by simp [c], fun c => by simp [c]⟩
noncomputable abbrev E4 : Ex := mkEx Try.prog [(56, pureSp [i64] [.bool] (fun _ => True) (fun x => (nodeB x.1, ())))]
theorem E4_ok : E4.Sound := mkEx_sound ⟨pureSp_ok node_ok, trivial⟩
theorem body32 : Try.f70.body = some (bodyOf Try.f70) := by kernel_rfl
noncomputable abbrev E5 : Ex := mkEx Try.prog [(70, fnI E4 [] 100 Try.f70)]
theorem E5_ok : E5.Sound := mkEx_sound ⟨fnI_ok (E := E4) E4_ok Try.func70 body32 .nil, trivial⟩


def allN (l : List Int) : Bool := l.all nodeB
def idxL : List Int → Int → Int
  | [], _ => -1
  | x :: r, i => if nodeB x then idxL r (i + 1) else i
structure A33 where
  l : List Int
  i : Int
def L33 : LoopC A33 where
  n0 := 1
  det st := match Sx.look st.gh 0, intAt st.slots 8 with
    | some (.ro (.int .i64) l), some i => some ⟨l, i⟩
    | _, _ => none
  inv a := ⟨[(8, iv a.i), (7, iv a.l.length), (6, .one (.row 0)), (0, .one (.row 0)), (1, .one (.fn 70 [] []))], [(0, .ro i64 a.l)], 1⟩
  ok a := 0 ≤ a.i ∧ a.i ≤ a.l.length ∧ (a.l.length : Int) < big
  mu a := a.l.length - a.i.toNat
  fin a := .fork (allN (a.l.drop a.i.toNat)) (.leaf ⟨2, ⟨[], [], 1⟩⟩) (.leaf ⟨1, ⟨[(4, iv (idxL (a.l.drop a.i.toNat) a.i))], [], 1⟩⟩)
theorem body33 : Try.f61.body = some (bodyOf Try.f61) := by kernel_rfl
theorem r33 (l : List Int) (i : Int) :
  L33.round E5 [] 100 Try.f61 0 ⟨l, i⟩ =
.fork (decide (i < (↑l.length : Int))) (
 .req ((0 : Int) ≤ i ∧ i < (↑l.length : Int)) (
  .req ((0 : Int) ≤ i ∧ i < (↑l.length : Int)) (
   .req (True) (
    .fork (!Pl.nodeB (l.getD i.toNat (0 : Int))) (
     .fork (Pl.allN (List.drop i.toNat l)) (
      .req (False) (
       .leaf (Option.none))) (
      .req (i = Pl.idxL (List.drop i.toNat l) i) (
       .leaf (Option.none)))) (
     .req (IntKind.i64.wrap (i + (1 : Int)) = IntKind.i64.wrap (i + (1 : Int)) ∧ (↑l.length : Int) = (↑l.length : Int) ∧ l = l) (
      .leaf (Option.some { l := l, i := IntKind.i64.wrap (i + (1 : Int)) }))))))) (
 .fork (Pl.allN (List.drop i.toNat l)) (
  .req (True) (
   .leaf (Option.none))) (
  .req (False) (
   .leaf (Option.none)))) := by kernel_rfl
theorem t33 (l : List Int) :
  fnT E5 [(0, L33.sp)] 100 Try.f61 [ints, .fnl 70] [i64] (l, (), ()) =
.req ((0 : Int) ≤ (0 : Int) ∧ (0 : Int) ≤ (↑l.length : Int) ∧ (↑l.length : Int) < (4611686018427387904 : Int)) (
 .req ((0 : Int) = (0 : Int) ∧ (↑l.length : Int) = (↑l.length : Int) ∧ l = l) (
  .fork (Pl.allN l) (
   .leaf (((-1 : Int), ()))) (
   .leaf ((Pl.idxL l (0 : Int), ()))))) := by kernel_rfl
theorem l33 : LpsOK Try.prog Try.f61 [(0, L33.sp)] := by
  refine .cons (L33.sound E5_ok (lps := []) (n := 100) (inner rfl) (fun _ => rfl) ?_) .nil
  rintro ⟨l, i⟩ ⟨h1, h2, h3⟩
  simp only at h1 h2 h3
  rw [r33]
  simp only [Tree.all, decide_eq_true_eq, decide_eq_false_iff_not, Bool.not_eq_true', Bool.not_eq_false']
  refine ⟨fun c => ?_, fun c => ?_⟩
  · obtain ⟨x, r, e1, e2, e3⟩ := cut h1 c
    rw [e1, e2]
    refine ⟨⟨h1, c⟩, ⟨h1, c⟩, trivial, fun d => ?_, fun d => ⟨by simp, ?_⟩⟩
    · simp [allN, idxL, d, LoopC.Next]
    · rw [wrap1 h1 (by omega)]
      exact ⟨⟨by dsimp only; omega, by dsimp only; omega, h3⟩, by simp only [L33]; omega, by simp only [L33]; rw [e2, e3]; simp [allN, idxL, d]⟩
  · rw [ends c]; simp [allN, LoopC.Next]
theorem idxL_neg : ∀ {l : List Int} {i : Int}, 0 ≤ i → allN l = false → 0 ≤ idxL l i
  | [], _, _, h => by simp [allN] at h
  | x :: r, i, h0, h => by
    simp only [allN, List.all_cons, Bool.and_eq_false_iff] at h
    simp only [idxL]
    split
    · rename_i hx
      rcases h with h | h
      · rw [hx] at h; cases h
      · exact idxL_neg (by omega) h
    · exact h0
def idxN (l : List Int) : Int := if allN l then -1 else idxL l 0
theorem idx_ok : PureOK Try.prog 61 [ints, .fnl 70] [i64] (fun x => (List.length (α := Int) x.1 : Int) < big) (fun x => (idxN x.1, ())) :=
  fn_pure (E := E5) (n := 100) E5_ok Try.func61 body33 l33 fun x h => by
    refine Tree.all_eq (t33 x.1) ?_
    exact ⟨⟨by omega, by omega, h⟩, ⟨rfl, rfl, rfl⟩, fun c => by simp only [idxN, c]; rfl, fun c => by simp only [idxN, c]; rfl⟩
theorem idxN_ge (l : List Int) : (!decide (idxN l ≥ 0)) = allN l := by
  unfold idxN
  cases h : allN l with
  | true => simp
  | false => have := idxL_neg (i := 0) (by omega) h; simp [this]
noncomputable abbrev E6 : Ex := mkEx Try.prog [(61, pureSp [ints, .fnl 70] [i64] (fun x => (List.length (α := Int) x.1 : Int) < big) (fun x => (idxN x.1, ()))), (56, pureSp [i64] [.bool] (fun _ => True) (fun x => (nodeB x.1, ())))]
theorem E6_ok : E6.Sound := mkEx_sound ⟨pureSp_ok idx_ok, pureSp_ok node_ok, trivial⟩
theorem body31 : Try.f69.body = some (bodyOf Try.f69) := by kernel_rfl
theorem body25 : Try.f57.body = some (bodyOf Try.f57) := by kernel_rfl
theorem body14 : Try.f34.body = some (bodyOf Try.f34) := by kernel_rfl
noncomputable abbrev E7 : Ex := mkEx Try.prog [(69, fnI E6 [] 100 Try.f69)]
theorem E7_ok : E7.Sound := mkEx_sound ⟨fnI_ok (E := E6) E6_ok Try.func69 body31 .nil, trivial⟩
theorem t25 (l : List Int) :
  fnT E7 [] 100 Try.f57 [ints] [.bool] (l, ()) =
.fork ((↑l.length : Int) == (16 : Int)) (
 .req ((↑l.length : Int) < (4611686018427387904 : Int)) (
  .leaf ((!decide (Pl.idxN l ≥ (0 : Int)), ())))) (
 .leaf ((false, ()))) := by kernel_rfl
def fullB (l : List Int) : Bool := decide (l.length = 16) && allN l
theorem full_ok : PureOK Try.prog 57 [ints] [.bool] (fun x => (List.length (α := Int) x.1 : Int) < big) (fun x => (fullB x.1, ())) :=
  fn_pure (E := E7) (n := 100) E7_ok Try.func57 body25 .nil fun x h => by
    refine Tree.all_eq (t25 x.1) ?_
    simp only [Tree.all, beq_iff_eq, beq_eq_false_iff_ne, ne_eq]
    refine ⟨fun c => ⟨h, ?_⟩, fun c => ?_⟩
    · show ((!decide (idxN x.1 ≥ 0)), ()) = (fullB x.1, ())
      rw [idxN_ge x.1]
      have : List.length (α := Int) x.1 = 16 := by omega
      simp only [fullB, this]; rfl
    · have : ¬ List.length (α := Int) x.1 = 16 := by omega
      simp only [fullB, this]; rfl
noncomputable abbrev E8 : Ex := mkEx Try.prog [(57, pureSp [ints] [.bool] (fun x => (List.length (α := Int) x.1 : Int) < big) (fun x => (fullB x.1, ()))), (56, pureSp [i64] [.bool] (fun _ => True) (fun x => (nodeB x.1, ())))]
theorem E8_ok : E8.Sound := mkEx_sound ⟨pureSp_ok full_ok, pureSp_ok node_ok, trivial⟩
theorem t14 (v b : Int) (l : List Int) :
  fnT E8 [] 100 Try.f34 [Plan] [.bool] ((v, b, l), ()) =
.fork ((↑l.length : Int) == (0 : Int)) (
 .fork (v == (0 : Int)) (
  .leaf ((b == (0 : Int), ()))) (
  .leaf ((false, ())))) (
 .fork (decide (v ≥ (1 : Int))) (
  .fork (decide (v ≤ (1000000 : Int))) (
   .req (True) (
    .fork (Pl.nodeB b) (
     .req ((↑l.length : Int) < (4611686018427387904 : Int)) (
      .leaf ((Pl.fullB l, ())))) (
     .leaf ((false, ()))))) (
   .leaf ((false, ())))) (
  .leaf ((false, ())))) := by kernel_rfl
def mayB (p : PlanD) : Bool :=
  if p.2.2.length = 0 then decide (p.1 = 0) && decide (p.2.1 = 0) else decide (1 ≤ p.1) && decide (p.1 ≤ 1000000) && nodeB p.2.1 && fullB p.2.2
theorem may_ok : PureOK Try.prog 34 [Plan] [.bool] (fun x => (List.length (α := Int) x.1.2.2 : Int) < big) (fun x => (mayB x.1, ())) :=
  fn_pure (E := E8) (n := 100) E8_ok Try.func34 body14 .nil fun x h => by
    obtain ⟨⟨v, b, l⟩, _⟩ : PlanD × Unit := x
    have h : (l.length : Int) < big := h
    refine Tree.all_eq (t14 v b l) ?_
    show Tree.all _ fun y => y = (mayB (v, b, l), ())
    simp only [Tree.all, beq_iff_eq, beq_eq_false_iff_ne, ne_eq, decide_eq_true_eq, decide_eq_false_iff_not]
    refine ⟨fun c => ⟨fun d => ?_, fun d => ?_⟩, fun c => ⟨fun d => ⟨fun e => ⟨trivial, fun f => ⟨h, ?_⟩, fun f => ?_⟩, fun e => ?_⟩, fun d => ?_⟩⟩
    · simp [mayB, show l.length = 0 by omega, d]; rfl
    · simp [mayB, show l.length = 0 by omega, d]
    · simp [mayB, show ¬ l.length = 0 by omega, show 1 ≤ v from d, e, f]
    · simp [mayB, show ¬ l.length = 0 by omega, f]
    · simp [mayB, show ¬ l.length = 0 by omega, e]
    · simp [mayB, show ¬ l.length = 0 by omega, show ¬ 1 ≤ v from d]
end Pl

namespace Go.Proofs
open Go.Shelf
def Try.laysClone_ren : Go.Shelf.Ren := ⟨fun | 15 => 40 | n => n, fun | 22 => 30 | 3 => 3 | 4 => 4 | n => n, fun | n => n⟩
theorem Try.laysClone : Go.Proofs.Lays2.n15 Try.prog Try.laysClone_ren := {
  mixed := by kernel_rfl
  f15 := Try.func40.trans (congrArg some (by kernel_rfl))
  t3 := Try.underlying3
  a3 := Try.isAgg3
  z3 := Try.sizeOf3
  v3 := Try.zeroValue3
  t4 := Try.underlying4
  a4 := Try.isAgg4
  z4 := Try.sizeOf4
  v4 := Try.zeroValue4
  t22 := Try.underlying30
  a22 := Try.isAgg30
  z22 := Try.sizeOf30
  v22 := Try.zeroValue30
  i3 := by kernel_rfl }
end Go.Proofs
namespace Pl
open Go Sx Go.Proofs Go.RowKit

theorem own_reads {w : World} {base e : Nat} {v : Value} {xs : List Int} (h : w.ownsRow base e 1 v xs.length (xs.map (Value.int .i64))) : v = .slice none 0 0 ∧ xs = [] ∨ ∃ g cap cur T, v = .slice (some ⟨g, 0, none⟩) xs.length cap ∧ base ≤ g ∧ w.heap[g]? = some (.cells cur T (0, 0)) ∧ xs.length ≤ cap ∧ ∀ (i : Nat) (x : Int), xs[i]? = some x → cur[i]? = some (Value.int .i64 x) := by
  rcases h.2 with ⟨e0, e1⟩ | ⟨g, cap, cur, rfl, hb, hg, hn, _, hs, ht⟩
  · exact .inl ⟨e0, List.eq_nil_of_length_eq_zero e1⟩
  · refine .inr ⟨g, cap, cur, _, rfl, hb, hg, hn, fun i x hx => ?_⟩
    have hi : i < xs.length := (List.getElem?_eq_some_iff.1 hx).1
    have h2 : (cur.toList.take (xs.length * 1))[i]? = some (Value.int .i64 x) := by rw [ht]; simp [hx]
    rw [Nat.mul_one, List.getElem?_take_of_lt hi] at h2
    simpa using h2

def IntsAt (Q : Nat → Prop) (w : World) (xs : List Int) (A : Option Addr) : Prop :=
  ∀ (i : Nat) (x : Int), xs[i]? = some x → ∃ b o, A = some ⟨b, o, none⟩ ∧ Q b ∧ w.cell? ⟨b, o + i, none⟩ = some (Value.int .i64 x)
def IntsV (Q : Nat → Prop) (w : World) (xs : List Int) (v : Value) : Prop := ∃ A cap, v = .slice A xs.length cap ∧ xs.length ≤ cap ∧ IntsAt Q w xs A

theorem ints_iff {Q : Nat → Prop} {w : World} {xs : List Int} {cs : List Value} : ReadsC Q w ints xs cs ↔ ∃ v, cs = [v] ∧ IntsV Q w xs v := by
  constructor
  · rintro ⟨A, cap, rfl, hcap, hrow⟩
    refine ⟨_, rfl, A, cap, rfl, hcap, fun i x hx => ?_⟩
    obtain ⟨b, o, h, hQ, cs, _, hc, hrd⟩ := hrow i x hx
    have hrd : cs = [Value.int .i64 x] := hrd
    subst hrd
    have := hc 0 (by simp)
    exact ⟨b, o, h, hQ, by simpa [Ty.size] using this⟩
  · rintro ⟨v, rfl, A, cap, rfl, hcap, hrow⟩
    refine ⟨A, cap, rfl, hcap, fun i x hx => ?_⟩
    obtain ⟨b, o, h, hQ, hc⟩ := hrow i x hx
    refine ⟨b, o, h, hQ, [Value.int .i64 x], rfl, fun j hj => ?_, rfl⟩
    have hj0 : j = 0 := by simp at hj; omega
    subst hj0
    simpa [Ty.size] using hc

theorem clone_raw (Q : Nat → Prop) (w : World) (xs : List Int) (v : Value) (h : IntsV Q w xs v) (hbig : (xs.length : Int) < 17592186044416) :
    Calls Try.prog 40 #[v] w fun e w' => ∃ v', e = .returned v' ∧ IntsV (fun b => w.heap.size ≤ b ∧ b < w'.heap.size) w' xs v' ∧ Below w.heap.size w w' := by
  obtain ⟨A, cap, rfl, hcap, hrow⟩ := h
  have fin : ∀ (e : Ending) (w' : World) (v' : Value), e = .returned v' → w'.ownsRow w.heap.size 3 1 v' xs.length (xs.map (Value.int .i64)) → Below w.heap.size w w' →
      ∃ v', e = .returned v' ∧ IntsV (fun b => w.heap.size ≤ b ∧ b < w'.heap.size) w' xs v' ∧ Below w.heap.size w w' := by
    intro e w' v' he hown hb
    refine ⟨v', he, ?_, hb⟩
    rcases own_reads hown with ⟨e1, e2⟩ | ⟨g, c, cur, T, e1, hg, hh, hc, hx⟩
    · subst e2
      exact ⟨none, 0, e1, Nat.le_refl _, fun i x hi => by simp at hi⟩
    · refine ⟨some ⟨g, 0, none⟩, c, e1, hc, fun i x hi => ⟨g, 0, rfl, ⟨hg, (Array.getElem?_eq_some_iff.1 hh).1⟩, ?_⟩⟩
      have := hx i x hi
      simp [World.cell?, hh, this]
  cases A with
  | none =>
    refine (Any.slices_Clone_int_nil Try.laysClone _ cap w).mono ?_
    rintro e w' ⟨rfl, rfl⟩
    cases xs with
    | nil => exact fin _ _ _ rfl ⟨rfl, .inl ⟨rfl, rfl⟩⟩ (Below.refl _ _)
    | cons x t => obtain ⟨b, o, h, _⟩ := hrow 0 x rfl; cases h
  | some a =>
    cases hxs : xs with
    | nil =>
      subst hxs
      refine (Any.slices_Clone_int_zero Try.laysClone a cap w).mono ?_
      rintro e w' ⟨v', he, hown, _, hb⟩
      exact fin _ _ _ he hown hb
    | cons x t =>
      obtain ⟨b, o, h, _⟩ := hrow 0 x (by rw [hxs]; rfl)
      injection h with h; subst h
      rw [← hxs]
      refine (Any.slices_Clone_int Try.laysClone b o xs.length cap xs w (Nat.le_refl _) (by omega) ?_).mono ?_
      · intro j hj
        obtain ⟨b', o', h', _, hc⟩ := hrow j (xs.getD j 0) (by simp [List.getD_eq_getElem?_getD, List.getElem?_eq_getElem hj])
        injection h' with h'
        have hb' : b = b' := congrArg Addr.block h'
        have ho' : o = o' := congrArg Addr.off h'
        subst hb'; subst ho'
        exact hc
      · rintro e w' ⟨v', he, hown, _, hb⟩
        rw [List.take_of_length_le (Nat.le_refl _)] at hown
        exact fin _ _ _ he hown hb

theorem clone_ok : PureOK Try.prog 40 [ints] [ints] (fun x => (List.length (α := Int) x.1 : Int) < 17592186044416) (fun x => x) := by
  rintro R w ⟨xs, u⟩ args hR ⟨cs, r, e, hrd, er⟩ hpre
  obtain ⟨v, rfl, hv⟩ := ints_iff.1 hrd
  subst er; subst e
  refine (clone_raw R w xs v hv hpre).mono ?_
  rintro e w' ⟨v', he, hv', hb⟩
  refine ⟨[v'], he, ⟨[v'], [], rfl, ints_iff.2 ⟨v', rfl, ?_⟩, rfl⟩, hb⟩
  obtain ⟨A, cap, e1, e2, e3⟩ := hv'
  exact ⟨A, cap, e1, e2, fun i x hx => by obtain ⟨b, o, h1, h2, h3⟩ := e3 i x hx; exact ⟨b, o, h1, .inr h2, h3⟩⟩
end Pl
namespace Pl
open Go Sx Go.Proofs Go.RowKit

abbrev small : Int := 17592186044416
abbrev S1 : TDs [Plan] → Prop := fun x => (List.length (α := Int) x.1.2.2 : Int) < small
abbrev S2 : TDs [Plan, Plan] → Prop := fun x => (List.length (α := Int) x.1.2.2 : Int) < small ∧ (List.length (α := Int) x.2.1.2.2 : Int) < small
theorem body20 : Try.f59.body = some (bodyOf Try.f59) := by kernel_rfl
theorem body10 : Try.f37.body = some (bodyOf Try.f37) := by kernel_rfl
theorem body19 : Try.f32.body = some (bodyOf Try.f32) := by kernel_rfl
noncomputable abbrev E9 : Ex := mkEx Try.prog [(40, pureSp [ints] [ints] (fun x => (List.length (α := Int) x.1 : Int) < small) (fun x => x))]
theorem E9_ok : E9.Sound := mkEx_sound ⟨pureSp_ok clone_ok, trivial⟩
theorem t20 (v b : Int) (l : List Int) :
  fnT E9 [] 100 Try.f59 [Plan] [Plan] ((v, b, l), ()) =
.req ((↑l.length : Int) < (17592186044416 : Int)) (
 .leaf (((v, b, l), ()))) := by kernel_rfl
theorem copied_ok : PureOK Try.prog 59 [Plan] [Plan] S1 (fun x => x) :=
  fn_pure (E := E9) (n := 100) E9_ok Try.func59 body20 .nil fun x h => Tree.all_eq (t20 x.1.1 x.1.2.1 x.1.2.2) ⟨h, rfl⟩
noncomputable abbrev E10 : Ex := mkEx Try.prog [(59, pureSp [Plan] [Plan] S1 (fun x => x)), (54, pureSp [Plan, Plan] [i64] (fun x => (List.length (α := Int) x.1.2.2 : Int) < big) (fun x => (cmpP x.1 x.2.1, ())))]
theorem E10_ok : E10.Sound := mkEx_sound ⟨pureSp_ok copied_ok, pureSp_ok cmpP_ok, trivial⟩
theorem t10 (v b v' b' : Int) (l l' : List Int) :
  fnT E10 [] 100 Try.f37 [Plan, Plan] [Plan] ((v, b, l), (v', b', l'), ()) =
.req ((↑l'.length : Int) < (4611686018427387904 : Int)) (
 .fork (decide (Pl.cmpP (v', b', l') (v, b, l) > (0 : Int))) (
  .req ((↑l'.length : Int) < (17592186044416 : Int)) (
   .leaf (((v', b', l'), ())))) (
  .req ((↑l.length : Int) < (17592186044416 : Int)) (
   .leaf (((v, b, l), ()))))) := by kernel_rfl
theorem t19 (v b v' b' : Int) (l l' : List Int) :
  fnT E10 [] 100 Try.f32 [Plan, Plan] [.bool] ((v, b, l), (v', b', l'), ()) =
.req ((↑l.length : Int) < (4611686018427387904 : Int)) (
 .leaf ((Pl.cmpP (v, b, l) (v', b', l') == (0 : Int), ()))) := by kernel_rfl
def joinP (a b : PlanD) : PlanD := if cmpP b a > 0 then b else a
theorem join_ok : PureOK Try.prog 37 [Plan, Plan] [Plan] S2 (fun x => (joinP x.1 x.2.1, ())) :=
  fn_pure (E := E10) (n := 100) E10_ok Try.func37 body10 .nil fun x h => by
    obtain ⟨⟨v, b, l⟩, ⟨v', b', l'⟩, _⟩ : PlanD × PlanD × Unit := x
    obtain ⟨h1, h2⟩ : (l.length : Int) < small ∧ (l'.length : Int) < small := h
    refine Tree.all_eq (t10 v b v' b' l l') ?_
    show Tree.all _ fun y => y = (joinP (v, b, l) (v', b', l'), ())
    unfold small at h1 h2
    simp only [Tree.all, decide_eq_true_eq, decide_eq_false_iff_not]
    refine ⟨by omega, fun c => ⟨h2, ?_⟩, fun c => ⟨h1, ?_⟩⟩
    · rw [joinP, if_pos c]
    · rw [joinP, if_neg c]
theorem psame_ok : PureOK Try.prog 32 [Plan, Plan] [.bool] S2 (fun x => (cmpP x.1 x.2.1 == 0, ())) :=
  fn_pure (E := E10) (n := 100) E10_ok Try.func32 body19 .nil fun x h => by
    obtain ⟨⟨v, b, l⟩, ⟨v', b', l'⟩, _⟩ : PlanD × PlanD × Unit := x
    obtain ⟨h1, h2⟩ : (l.length : Int) < small ∧ (l'.length : Int) < small := h
    refine Tree.all_eq (t19 v b v' b' l l') ?_
    unfold small at h1 h2
    exact ⟨by omega, rfl⟩
end Pl
namespace Pl
open Go Sx Go.Proofs Go.RowKit
abbrev Entry : Ty := .cat i64 i64
abbrev EntryD : Type := Int × Int
noncomputable abbrev N1 : Ex := mkEx Try.prog [(66, pureSp [ints] [i64] (fun x => (List.length (α := Int) x.1 : Int) < big) (fun x => (orL x.1, ()))), (67, pureSp [i64, i64] [i64] (fun _ => True) (fun x => (cmpI x.1 x.2.1, ())))]
theorem N1_ok : N1.Sound := mkEx_sound ⟨pureSp_ok or_ok, pureSp_ok cmp_ok, trivial⟩
theorem bodyE1 : Try.f60.body = some (bodyOf Try.f60) := by kernel_rfl
def cmpE (a b : EntryD) : Int := orL [cmpI a.1 b.1, cmpI a.2 b.2]
theorem tE1 (a b c d : Int) : @Eq _
  (fnT N1 [] 100 Try.f60 [Entry, Entry] [i64] ((a, b), (c, d), ()))
  (.req (True) (
 .req (True) (
  .req ((2 : Int) < (4611686018427387904 : Int)) (
   .leaf ((Pl.orL [Pl.cmpI a c, Pl.cmpI b d], ()))))) : Tree (Int × PUnit)) := by kernel_rfl
theorem ecmp_ok : PureOK Try.prog 60 [Entry, Entry] [i64] (fun _ => True) (fun x => (cmpE x.1 x.2.1, ())) :=
  fn_pure (E := N1) (n := 100) N1_ok Try.func60 bodyE1 .nil fun x _ => Tree.all_eq (tE1 x.1.1 x.1.2 x.2.1.1 x.2.1.2) ⟨trivial, trivial, by decide, rfl⟩
noncomputable abbrev N2 : Ex := mkEx Try.prog [(60, pureSp [Entry, Entry] [i64] (fun _ => True) (fun x => (cmpE x.1 x.2.1, ())))]
theorem N2_ok : N2.Sound := mkEx_sound ⟨pureSp_ok ecmp_ok, trivial⟩
theorem bodyE2 : Try.f38.body = some (bodyOf Try.f38) := by kernel_rfl
def joinE (a b : EntryD) : EntryD := if cmpE b a > 0 then b else a
theorem tE2 (a b c d : Int) : @Eq _
  (fnT N2 [] 100 Try.f38 [Entry, Entry] [Entry] ((a, b), (c, d), ()))
  (.req (True) (
 .fork (decide (Pl.cmpE (c, d) (a, b) > (0 : Int))) (
  .leaf (((c, d), ()))) (
  .leaf (((a, b), ())))) : Tree ((Int × Int) × PUnit)) := by kernel_rfl
theorem ejoin_ok : PureOK Try.prog 38 [Entry, Entry] [Entry] (fun _ => True) (fun x => (joinE x.1 x.2.1, ())) :=
  fn_pure (E := N2) (n := 100) N2_ok Try.func38 bodyE2 .nil fun x _ => Tree.all_eq (tE2 x.1.1 x.1.2 x.2.1.1 x.2.1.2) (by
    simp only [Tree.all, decide_eq_true_eq, decide_eq_false_iff_not]
    refine ⟨trivial, fun c => ?_, fun c => ?_⟩
    · show _ = (joinE (x.1.1, x.1.2) (x.2.1.1, x.2.1.2), ()); rw [joinE, if_pos c]
    · show _ = (joinE (x.1.1, x.1.2) (x.2.1.1, x.2.1.2), ()); rw [joinE, if_neg c])
theorem bodyE3 : Try.f55.body = some (bodyOf Try.f55) := by kernel_rfl
theorem bodyE4 : Try.f33.body = some (bodyOf Try.f33) := by kernel_rfl
noncomputable abbrev N3 : Ex := mkEx Try.prog [(55, fnI E0 [] 100 Try.f55)]
theorem N3_ok : N3.Sound := mkEx_sound ⟨fnI_ok (E := E0) E0_ok Try.func55 bodyE3 .nil, trivial⟩
theorem tE4 (a b : Int) : @Eq _
  (fnT N3 [] 100 Try.f33 [Entry] [.bool] ((a, b), ()))
  (.fork (a == (0 : Int) && (b == (0 : Int) && true)) (
 .leaf ((true, ()))) (
 .fork (decide (a ≥ (1 : Int))) (
  .fork (decide (a ≤ (1000000 : Int))) (
   .fork (decide (b ≥ (0 : Int))) (
    .leaf ((decide (b < (8 : Int)), ()))) (
    .leaf ((false, ())))) (
   .leaf ((false, ())))) (
  .leaf ((false, ())))) : Tree (Bool × PUnit)) := by kernel_rfl
def mayE (e : EntryD) : Bool := (e.1 == 0 && e.2 == 0) || (decide (1 ≤ e.1) && decide (e.1 ≤ 1000000) && nodeB e.2)
theorem emay_ok : PureOK Try.prog 33 [Entry] [.bool] (fun _ => True) (fun x => (mayE x.1, ())) :=
  fn_pure (E := N3) (n := 100) N3_ok Try.func33 bodyE4 .nil fun x _ => Tree.all_eq (tE4 x.1.1 x.1.2) (by
    obtain ⟨⟨a, b⟩, _⟩ : EntryD × Unit := x
    show Tree.all _ fun y => y = (mayE (a, b), ())
    have e1 : (decide (a ≥ 1) : Bool) = decide (1 ≤ a) := rfl
    simp only [Tree.all, mayE, Bool.and_true, e1]
    refine ⟨fun c => by rw [c]; rfl, fun c => ⟨fun d => ⟨fun e => ⟨fun f => ?_, fun f => ?_⟩, fun e => ?_⟩, fun d => ?_⟩⟩
    · rw [c, d, e]; simp only [nodeB, f]; rfl
    · rw [c, d, e]; simp only [nodeB, f]; rfl
    · rw [c, d, e]; rfl
    · rw [c, d]; rfl)
end Pl
namespace Pl
open Go Sx Go.Proofs Go.RowKit
abbrev Ring : Ty := .cat (.rep 8 i64) (.cat Plan (.rep 16 Entry))
abbrev RingD : Type := List Int × PlanD × List EntryD
def stC (r : RingD) : List SV := [.int .i64 (r.1.getD 0 0), .int .i64 (r.1.getD 1 0), .int .i64 (r.1.getD 2 0), .int .i64 (r.1.getD 3 0), .int .i64 (r.1.getD 4 0), .int .i64 (r.1.getD 5 0), .int .i64 (r.1.getD 6 0), .int .i64 (r.1.getD 7 0)]
def rgC (r : RingD) (id : Nat) : List SV := [.int .i64 (r.1.getD 0 0), .int .i64 (r.1.getD 1 0), .int .i64 (r.1.getD 2 0), .int .i64 (r.1.getD 3 0), .int .i64 (r.1.getD 4 0), .int .i64 (r.1.getD 5 0), .int .i64 (r.1.getD 6 0), .int .i64 (r.1.getD 7 0), .int .i64 r.2.1.1, .int .i64 r.2.1.2.1, .row id, .int .i64 (r.2.2.getD 0 (0, 0)).1, .int .i64 (r.2.2.getD 0 (0, 0)).2, .int .i64 (r.2.2.getD 1 (0, 0)).1, .int .i64 (r.2.2.getD 1 (0, 0)).2, .int .i64 (r.2.2.getD 2 (0, 0)).1, .int .i64 (r.2.2.getD 2 (0, 0)).2, .int .i64 (r.2.2.getD 3 (0, 0)).1, .int .i64 (r.2.2.getD 3 (0, 0)).2, .int .i64 (r.2.2.getD 4 (0, 0)).1, .int .i64 (r.2.2.getD 4 (0, 0)).2, .int .i64 (r.2.2.getD 5 (0, 0)).1, .int .i64 (r.2.2.getD 5 (0, 0)).2, .int .i64 (r.2.2.getD 6 (0, 0)).1, .int .i64 (r.2.2.getD 6 (0, 0)).2, .int .i64 (r.2.2.getD 7 (0, 0)).1, .int .i64 (r.2.2.getD 7 (0, 0)).2, .int .i64 (r.2.2.getD 8 (0, 0)).1, .int .i64 (r.2.2.getD 8 (0, 0)).2, .int .i64 (r.2.2.getD 9 (0, 0)).1, .int .i64 (r.2.2.getD 9 (0, 0)).2, .int .i64 (r.2.2.getD 10 (0, 0)).1, .int .i64 (r.2.2.getD 10 (0, 0)).2, .int .i64 (r.2.2.getD 11 (0, 0)).1, .int .i64 (r.2.2.getD 11 (0, 0)).2, .int .i64 (r.2.2.getD 12 (0, 0)).1, .int .i64 (r.2.2.getD 12 (0, 0)).2, .int .i64 (r.2.2.getD 13 (0, 0)).1, .int .i64 (r.2.2.getD 13 (0, 0)).2, .int .i64 (r.2.2.getD 14 (0, 0)).1, .int .i64 (r.2.2.getD 14 (0, 0)).2, .int .i64 (r.2.2.getD 15 (0, 0)).1, .int .i64 (r.2.2.getD 15 (0, 0)).2]
def okR (r : RingD) : Prop := r.1.length = 8 ∧ r.2.2.length = 16
abbrev S1r : TDs [Ring] → Prop := fun x => okR x.1 ∧ (List.length (α := Int) x.1.2.1.2.2 : Int) < small
abbrev S2r : TDs [Ring, Ring] → Prop := fun x => okR x.1 ∧ okR x.2.1 ∧ (List.length (α := Int) x.1.2.1.2.2 : Int) < small ∧ (List.length (α := Int) x.2.1.2.1.2.2 : Int) < small
noncomputable abbrev KpJ : Nat × Sx.Spec := (37, pureSp [Plan, Plan] [Plan] S2 (fun x => (joinP x.1 x.2.1, ())))
noncomputable abbrev KpS : Nat × Sx.Spec := (32, pureSp [Plan, Plan] [.bool] S2 (fun x => (cmpP x.1 x.2.1 == 0, ())))
noncomputable abbrev KpM : Nat × Sx.Spec := (34, pureSp [Plan] [.bool] (fun x => (List.length (α := Int) x.1.2.2 : Int) < big) (fun x => (mayB x.1, ())))
noncomputable abbrev KeJ : Nat × Sx.Spec := (38, pureSp [Entry, Entry] [Entry] (fun _ => True) (fun x => (joinE x.1 x.2.1, ())))
noncomputable abbrev KeM : Nat × Sx.Spec := (33, pureSp [Entry] [.bool] (fun _ => True) (fun x => (mayE x.1, ())))
noncomputable abbrev Q1 : Ex := mkEx Try.prog [KpJ, KeJ]
theorem Q1_ok : Q1.Sound := mkEx_sound ⟨pureSp_ok join_ok, pureSp_ok ejoin_ok, trivial⟩
theorem bodyJ : Try.f22.body = some (bodyOf Try.f22) := by kernel_rfl
theorem tJ (a b : RingD) : @Eq _
  (fnT Q1 [] 100 Try.f22 [Ring, Ring] [Ring] (a, b, ()))
  (.req ((↑a.2.1.2.2.length : Int) < (17592186044416 : Int) ∧ (↑b.2.1.2.2.length : Int) < (17592186044416 : Int)) (
 .req (True) (
  .req (True) (
   .req (True) (
    .req (True) (
     .req (True) (
      .req (True) (
       .req (True) (
        .req (True) (
         .req (True) (
          .req (True) (
           .req (True) (
            .req (True) (
             .req (True) (
              .req (True) (
               .req (True) (
                .req (True) (
                 .leaf (((tabL 8 fun j => if b.1.getD j (0 : Int) > a.1.getD j (0 : Int) then b.1.getD j (0 : Int) else a.1.getD j (0 : Int), Pl.joinP a.2.1 b.2.1, tabL 16 fun j => Pl.joinE (a.2.2.getD j ((0 : Int), (0 : Int))) (b.2.2.getD j ((0 : Int), (0 : Int)))), ()))))))))))))))))))) : Tree ((List Int × (Int × Int × List Int) × List (Int × Int)) × PUnit)) := by kernel_rfl
noncomputable abbrev Q2 : Ex := mkEx Try.prog [KpS]
theorem Q2_ok : Q2.Sound := mkEx_sound ⟨pureSp_ok psame_ok, trivial⟩
theorem bodyS : Try.f18.body = some (bodyOf Try.f18) := by kernel_rfl
theorem tS (a b : RingD) : @Eq _
  (fnT Q2 [] 100 Try.f18 [Ring, Ring] [.bool] (a, b, ()))
  (.fork (a.1.getD 0 (0 : Int) == b.1.getD 0 (0 : Int) && (a.1.getD 1 (0 : Int) == b.1.getD 1 (0 : Int) && (a.1.getD 2 (0 : Int) == b.1.getD 2 (0 : Int) && (a.1.getD 3 (0 : Int) == b.1.getD 3 (0 : Int) && (a.1.getD 4 (0 : Int) == b.1.getD 4 (0 : Int) && (a.1.getD 5 (0 : Int) == b.1.getD 5 (0 : Int) && (a.1.getD 6 (0 : Int) == b.1.getD 6 (0 : Int) && (a.1.getD 7 (0 : Int) == b.1.getD 7 (0 : Int) && true)))))))) (
 .fork ((a.2.2.getD 0 ((0 : Int), (0 : Int))).1 == (b.2.2.getD 0 ((0 : Int), (0 : Int))).1 && ((a.2.2.getD 0 ((0 : Int), (0 : Int))).2 == (b.2.2.getD 0 ((0 : Int), (0 : Int))).2 && true) && ((a.2.2.getD 1 ((0 : Int), (0 : Int))).1 == (b.2.2.getD 1 ((0 : Int), (0 : Int))).1 && ((a.2.2.getD 1 ((0 : Int), (0 : Int))).2 == (b.2.2.getD 1 ((0 : Int), (0 : Int))).2 && true) && ((a.2.2.getD 2 ((0 : Int), (0 : Int))).1 == (b.2.2.getD 2 ((0 : Int), (0 : Int))).1 && ((a.2.2.getD 2 ((0 : Int), (0 : Int))).2 == (b.2.2.getD 2 ((0 : Int), (0 : Int))).2 && true) && ((a.2.2.getD 3 ((0 : Int), (0 : Int))).1 == (b.2.2.getD 3 ((0 : Int), (0 : Int))).1 && ((a.2.2.getD 3 ((0 : Int), (0 : Int))).2 == (b.2.2.getD 3 ((0 : Int), (0 : Int))).2 && true) && ((a.2.2.getD 4 ((0 : Int), (0 : Int))).1 == (b.2.2.getD 4 ((0 : Int), (0 : Int))).1 && ((a.2.2.getD 4 ((0 : Int), (0 : Int))).2 == (b.2.2.getD 4 ((0 : Int), (0 : Int))).2 && true) && ((a.2.2.getD 5 ((0 : Int), (0 : Int))).1 == (b.2.2.getD 5 ((0 : Int), (0 : Int))).1 && ((a.2.2.getD 5 ((0 : Int), (0 : Int))).2 == (b.2.2.getD 5 ((0 : Int), (0 : Int))).2 && true) && ((a.2.2.getD 6 ((0 : Int), (0 : Int))).1 == (b.2.2.getD 6 ((0 : Int), (0 : Int))).1 && ((a.2.2.getD 6 ((0 : Int), (0 : Int))).2 == (b.2.2.getD 6 ((0 : Int), (0 : Int))).2 && true) && ((a.2.2.getD 7 ((0 : Int), (0 : Int))).1 == (b.2.2.getD 7 ((0 : Int), (0 : Int))).1 && ((a.2.2.getD 7 ((0 : Int), (0 : Int))).2 == (b.2.2.getD 7 ((0 : Int), (0 : Int))).2 && true) && ((a.2.2.getD 8 ((0 : Int), (0 : Int))).1 == (b.2.2.getD 8 ((0 : Int), (0 : Int))).1 && ((a.2.2.getD 8 ((0 : Int), (0 : Int))).2 == (b.2.2.getD 8 ((0 : Int), (0 : Int))).2 && true) && ((a.2.2.getD 9 ((0 : Int), (0 : Int))).1 == (b.2.2.getD 9 ((0 : Int), (0 : Int))).1 && ((a.2.2.getD 9 ((0 : Int), (0 : Int))).2 == (b.2.2.getD 9 ((0 : Int), (0 : Int))).2 && true) && ((a.2.2.getD 10 ((0 : Int), (0 : Int))).1 == (b.2.2.getD 10 ((0 : Int), (0 : Int))).1 && ((a.2.2.getD 10 ((0 : Int), (0 : Int))).2 == (b.2.2.getD 10 ((0 : Int), (0 : Int))).2 && true) && ((a.2.2.getD 11 ((0 : Int), (0 : Int))).1 == (b.2.2.getD 11 ((0 : Int), (0 : Int))).1 && ((a.2.2.getD 11 ((0 : Int), (0 : Int))).2 == (b.2.2.getD 11 ((0 : Int), (0 : Int))).2 && true) && ((a.2.2.getD 12 ((0 : Int), (0 : Int))).1 == (b.2.2.getD 12 ((0 : Int), (0 : Int))).1 && ((a.2.2.getD 12 ((0 : Int), (0 : Int))).2 == (b.2.2.getD 12 ((0 : Int), (0 : Int))).2 && true) && ((a.2.2.getD 13 ((0 : Int), (0 : Int))).1 == (b.2.2.getD 13 ((0 : Int), (0 : Int))).1 && ((a.2.2.getD 13 ((0 : Int), (0 : Int))).2 == (b.2.2.getD 13 ((0 : Int), (0 : Int))).2 && true) && ((a.2.2.getD 14 ((0 : Int), (0 : Int))).1 == (b.2.2.getD 14 ((0 : Int), (0 : Int))).1 && ((a.2.2.getD 14 ((0 : Int), (0 : Int))).2 == (b.2.2.getD 14 ((0 : Int), (0 : Int))).2 && true) && ((a.2.2.getD 15 ((0 : Int), (0 : Int))).1 == (b.2.2.getD 15 ((0 : Int), (0 : Int))).1 && ((a.2.2.getD 15 ((0 : Int), (0 : Int))).2 == (b.2.2.getD 15 ((0 : Int), (0 : Int))).2 && true) && true)))))))))))))))) (
  .req ((↑a.2.1.2.2.length : Int) < (17592186044416 : Int) ∧ (↑b.2.1.2.2.length : Int) < (17592186044416 : Int)) (
   .leaf ((Pl.cmpP a.2.1 b.2.1 == (0 : Int), ())))) (
  .leaf ((false, ())))) (
 .leaf ((false, ()))) : Tree (Bool × PUnit)) := by kernel_rfl
noncomputable abbrev Q3 : Ex := mkEx Try.prog [KeM]
theorem Q3_ok : Q3.Sound := mkEx_sound ⟨pureSp_ok emay_ok, trivial⟩
theorem bodyM1 : Try.f36.body = some (bodyOf Try.f36) := by kernel_rfl
theorem bodyM2 : Try.f58.body = some (bodyOf Try.f58) := by kernel_rfl
theorem bodyM3 : Try.f35.body = some (bodyOf Try.f35) := by kernel_rfl
theorem bodyM : Try.f20.body = some (bodyOf Try.f20) := by kernel_rfl
noncomputable abbrev Q4 : Ex := mkEx Try.prog [(36, fnI Q3 [] 100 Try.f36)]
theorem Q4_ok : Q4.Sound := mkEx_sound ⟨fnI_ok (E := Q3) Q3_ok Try.func36 bodyM1 .nil, trivial⟩
noncomputable abbrev Q5 : Ex := mkEx Try.prog [(58, fnI Q4 [] 100 Try.f58)]
theorem Q5_ok : Q5.Sound := mkEx_sound ⟨fnI_ok (E := Q4) Q4_ok Try.func58 bodyM2 .nil, trivial⟩
noncomputable abbrev Q6 : Ex := mkEx Try.prog [KpM, (35, fnI Q5 [] 100 Try.f35)]
theorem Q6_ok : Q6.Sound := mkEx_sound ⟨pureSp_ok may_ok, fnI_ok (E := Q5) Q5_ok Try.func35 bodyM3 .nil, trivial⟩
theorem tM (a : RingD) : @Eq _
  (fnT Q6 [] 100 Try.f20 [Ring] [.bool] (a, ()))
  (.fork (decide (a.1.getD 0 (0 : Int) < (0 : Int))) (
 .leaf ((false, ()))) (
 .fork (decide (a.1.getD 0 (0 : Int) > (4 : Int))) (
  .leaf ((false, ()))) (
  .fork (decide (a.1.getD 1 (0 : Int) < (0 : Int))) (
   .leaf ((false, ()))) (
   .fork (decide (a.1.getD 1 (0 : Int) > (4 : Int))) (
    .leaf ((false, ()))) (
    .fork (decide (a.1.getD 2 (0 : Int) < (0 : Int))) (
     .leaf ((false, ()))) (
     .fork (decide (a.1.getD 2 (0 : Int) > (4 : Int))) (
      .leaf ((false, ()))) (
      .fork (decide (a.1.getD 3 (0 : Int) < (0 : Int))) (
       .leaf ((false, ()))) (
       .fork (decide (a.1.getD 3 (0 : Int) > (4 : Int))) (
        .leaf ((false, ()))) (
        .fork (decide (a.1.getD 4 (0 : Int) < (0 : Int))) (
         .leaf ((false, ()))) (
         .fork (decide (a.1.getD 4 (0 : Int) > (4 : Int))) (
          .leaf ((false, ()))) (
          .fork (decide (a.1.getD 5 (0 : Int) < (0 : Int))) (
           .leaf ((false, ()))) (
           .fork (decide (a.1.getD 5 (0 : Int) > (4 : Int))) (
            .leaf ((false, ()))) (
            .fork (decide (a.1.getD 6 (0 : Int) < (0 : Int))) (
             .leaf ((false, ()))) (
             .fork (decide (a.1.getD 6 (0 : Int) > (4 : Int))) (
              .leaf ((false, ()))) (
              .fork (decide (a.1.getD 7 (0 : Int) < (0 : Int))) (
               .leaf ((false, ()))) (
               .fork (decide (a.1.getD 7 (0 : Int) > (4 : Int))) (
                .leaf ((false, ()))) (
                .req ((↑a.2.1.2.2.length : Int) < (4611686018427387904 : Int)) (
                 .fork (Pl.mayB a.2.1) (
                  .req (True) (
                   .fork (!Pl.mayE (a.2.2.getD 0 ((0 : Int), (0 : Int)))) (
                    .leaf ((false, ()))) (
                    .req (True) (
                     .fork (!Pl.mayE (a.2.2.getD 1 ((0 : Int), (0 : Int)))) (
                      .leaf ((false, ()))) (
                      .req (True) (
                       .fork (!Pl.mayE (a.2.2.getD 2 ((0 : Int), (0 : Int)))) (
                        .leaf ((false, ()))) (
                        .req (True) (
                         .fork (!Pl.mayE (a.2.2.getD 3 ((0 : Int), (0 : Int)))) (
                          .leaf ((false, ()))) (
                          .req (True) (
                           .fork (!Pl.mayE (a.2.2.getD 4 ((0 : Int), (0 : Int)))) (
                            .leaf ((false, ()))) (
                            .req (True) (
                             .fork (!Pl.mayE (a.2.2.getD 5 ((0 : Int), (0 : Int)))) (
                              .leaf ((false, ()))) (
                              .req (True) (
                               .fork (!Pl.mayE (a.2.2.getD 6 ((0 : Int), (0 : Int)))) (
                                .leaf ((false, ()))) (
                                .req (True) (
                                 .fork (!Pl.mayE (a.2.2.getD 7 ((0 : Int), (0 : Int)))) (
                                  .leaf ((false, ()))) (
                                  .req (True) (
                                   .fork (!Pl.mayE (a.2.2.getD 8 ((0 : Int), (0 : Int)))) (
                                    .leaf ((false, ()))) (
                                    .req (True) (
                                     .fork (!Pl.mayE (a.2.2.getD 9 ((0 : Int), (0 : Int)))) (
                                      .leaf ((false, ()))) (
                                      .req (True) (
                                       .fork (!Pl.mayE (a.2.2.getD 10 ((0 : Int), (0 : Int)))) (
                                        .leaf ((false, ()))) (
                                        .req (True) (
                                         .fork (!Pl.mayE (a.2.2.getD 11 ((0 : Int), (0 : Int)))) (
                                          .leaf ((false, ()))) (
                                          .req (True) (
                                           .fork (!Pl.mayE (a.2.2.getD 12 ((0 : Int), (0 : Int)))) (
                                            .leaf ((false, ()))) (
                                            .req (True) (
                                             .fork (!Pl.mayE (a.2.2.getD 13 ((0 : Int), (0 : Int)))) (
                                              .leaf ((false, ()))) (
                                              .req (True) (
                                               .fork (!Pl.mayE (a.2.2.getD 14 ((0 : Int), (0 : Int)))) (
                                                .leaf ((false, ()))) (
                                                .req (True) (
                                                 .fork (!Pl.mayE (a.2.2.getD 15 ((0 : Int), (0 : Int)))) (
                                                  .leaf ((false, ()))) (
                                                  .leaf ((true, ()))))))))))))))))))))))))))))))))))) (
                  .leaf ((false, ())))))))))))))))))))) : Tree (Bool × PUnit)) := by kernel_rfl
def mxI (x y : Int) : Int := if y > x then y else x
def joinR (a b : RingD) : RingD := (tabL 8 (fun j => mxI (a.1.getD j 0) (b.1.getD j 0)), joinP a.2.1 b.2.1, tabL 16 (fun j => joinE (a.2.2.getD j (0, 0)) (b.2.2.getD j (0, 0))))
theorem rjoin_ok : PureOK Try.prog 22 [Ring, Ring] [Ring] S2r (fun x => (joinR x.1 x.2.1, ())) :=
  fn_pure (E := Q1) (n := 100) Q1_ok Try.func22 bodyJ .nil fun x h => Tree.all_eq (tJ x.1 x.2.1) (by
    obtain ⟨h1, h2, h3, h4⟩ := h
    simp only [Tree.all, true_and]
    exact ⟨⟨h3, h4⟩, rfl⟩)
theorem eqPI {a b c d : Int} : (a == c && (b == d && true)) = decide ((a, b) = (c, d)) := by
  rw [Bool.eq_iff_iff]; simp
theorem eq8 {a b : List Int} (ha : a.length = 8) (hb : b.length = 8) : (a.getD 0 0 == b.getD 0 0 && (a.getD 1 0 == b.getD 1 0 && (a.getD 2 0 == b.getD 2 0 && (a.getD 3 0 == b.getD 3 0 && (a.getD 4 0 == b.getD 4 0 && (a.getD 5 0 == b.getD 5 0 && (a.getD 6 0 == b.getD 6 0 && (a.getD 7 0 == b.getD 7 0 && true)))))))) = decide (a = b) := by
  obtain ⟨a0, a1, a2, a3, a4, a5, a6, a7, rfl⟩ := len8 ha
  obtain ⟨b0, b1, b2, b3, b4, b5, b6, b7, rfl⟩ := len8 hb
  rw [Bool.eq_iff_iff]; simp
def sameR (a b : RingD) : Bool := decide (a = b)
end Pl
namespace Pl
open Go Sx Go.Proofs Go.RowKit
theorem cmpI_neg (a b : Int) : cmpI b a = -cmpI a b := by
  unfold cmpI; split <;> split <;> (try split) <;> omega
theorem cmpI_zero {a b : Int} : cmpI a b = 0 ↔ a = b := by
  unfold cmpI; split <;> (try split) <;> omega
theorem cmpL_neg : ∀ l m : List Int, cmpL m l = -cmpL l m
  | [], [] => rfl
  | [], _ :: _ => rfl
  | _ :: _, [] => rfl
  | x :: r, y :: s => by
    simp only [cmpL, cmpI_neg x y, cmpL_neg r s]
    split <;> split <;> omega
theorem cmpL_zero : ∀ l m : List Int, cmpL l m = 0 ↔ l = m
  | [], [] => by simp [cmpL]
  | [], _ :: _ => by simp [cmpL]
  | _ :: _, [] => by simp [cmpL]
  | x :: r, y :: s => by
    simp only [cmpL, List.cons.injEq]
    split
    · rename_i h; rw [cmpL_zero r s, cmpI_zero.1 h]; simp
    · rename_i h
      have : ¬ x = y := fun e => h (cmpI_zero.2 e)
      simp [h, this]
theorem cmpP_neg (a b : PlanD) : cmpP b a = -cmpP a b := by
  simp only [cmpP, orL, cmpI_neg a.1 b.1, cmpI_neg a.2.1 b.2.1, cmpI_neg (a.2.2.length : Int) b.2.2.length, cmpL_neg a.2.2 b.2.2]
  repeat' split
  all_goals omega
theorem cmpP_zero (p q : PlanD) : cmpP p q = 0 ↔ p = q := by
  obtain ⟨v, b, l⟩ := p
  obtain ⟨v', b', l'⟩ := q
  simp only [cmpP, orL, Prod.mk.injEq]
  constructor
  · intro h
    split at h
    · rename_i h1
      split at h
      · rename_i h2
        split at h
        · split at h
          · rename_i h4; exact ⟨cmpI_zero.1 h1, cmpI_zero.1 h2, (cmpL_zero _ _).1 h4⟩
          · rename_i h4; exact absurd h h4
        · rename_i h3; exact absurd h h3
      · rename_i h2; exact absurd h h2
    · rename_i h1; exact absurd h h1
  · rintro ⟨rfl, rfl, rfl⟩
    simp [cmpI_zero.2, (cmpL_zero _ _).2]
theorem join_comm (a b : PlanD) : joinP a b = joinP b a := by
  unfold joinP
  have h := cmpP_neg a b
  by_cases h0 : cmpP a b = 0
  · have := (cmpP_zero a b).1 h0
    subst this; rfl
  · split <;> split <;> first | rfl | omega
theorem cmpI_vals (a b : Int) : (a < b ∧ cmpI a b = -1) ∨ (a = b ∧ cmpI a b = 0) ∨ (b < a ∧ cmpI a b = 1) := by
  unfold cmpI; split
  · exact .inl ⟨by assumption, rfl⟩
  · split
    · exact .inr (.inr ⟨by assumption, rfl⟩)
    · exact .inr (.inl ⟨by omega, rfl⟩)
theorem cmpL_vals : ∀ l m : List Int, cmpL l m = -1 ∨ cmpL l m = 0 ∨ cmpL l m = 1
  | [], [] => by simp [cmpL]
  | [], _ :: _ => by simp [cmpL]
  | _ :: _, [] => by simp [cmpL]
  | x :: r, y :: s => by
    simp only [cmpL]
    have := cmpL_vals r s
    rcases cmpI_vals x y with ⟨_, h⟩ | ⟨_, h⟩ | ⟨_, h⟩ <;> rw [h] <;> simp <;> omega
theorem cmpL_trans : ∀ l m n : List Int, cmpL l m ≤ 0 → cmpL m n ≤ 0 → cmpL l n ≤ 0
  | [], [], [], _, _ => by simp [cmpL]
  | [], [], _ :: _, _, _ => by simp [cmpL]
  | [], _ :: _, [], _, _ => by simp [cmpL]
  | [], _ :: _, _ :: _, _, _ => by simp [cmpL]
  | _ :: _, [], _, h, _ => by simp [cmpL] at h
  | _ :: _, _ :: _, [], _, h => by simp [cmpL] at h
  | x :: r, y :: s, z :: u, h, k => by
    simp only [cmpL] at h k ⊢
    have ih := cmpL_trans r s u
    rcases cmpI_vals x y with ⟨h1, h2⟩ | ⟨h1, h2⟩ | ⟨h1, h2⟩ <;> rcases cmpI_vals y z with ⟨k1, k2⟩ | ⟨k1, k2⟩ | ⟨k1, k2⟩ <;> rw [h2] at h <;> rw [k2] at k <;>
      rcases cmpI_vals x z with ⟨g1, g2⟩ | ⟨g1, g2⟩ | ⟨g1, g2⟩ <;> rw [g2] <;> simp_all <;> omega
def T1 (a b c : Int) : Prop := a ≤ 0 → b ≤ 0 → c ≤ 0
def T2 (a b c : Int) : Prop := a ≤ 0 → b ≤ 0 → c ≤ 0 ∧ (c = 0 → a = 0 ∧ b = 0)
theorem cmpI_T (x y z : Int) : T2 (cmpI x y) (cmpI y z) (cmpI x z) := by
  unfold T2
  rcases cmpI_vals x y with ⟨h1, h2⟩ | ⟨h1, h2⟩ | ⟨h1, h2⟩ <;> rcases cmpI_vals y z with ⟨k1, k2⟩ | ⟨k1, k2⟩ | ⟨k1, k2⟩ <;> rcases cmpI_vals x z with ⟨g1, g2⟩ | ⟨g1, g2⟩ | ⟨g1, g2⟩ <;> rw [h2, k2, g2] <;> omega
theorem lexT {a b c : Int} {x y z : List Int} (h : T2 a b c) (k : T1 (orL x) (orL y) (orL z)) : T1 (orL (a :: x)) (orL (b :: y)) (orL (c :: z)) := by
  unfold T1 T2 at *
  simp only [orL]
  intro h1 h2
  split at h1 <;> split at h2 <;> split
  all_goals first
    | exact k (by assumption) (by assumption)
    | (obtain ⟨h3, h4⟩ := h (by omega) (by omega); first | omega | (have := h4 (by omega); omega))
theorem orL_one (d : Int) : orL [d] = d := by simp only [orL]; split <;> omega
theorem cmpP_trans (p q r : PlanD) (h : cmpP p q ≤ 0) (k : cmpP q r ≤ 0) : cmpP p r ≤ 0 := by
  refine lexT (cmpI_T _ _ _) (lexT (cmpI_T _ _ _) (lexT (cmpI_T _ _ _) ?_)) h k
  rw [orL_one, orL_one, orL_one]
  exact cmpL_trans _ _ _
theorem cmpP_vals (p q : PlanD) : cmpP p q = -1 ∨ cmpP p q = 0 ∨ cmpP p q = 1 := by
  simp only [cmpP, orL]
  have h1 := cmpI_vals p.1 q.1
  have h2 := cmpI_vals p.2.1 q.2.1
  have h3 := cmpI_vals p.2.2.length q.2.2.length
  have h4 := cmpL_vals p.2.2 q.2.2
  split
  · split
    · split
      · split
        · exact .inr (.inl rfl)
        · exact h4
      · omega
    · omega
  · omega
theorem join_either (a b : PlanD) : joinP a b = a ∨ joinP a b = b := by unfold joinP; split <;> simp
theorem join_self (a : PlanD) : joinP a a = a := by unfold joinP; split <;> rfl
theorem cmpP_self (a : PlanD) : cmpP a a = 0 := (cmpP_zero a a).2 rfl
theorem le_join (a b : PlanD) : cmpP a (joinP a b) ≤ 0 := by
  unfold joinP
  have := cmpP_neg a b
  split
  · omega
  · rw [cmpP_self]; omega
theorem le_join' (a b : PlanD) : cmpP b (joinP a b) ≤ 0 := by rw [join_comm]; exact le_join b a
theorem join_least (a b c : PlanD) (h : cmpP a c ≤ 0) (k : cmpP b c ≤ 0) : cmpP (joinP a b) c ≤ 0 := by
  rcases join_either a b with e | e <;> rw [e] <;> assumption
theorem antisymm {a b : PlanD} (h : cmpP a b ≤ 0) (k : cmpP b a ≤ 0) : a = b := by
  have := cmpP_neg a b
  exact (cmpP_zero a b).1 (by omega)
theorem join_assoc (a b c : PlanD) : joinP (joinP a b) c = joinP a (joinP b c) := by
  refine antisymm (join_least _ _ _ (join_least _ _ _ (le_join _ _) ?_) ?_) (join_least _ _ _ ?_ (join_least _ _ _ ?_ (le_join' _ _)))
  · exact cmpP_trans _ _ _ (le_join b c) (le_join' a _)
  · exact cmpP_trans _ _ _ (le_join' b c) (le_join' a _)
  · exact cmpP_trans _ _ _ (le_join a b) (le_join _ c)
  · exact cmpP_trans _ _ _ (le_join' a b) (le_join _ c)
theorem sameF_self (a : PlanD) : sameF a a = true := by simp [sameF]
end Pl
namespace Pl
open Go Sx Go.Proofs Go.RowKit
theorem eq16 {a b : List EntryD} (ha : a.length = 16) (hb : b.length = 16) : (((a.getD 0 (0, 0)).1 == (b.getD 0 (0, 0)).1 && ((a.getD 0 (0, 0)).2 == (b.getD 0 (0, 0)).2 && true)) && (((a.getD 1 (0, 0)).1 == (b.getD 1 (0, 0)).1 && ((a.getD 1 (0, 0)).2 == (b.getD 1 (0, 0)).2 && true)) && (((a.getD 2 (0, 0)).1 == (b.getD 2 (0, 0)).1 && ((a.getD 2 (0, 0)).2 == (b.getD 2 (0, 0)).2 && true)) && (((a.getD 3 (0, 0)).1 == (b.getD 3 (0, 0)).1 && ((a.getD 3 (0, 0)).2 == (b.getD 3 (0, 0)).2 && true)) && (((a.getD 4 (0, 0)).1 == (b.getD 4 (0, 0)).1 && ((a.getD 4 (0, 0)).2 == (b.getD 4 (0, 0)).2 && true)) && (((a.getD 5 (0, 0)).1 == (b.getD 5 (0, 0)).1 && ((a.getD 5 (0, 0)).2 == (b.getD 5 (0, 0)).2 && true)) && (((a.getD 6 (0, 0)).1 == (b.getD 6 (0, 0)).1 && ((a.getD 6 (0, 0)).2 == (b.getD 6 (0, 0)).2 && true)) && (((a.getD 7 (0, 0)).1 == (b.getD 7 (0, 0)).1 && ((a.getD 7 (0, 0)).2 == (b.getD 7 (0, 0)).2 && true)) && (((a.getD 8 (0, 0)).1 == (b.getD 8 (0, 0)).1 && ((a.getD 8 (0, 0)).2 == (b.getD 8 (0, 0)).2 && true)) && (((a.getD 9 (0, 0)).1 == (b.getD 9 (0, 0)).1 && ((a.getD 9 (0, 0)).2 == (b.getD 9 (0, 0)).2 && true)) && (((a.getD 10 (0, 0)).1 == (b.getD 10 (0, 0)).1 && ((a.getD 10 (0, 0)).2 == (b.getD 10 (0, 0)).2 && true)) && (((a.getD 11 (0, 0)).1 == (b.getD 11 (0, 0)).1 && ((a.getD 11 (0, 0)).2 == (b.getD 11 (0, 0)).2 && true)) && (((a.getD 12 (0, 0)).1 == (b.getD 12 (0, 0)).1 && ((a.getD 12 (0, 0)).2 == (b.getD 12 (0, 0)).2 && true)) && (((a.getD 13 (0, 0)).1 == (b.getD 13 (0, 0)).1 && ((a.getD 13 (0, 0)).2 == (b.getD 13 (0, 0)).2 && true)) && (((a.getD 14 (0, 0)).1 == (b.getD 14 (0, 0)).1 && ((a.getD 14 (0, 0)).2 == (b.getD 14 (0, 0)).2 && true)) && (((a.getD 15 (0, 0)).1 == (b.getD 15 (0, 0)).1 && ((a.getD 15 (0, 0)).2 == (b.getD 15 (0, 0)).2 && true)) && true)))))))))))))))) = decide (a = b) := by
  obtain ⟨a0, a1, a2, a3, a4, a5, a6, a7, a8, a9, a10, a11, a12, a13, a14, a15, rfl⟩ := len16 ha
  obtain ⟨b0, b1, b2, b3, b4, b5, b6, b7, b8, b9, b10, b11, b12, b13, b14, b15, rfl⟩ := len16 hb
  rw [Bool.eq_iff_iff]
  simp only [List.getD_cons_zero, List.getD_cons_succ, Bool.and_eq_true, Bool.and_true, beq_iff_eq, decide_eq_true_eq, List.cons.injEq, and_true, Prod.ext_iff]
theorem rsame_ok : PureOK Try.prog 18 [Ring, Ring] [.bool] S2r (fun x => (sameR x.1 x.2.1, ())) :=
  fn_pure (E := Q2) (n := 100) Q2_ok Try.func18 bodyS .nil fun x h => Tree.all_eq (tS x.1 x.2.1) (by
    obtain ⟨⟨a, p, e⟩, ⟨b, q, f⟩, _⟩ : RingD × RingD × Unit := x
    obtain ⟨⟨h1, h2⟩, ⟨h3, h4⟩, h5, h6⟩ := h
    show Tree.all _ fun y => y = (sameR (a, p, e) (b, q, f), ())
    rw [eq8 h1 h3, eq16 h2 h4]
    simp only [Tree.all, decide_eq_true_eq, decide_eq_false_iff_not]
    refine ⟨fun c => ⟨fun d => ⟨⟨h5, h6⟩, ?_⟩, fun d => ?_⟩, fun c => ?_⟩
    · subst c; subst d
      have : (cmpP p q == 0) = sameR (a, p, e) (a, q, e) := by
        rw [Bool.eq_iff_iff]; simp [sameR, cmpP_zero]
      rw [this]
    · simp [sameR, d]
    · simp [sameR, c])
def stB (s : Int) : Bool := !(decide (s < 0)) && !(decide (s > 4))
def mayR (r : RingD) : Bool := (tab 8 r.1 0).all stB && (mayB r.2.1 && (tab 16 r.2.2 (0, 0)).all mayE)
theorem tabN_mem {α : Type} {xs : List α} {z : α} : ∀ (c j k : Nat), k < c → xs.getD (j + k) z ∈ tabN xs z c j
  | c + 1, j, 0, _ => by simp [tabN]
  | c + 1, j, k + 1, h => by
    have := tabN_mem (xs := xs) (z := z) c (j + 1) k (by omega)
    rw [show j + 1 + k = j + (k + 1) by omega] at this
    exact List.mem_cons_of_mem _ this
theorem tab_mem {α : Type} {xs : List α} {z : α} {n k : Nat} (h : k < n) : xs.getD k z ∈ tab n xs z := by
  have := tabN_mem (xs := xs) (z := z) n 0 k h
  rwa [Nat.zero_add] at this
theorem all_false {α : Type} {l : List α} {f : α → Bool} {x : α} (h : x ∈ l) (hf : f x = false) : l.all f = false := by
  cases hc : l.all f with
  | false => rfl
  | true => rw [List.all_eq_true] at hc; rw [hc x h] at hf; cases hf
theorem mayF1 {r : RingD} {j : Nat} (c : decide (r.1.getD j 0 < 0) = true) (h : j < 8) : mayR r = false := by
  unfold mayR; rw [all_false (tab_mem h) (by unfold stB; rw [c]; rfl)]; rfl
theorem mayF2 {r : RingD} {j : Nat} (c : decide (r.1.getD j 0 > 4) = true) (h : j < 8) : mayR r = false := by
  unfold mayR; rw [all_false (tab_mem h) (by unfold stB; rw [c]; simp)]; rfl
theorem mayF3 {r : RingD} (c : mayB r.2.1 = false) : mayR r = false := by
  unfold mayR; rw [c]; simp
theorem mayF4 {r : RingD} {j : Nat} (c : (!mayE (r.2.2.getD j (0, 0))) = true) (h : j < 16) : mayR r = false := by
  unfold mayR; rw [all_false (f := mayE) (tab_mem h) (by simpa using c)]; simp
theorem ret1 {a b : Bool} (h : b = a) : ((a, ()) : Bool × Unit) = (b, ()) := by rw [h]
theorem rmay_ok : PureOK Try.prog 20 [Ring] [.bool] S1r (fun x => (mayR x.1, ())) :=
  fn_pure (E := Q6) (n := 100) Q6_ok Try.func20 bodyM .nil fun x h => Tree.all_eq (tM x.1) (by
    obtain ⟨⟨h1, h2⟩, h3⟩ := h
    unfold small at h3
    simp only [Tree.all, true_and]
    iterate 8 (refine ⟨fun c => ret1 (mayF1 c (by decide)), fun _ => ⟨fun c => ret1 (mayF2 c (by decide)), fun _ => ?_⟩⟩)
    refine ⟨by omega, fun _ => ?_, fun c => ret1 (mayF3 c)⟩
    iterate 16 (refine ⟨fun c => ret1 (mayF4 c (by decide)), fun _ => ?_⟩)
    refine ret1 ?_
    simp_all [mayR, tab, tabN, stB])
theorem mayR_iff {r : RingD} (h : okR r) : mayR r = (r.1.all stB && (mayB r.2.1 && r.2.2.all mayE)) := by
  unfold mayR; rw [tab_eq h.1, tab_eq h.2]
end Pl
namespace Pl
open Go Sx Go.Proofs Go.RowKit
abbrev KrJ : Nat × Sx.Spec := (22, pureSp [Ring, Ring] [Ring] S2r (fun x => (joinR x.1 x.2.1, ())))
abbrev KrS : Nat × Sx.Spec := (18, pureSp [Ring, Ring] [.bool] S2r (fun x => (sameR x.1 x.2.1, ())))
abbrev KrM : Nat × Sx.Spec := (20, pureSp [Ring] [.bool] S1r (fun x => (mayR x.1, ())))
abbrev KrJL : Nat × Sx.Spec := (22, pureSpL [Ring, Ring] [Ring] S2r (fun x => (joinR x.1 x.2.1, ())))
noncomputable abbrev Q7 : Ex := mkEx Try.prog [KrJL, KrS]
theorem Q7_ok : Q7.Sound := mkEx_sound ⟨pureSpL_ok rjoin_ok, pureSp_ok rsame_ok, trivial⟩
theorem bodyB : Try.f21.body = some (bodyOf Try.f21) := by kernel_rfl
theorem tB (a b : RingD) : @Eq _
  (fnT Q7 [] 100 Try.f21 [Ring, Ring] [.bool] (a, b, ()))
  (.req ((8 = 8 ∧ 16 = 16) ∧ (8 = 8 ∧ 16 = 16) ∧ (↑a.2.1.2.2.length : Int) < (17592186044416 : Int) ∧ (↑b.2.1.2.2.length : Int) < (17592186044416 : Int)) (
 .lt [(Ty.rep 8 (Ty.int IntKind.i64)).cat
    (((Ty.int IntKind.i64).cat ((Ty.int IntKind.i64).cat (Ty.int IntKind.i64).slice)).cat
      (Ty.rep 16 ((Ty.int IntKind.i64).cat (Ty.int IntKind.i64))))] ((Pl.joinR (tab 8 a.1 (0 : Int), a.2.1, tab 16 a.2.2 ((0 : Int), (0 : Int))) (tab 8 b.1 (0 : Int), b.2.1, tab 16 b.2.2 ((0 : Int), (0 : Int))), ())) (fun (y1 : (List Int × (Int × Int × List Int) × List (Int × Int)) × PUnit) => (
  .req ((8 = 8 ∧ 16 = 16) ∧ (8 = 8 ∧ 16 = 16) ∧ (↑y1.1.2.1.2.2.length : Int) < (17592186044416 : Int) ∧ (↑b.2.1.2.2.length : Int) < (17592186044416 : Int)) (
   .leaf ((Pl.sameR (tab 8 y1.1.1 (0 : Int), y1.1.2.1, tab 16 y1.1.2.2 ((0 : Int), (0 : Int))) (tab 8 b.1 (0 : Int), b.2.1, tab 16 b.2.2 ((0 : Int), (0 : Int))), ())))))) : Tree (Bool × PUnit)) := by kernel_rfl
theorem bodyN : Try.f39.body = some (bodyOf Try.f39) := by kernel_rfl
abbrev KrN : Nat × Sx.Spec := (39, pureSp [i64] [.bool] (fun _ => True) (fun x => (nodeB x.1, ())))
theorem tN (x : Int) : @Eq _
  (fnT E0 [] 100 Try.f39 [i64] [.bool] (x, ()))
  (.fork (decide (x ≥ (0 : Int))) (
 .leaf ((decide (x < (8 : Int)), ()))) (
 .leaf ((false, ()))) : Tree (Bool × PUnit)) := by kernel_rfl
theorem rnode_ok : PureOK Try.prog 39 [i64] [.bool] (fun _ => True) (fun x => (nodeB x.1, ())) :=
  fn_pure (E := E0) (n := 100) E0_ok Try.func39 bodyN .nil fun x _ => by
    refine Tree.all_eq (tN x.1) ?_
    simp only [Tree.all, decide_eq_true_eq, decide_eq_false_iff_not, nodeB]
    exact ⟨fun c => by simp [c], fun c => by simp [c]⟩
abbrev KpC : Nat × Sx.Spec := (40, pureSp [ints] [ints] (fun x => (List.length (α := Int) x.1 : Int) < small) (fun x => x))
noncomputable abbrev Q8 : Ex := mkEx Try.prog [KrN, KrM, KpC]
theorem Q8_ok : Q8.Sound := mkEx_sound ⟨pureSp_ok rnode_ok, pureSp_ok rmay_ok, pureSp_ok clone_ok, trivial⟩
theorem bodyR : Try.f24.body = some (bodyOf Try.f24) := by kernel_rfl
theorem tR (r : RingD) (n s : Int) : @Eq _
  (fnT Q8 [] 100 Try.f24 [Ring, i64, i64] [Ring, i64] (r, n, s, ()))
  (.req ((8 = 8 ∧ 16 = 16) ∧ (↑r.2.1.2.2.length : Int) < (17592186044416 : Int)) (
 .fork (!Pl.mayR (tab 8 r.1 (0 : Int), r.2.1, tab 16 r.2.2 ((0 : Int), (0 : Int)))) (
  .leaf (((List.replicate 8 (0 : Int), ((0 : Int), (0 : Int), ([] : List Int)), List.replicate 16 ((0 : Int), (0 : Int))), (1 : Int), ()))) (
  .req (True) (
   .fork (!Pl.nodeB n) (
    .leaf (((List.replicate 8 (0 : Int), ((0 : Int), (0 : Int), ([] : List Int)), List.replicate 16 ((0 : Int), (0 : Int))), (1 : Int), ()))) (
    .fork (decide (s < (1 : Int))) (
     .leaf (((List.replicate 8 (0 : Int), ((0 : Int), (0 : Int), ([] : List Int)), List.replicate 16 ((0 : Int), (0 : Int))), (1 : Int), ()))) (
     .fork (decide (s > (4 : Int))) (
      .leaf (((List.replicate 8 (0 : Int), ((0 : Int), (0 : Int), ([] : List Int)), List.replicate 16 ((0 : Int), (0 : Int))), (1 : Int), ()))) (
      .req ((0 : Int) ≤ n ∧ n < (8 : Int)) (
       .req ((0 : Int) ≤ n ∧ n < (8 : Int)) (
        .fork (decide ((tab 8 r.1 (0 : Int)).getD n.toNat (0 : Int) ≥ s)) (
         .leaf (((List.replicate 8 (0 : Int), ((0 : Int), (0 : Int), ([] : List Int)), List.replicate 16 ((0 : Int), (0 : Int))), (8 : Int), ()))) (
         .req ((0 : Int) ≤ n ∧ n < (8 : Int)) (
          .req ((0 : Int) ≤ n ∧ n < (8 : Int)) (
           .req ((↑r.2.1.2.2.length : Int) < (17592186044416 : Int)) (
            .leaf (((tabL 8 fun j => bif decide (n = j) then s else r.1.getD j (0 : Int), r.2.1, tab 16 r.2.2 ((0 : Int), (0 : Int))), (0 : Int), ())))))))))))))) : Tree ((List Int × (Int × Int × List Int) × List (Int × Int)) × Int × PUnit)) := by kernel_rfl
end Pl
namespace Pl
open Go Sx Go.Proofs Go.RowKit
theorem tab_r {r : RingD} (h : okR r) : (tab 8 r.1 0, r.2.1, tab 16 r.2.2 (0, 0)) = r := by
  rw [tab_eq h.1, tab_eq h.2]
def belowR (a b : RingD) : Bool := sameR (joinR a b) b
theorem joinR_ok (a b : RingD) : okR (joinR a b) := ⟨tabL_len _ _, tabL_len _ _⟩
theorem joinP_small {p q : PlanD} {m : Int} (h : (p.2.2.length : Int) < m) (k : (q.2.2.length : Int) < m) : ((joinP p q).2.2.length : Int) < m := by
  unfold joinP; split <;> assumption
theorem below_t (a b : RingD) (h1 : okR a) (h2 : okR b) (h3 : (a.2.1.2.2.length : Int) < small) (h4 : (b.2.1.2.2.length : Int) < small) : (fnT Q7 [] 100 Try.f21 [Ring, Ring] [.bool] (a, b, ())).all fun y => y = (belowR a b, ()) := by
  rw [tB, tab_r h1, tab_r h2]
  simp only [Tree.all, true_and]
  refine ⟨⟨h3, h4⟩, fun y hy => ?_⟩
  subst hy
  dsimp only
  rw [tab_r (joinR_ok _ _)]
  exact ⟨⟨joinP_small h3 h4, h4⟩, rfl⟩
theorem rbelow_ok : PureOK Try.prog 21 [Ring, Ring] [.bool] S2r (fun x => (belowR x.1 x.2.1, ())) :=
  fn_pure (E := Q7) (n := 100) Q7_ok Try.func21 bodyB .nil fun x h => below_t x.1 x.2.1 h.1 h.2.1 h.2.2.1 h.2.2.2
def zeroR : RingD := (List.replicate 8 0, (0, 0, []), List.replicate 16 (0, 0))
def firstR (n : Int) : RingD × Bool := if nodeB n then (((List.replicate 8 (0 : Int)).set n.toNat 2, (0, 0, []), List.replicate 16 (1, n)), true) else (zeroR, false)
theorem nodeB_iff {n : Int} : nodeB n = true ↔ 0 ≤ n ∧ n < 8 := by simp [nodeB]
def riseR (r : RingD) (n s : Int) : RingD × Int :=
  if mayR r && (nodeB n && (!decide (s < 1) && !decide (s > 4))) then if decide (r.1.getD n.toNat 0 ≥ s) then (zeroR, 8) else ((r.1.set n.toNat s, r.2.1, r.2.2), 0) else (zeroR, 1)
abbrev S1rn : TDs [Ring, i64, i64] → Prop := fun x => okR x.1 ∧ (List.length (α := Int) x.1.2.1.2.2 : Int) < small
theorem rise_t (r : RingD) (n s : Int) (h1 : okR r) (h2 : (r.2.1.2.2.length : Int) < small) : (fnT Q8 [] 100 Try.f24 [Ring, i64, i64] [Ring, i64] (r, n, s, ())).all fun y => y = ((riseR r n s).1, (riseR r n s).2, ()) := by
  rw [tR]
  rw [tab_r h1, tab_eq h1.1]
  rw [tab_eq h1.2]
  simp only [Tree.all, true_and, Bool.not_eq_true', Bool.not_eq_false']
  refine ⟨h2, fun c => ?_, fun c => ⟨fun d => ?_, fun d => ⟨fun e => ?_, fun e => ⟨fun f => ?_, fun f => ?_⟩⟩⟩⟩
  · simp only [riseR, c]; rfl
  · simp only [riseR, c, d]; rfl
  · simp only [riseR, c, d, e]; rfl
  · simp only [riseR, c, d, e, f]; rfl
  · have hn := nodeB_iff.1 d
    refine ⟨hn, hn, fun g => ?_, fun g => ⟨hn, hn, h2, ?_⟩⟩
    · simp only [riseR, c, d, e, f, g]; rfl
    · rw [tabL_put h1.1 hn.1]
      simp only [riseR, c, d, e, f, g]; rfl
theorem rrise_ok : PureOK Try.prog 24 [Ring, i64, i64] [Ring, i64] S1rn (fun x => ((riseR x.1 x.2.1 x.2.2.1).1, (riseR x.1 x.2.1 x.2.2.1).2, ())) :=
  fn_pure (E := Q8) (n := 100) Q8_ok Try.func24 bodyR .nil fun x h => rise_t x.1 x.2.1 x.2.2.1 h.1 h.2
def ownerR (r : RingD) (p : Int) : Int :=
  if decide (p ≥ 0) && (decide (p < 16) && (!((r.2.2.getD p.toNat (0, 0)).1 == 0) && mayE (r.2.2.getD p.toNat (0, 0)))) then (r.2.2.getD p.toNat (0, 0)).2 else -1
abbrev S1p : TDs [Ring, i64] → Prop := fun x => okR x.1 ∧ (List.length (α := Int) x.1.2.1.2.2 : Int) < small
def targetR (r : RingD) (p : Int) : Int :=
  if decide (p ≥ 0) && (decide (p < 16) && (!((r.2.1.2.2.length : Int) == 0) && mayB r.2.1)) then r.2.1.2.2.getD p.toNat 0 else -1
theorem may_full {p : PlanD} (h : mayB p = true) (h0 : p.2.2.length ≠ 0) : fullB p.2.2 = true ∧ p.2.2.length = 16 := by
  have h1 : fullB p.2.2 = true := by
    unfold mayB at h
    rw [if_neg h0] at h
    simp only [Bool.and_eq_true] at h
    exact h.2
  refine ⟨h1, ?_⟩
  simp only [fullB, Bool.and_eq_true, decide_eq_true_eq] at h1
  exact h1.1
end Pl
namespace Pl
open Go Sx Go.Proofs Go.RowKit
def ofL (s : List Int) (f t : Int) : Nat → Nat → List Int
  | 0, _ => []
  | c + 1, j => if decide (s.getD j 0 ≥ f) && decide (s.getD j 0 ≤ t) then (j : Int) :: ofL s f t c (j + 1) else ofL s f t c (j + 1)
def mvB (r : RingD) (n p : Int) : Bool := nodeB n && (ownerR r p == n && (!(targetR r p == -1) && !(targetR r p == n)))
def mvL (r : RingD) (n : Int) : Nat → Nat → List Int
  | 0, _ => []
  | c + 1, j => if mvB r n j then (j : Int) :: mvL r n c (j + 1) else mvL r n c (j + 1)
structure AOf where
  r : RingD
  from' : Int
  to' : Int
  i0 : Int
  l1 : List Int
def LOf : LoopC AOf where
  n0 := 2
  det st := match (datA st 11 (.rep 8 i64)).map fun (s : List Int) => ((s, (0, 0, []), List.replicate 16 (0, 0)) : RingD), intS st 1, intS st 2, intS st 12, rowS st 7 i64 with | some r, some from', some to', some i0, some l1 => some ⟨r, from', to', i0, l1⟩ | _, _, _, _, _ => none
  rows := [(2, .slot 7)]
  inv a := ⟨[(12, iv a.i0), (11, Tv.agg (stC a.r)), (7, .one (.row 2)), (1, iv a.from'), (2, iv a.to')],
    [(2, .own i64 a.l1)], 3⟩
  ok a := okR a.r ∧ 0 ≤ a.i0 ∧ a.i0 ≤ 8 ∧ (a.l1.length : Int) ≤ a.i0
  mu a := 8 - a.i0.toNat
  fin a := .leaf ⟨2, ⟨[(7, .one (.row 2))], [(2, .own i64 (a.l1 ++ ofL a.r.1 a.from' a.to' (8 - a.i0.toNat) a.i0.toNat))], 3⟩⟩
structure AMv where
  r : RingD
  n : Int
  i0 : Int
  l1 : List Int
def LMv : LoopC AMv where
  n0 := 2
  det st := match datG st 1 0 Ring, intS st 1, intS st 8, rowS st 5 i64 with | some r, some n, some i0, some l1 => some ⟨r, n, i0, l1⟩ | _, _, _, _ => none
  rows := [(2, .slot 5)]
  inv a := ⟨[(8, iv a.i0), (5, .one (.row 2)), (2, .one (.ptr 1 0)), (1, iv a.n)],
    [(1, .blk (rgC a.r 0)), (0, .ro i64 a.r.2.1.2.2), (2, .own i64 a.l1)], 3⟩
  ok a := okR a.r ∧ (a.r.2.1.2.2.length : Int) < small ∧ 0 ≤ a.i0 ∧ a.i0 ≤ 16 ∧ (a.l1.length : Int) ≤ a.i0
  mu a := 16 - a.i0.toNat
  fin a := .leaf ⟨2, ⟨[(5, .one (.row 2))], [(2, .own i64 (a.l1 ++ mvL a.r a.n (16 - a.i0.toNat) a.i0.toNat))], 3⟩⟩
end Pl
namespace Pl
open Go Sx Go.Proofs Go.RowKit
theorem tab8_get {xs : List Int} {z : Int} (h : xs.length = 8) : tab 8 xs z = xs := tab_eq h
theorem wrapI {i m : Int} (h0 : 0 ≤ i) (h1 : i < m) (h2 : m ≤ 1000000) : IntKind.i64.wrap (i + 1) = i + 1 := IntWalk.i64_in _ (by omega)
def ofR (r : RingD) (f t : Int) : List Int := ofL r.1 f t 8 0
def moveR (r : RingD) (n : Int) : List Int := mvL r n 16 0
end Pl
namespace Pl
open Go Sx Go.Proofs Go.RowKit
theorem reads_okR {R : Nat → Prop} {w : World} {x : RingD} {cs : List Value} (h : ReadsC R w Ring x cs) : okR x := by
  obtain ⟨c1, c2, _, ⟨h1, _⟩, c3, c4, _, _, h2, _⟩ := h
  exact ⟨h1, h2⟩
abbrev rings : Ty := .slice Ring
def heavyR (r : RingD) : Bool := decide ((r.2.1.2.2.length : Int) > 100)
theorem bodyH : Try.f19.body = some (bodyOf Try.f19) := by kernel_rfl
abbrev KrB : Nat × Sx.Spec := (21, pureSp [Ring, Ring] [.bool] S2r (fun x => (belowR x.1 x.2.1, ())))
abbrev KrR : Nat × Sx.Spec := (24, pureSp [Ring, i64, i64] [Ring, i64] S1rn (fun x => ((riseR x.1 x.2.1 x.2.2.1).1, (riseR x.1 x.2.1 x.2.2.1).2, ())))
abbrev KrRL : Nat × Sx.Spec := (24, pureSpL [Ring, i64, i64] [Ring, i64] S1rn (fun x => ((riseR x.1 x.2.1 x.2.2.1).1, (riseR x.1 x.2.1 x.2.2.1).2, ())))
noncomputable abbrev KHv : Nat × Sx.Spec := (19, fnI E0 [] 100 Try.f19)
end Pl
namespace Pl
open Go Sx Go.Proofs Go.RowKit

theorem own_cap {w : World} {base e : Nat} {v : Value} {xs : List Int} (h : w.ownsRow base e 1 v xs.length (xs.map (Value.int .i64))) : v = .slice none 0 0 ∧ xs = [] ∨ ∃ g cap cur T, v = .slice (some ⟨g, 0, none⟩) xs.length cap ∧ base ≤ g ∧ w.heap[g]? = some (.cells cur T (0, 0)) ∧ xs.length ≤ cap ∧ cur.size = cap ∧ ∀ (i : Nat) (x : Int), xs[i]? = some x → cur[i]? = some (Value.int .i64 x) := by
  rcases h.2 with ⟨e0, e1⟩ | ⟨g, cap, cur, rfl, hb, hg, hn, _, hs, ht⟩
  · exact .inl ⟨e0, List.eq_nil_of_length_eq_zero e1⟩
  · refine .inr ⟨g, cap, cur, _, rfl, hb, hg, hn, by omega, fun i x hx => ?_⟩
    have hi : i < xs.length := (List.getElem?_eq_some_iff.1 hx).1
    have h2 : (cur.toList.take (xs.length * 1))[i]? = some (Value.int .i64 x) := by rw [ht]; simp [hx]
    rw [Nat.mul_one, List.getElem?_take_of_lt hi] at h2
    simpa using h2
theorem clone_fresh (Q : Nat → Prop) (w : World) (xs : List Int) (v : Value) (h : IntsV Q w xs v) (hbig : (xs.length : Int) < 17592186044416) :
    Calls Try.prog 40 #[v] w fun e w' => ∃ A cap, e = .returned (.slice A xs.length cap) ∧ xs.length ≤ cap ∧ Below w.heap.size w w' ∧
      ((A = none ∧ xs = [] ∧ cap = 0) ∨ ∃ b o cs T, A = some ⟨b, o, none⟩ ∧ w.heap.size ≤ b ∧ w'.heap[b]? = some (.cells cs T (0, 0)) ∧ o + cap * 1 ≤ cs.size ∧ ∀ (i : Nat) (x : Int), xs[i]? = some x → cs[o + i]? = some (Value.int .i64 x)) := by
  obtain ⟨A, cap, rfl, hcap, hrow⟩ := h
  have fin : ∀ (e : Ending) (w' : World) (v' : Value), e = .returned v' → w'.ownsRow w.heap.size 3 1 v' xs.length (xs.map (Value.int .i64)) → Below w.heap.size w w' →
      ∃ A cap, e = .returned (.slice A xs.length cap) ∧ xs.length ≤ cap ∧ Below w.heap.size w w' ∧
      ((A = none ∧ xs = [] ∧ cap = 0) ∨ ∃ b o cs T, A = some ⟨b, o, none⟩ ∧ w.heap.size ≤ b ∧ w'.heap[b]? = some (.cells cs T (0, 0)) ∧ o + cap * 1 ≤ cs.size ∧ ∀ (i : Nat) (x : Int), xs[i]? = some x → cs[o + i]? = some (Value.int .i64 x)) := by
    intro e w' v' he hown hb
    rcases own_cap hown with ⟨e1, e2⟩ | ⟨g, c, cur, T, e1, hg, hh, hc, hs, hx⟩
    · subst e2
      exact ⟨none, 0, by rw [he, e1]; rfl, Nat.le_refl _, hb, .inl ⟨rfl, rfl, rfl⟩⟩
    · exact ⟨some ⟨g, 0, none⟩, c, by rw [he, e1], hc, hb, .inr ⟨g, 0, cur, T, rfl, hg, hh, by omega, fun i x hi => by rw [Nat.zero_add]; exact hx i x hi⟩⟩
  cases A with
  | none =>
    refine (Any.slices_Clone_int_nil Try.laysClone _ cap w).mono ?_
    rintro e w' ⟨rfl, rfl⟩
    cases xs with
    | nil => exact fin _ _ _ rfl ⟨rfl, .inl ⟨rfl, rfl⟩⟩ (Below.refl _ _)
    | cons x t => obtain ⟨b, o, h, _⟩ := hrow 0 x rfl; cases h
  | some a =>
    cases hxs : xs with
    | nil =>
      subst hxs
      refine (Any.slices_Clone_int_zero Try.laysClone a cap w).mono ?_
      rintro e w' ⟨v', he, hown, _, hb⟩
      exact fin _ _ _ he hown hb
    | cons x t =>
      obtain ⟨b, o, h, _⟩ := hrow 0 x (by rw [hxs]; rfl)
      injection h with h; subst h
      rw [← hxs]
      refine (Any.slices_Clone_int Try.laysClone b o xs.length cap xs w (Nat.le_refl _) (by omega) ?_).mono ?_
      · intro j hj
        obtain ⟨b', o', h', _, hc⟩ := hrow j (xs.getD j 0) (by simp [List.getD_eq_getElem?_getD, List.getElem?_eq_getElem hj])
        injection h' with h'
        have hb' : b = b' := congrArg Addr.block h'
        have ho' : o = o' := congrArg Addr.off h'
        subst hb'; subst ho'
        exact hc
      · rintro e w' ⟨v', he, hown, _, hb⟩
        rw [List.take_of_length_le (Nat.le_refl _)] at hown
        exact fin _ _ _ he hown hb

theorem clone_fok : FreshOK Try.prog 40 [ints] (fun x => (List.length (α := Int) x.1 : Int) < 17592186044416) i64 (fun x => x.1) := by
  rintro R w ⟨xs, u⟩ args hR ⟨cs, r, e, hrd, er⟩ hpre
  obtain ⟨v, rfl, hv⟩ := ints_iff.1 hrd
  subst er; subst e
  refine (clone_fresh R w xs v hv hpre).mono ?_
  rintro e w' ⟨A, cap, h1, h2, h3, h4⟩
  refine ⟨A, cap, h1, h2, h3, ?_⟩
  rcases h4 with h | ⟨b, o, cs, T, k1, k2, k3, k4, k5⟩
  · exact .inl h
  · refine .inr ⟨b, o, cs, T, k1, k2, k3, k4, fun i x hx => ⟨[Value.int .i64 x], rfl, fun j hj => ?_, rfl⟩⟩
    have hj0 : j = 0 := by simp [Ty.size] at hj; omega
    subst hj0
    simpa [Ty.size] using k5 i x hx
end Pl
namespace Pl
open Go Sx Go.Proofs Go.RowKit
abbrev Call : Ty := .cat i64 (.cat i64 (.cat Ring (.cat ints (.int .u64))))
abbrev CallD : Type := Int × Int × RingD × List Int × Int
abbrev KClo : Nat × Sx.Spec := (40, ownSp [ints] [ints] (fun x => (List.length (α := Int) x.1 : Int) < 17592186044416) (fun x => (x.1, ())))
theorem gbI : Try.f62.body = some (bodyOf Try.f62) := by kernel_rfl
theorem gbC : Try.f44.body = some (bodyOf Try.f44) := by kernel_rfl
theorem gbN1 : Try.f43.body = some (bodyOf Try.f43) := by kernel_rfl
theorem gbF : Try.f61.body = some (bodyOf Try.f61) := by kernel_rfl
theorem gbB : Try.f41.body = some (bodyOf Try.f41) := by kernel_rfl
theorem gbD : Try.f42.body = some (bodyOf Try.f42) := by kernel_rfl
theorem gbS : Try.f45.body = some (bodyOf Try.f45) := by kernel_rfl
theorem gbn : Try.f25.body = some (bodyOf Try.f25) := by kernel_rfl
theorem gbNx : Try.f27.body = some (bodyOf Try.f27) := by kernel_rfl
theorem gbPN : Try.f26.body = some (bodyOf Try.f26) := by kernel_rfl
theorem gbK : Try.f16.body = some (bodyOf Try.f16) := by kernel_rfl
theorem gbNd : Try.f17.body = some (bodyOf Try.f17) := by kernel_rfl
theorem gbNw : Try.f10.body = some (bodyOf Try.f10) := by kernel_rfl
theorem gbT : Try.f12.body = some (bodyOf Try.f12) := by kernel_rfl
theorem gbH : Try.f14.body = some (bodyOf Try.f14) := by kernel_rfl
theorem gbFR : Try.f23.body = some (bodyOf Try.f23) := by kernel_rfl
noncomputable abbrev g0 : Ex := mkExM Try.prog [(62, fnI E0 [] 100 Try.f62)]
noncomputable abbrev g1 : Ex := mkExM Try.prog [(44, fnI g0 [] 100 Try.f44), KClo]
noncomputable abbrev g1b : Ex := mkExM Try.prog [(43, fnI g1 [] 100 Try.f43)]
noncomputable abbrev g1c : Ex := mkExM Try.prog [(43, fnI g1 [] 100 Try.f43), (61, fnI g1b [] 100 Try.f61)]
noncomputable abbrev g2 : Ex := mkExM Try.prog [(41, fnI g1 [] 100 Try.f41), (42, fnI g1c [] 100 Try.f42), (45, fnI g1 [] 100 Try.f45), (43, fnI g1 [] 100 Try.f43)]
noncomputable abbrev g3 : Ex := mkExM Try.prog [(25, fnI E0 [] 100 Try.f25), KrJL, KrB, KrM, KrS, (27, fnI g2 [] 100 Try.f27), (26, fnI E0 [] 100 Try.f26)]
noncomputable abbrev g4 : Ex := mkExM Try.prog [(25, fnI E0 [] 100 Try.f25), KrJL, KrB, KrM, KrS, (27, fnI g2 [] 100 Try.f27), (26, fnI E0 [] 100 Try.f26), (16, concD 1 0 8 (fnI g3 [] 100 Try.f16))]
noncomputable abbrev g6 : Ex := mkExM Try.prog [(17, fnI E0 [] 100 Try.f17)]
theorem g0_ok : g0.Sound := mkExM_sound ⟨fnI_ok (E := E0) E0_ok Try.func62 gbI .nil, trivial⟩
theorem bclo : PureOwnOK Try.prog 40 [ints] [ints] (fun x => (List.length (α := Int) x.1 : Int) < 17592186044416) (fun x => (x.1, ())) := clone_fok.own
theorem g1_ok : g1.Sound := mkExM_sound ⟨fnI_ok (E := g0) g0_ok Try.func44 gbC .nil, ownSp_ok bclo, trivial⟩
theorem g1b_ok : g1b.Sound := mkExM_sound ⟨fnI_ok (E := g1) g1_ok Try.func43 gbN1 .nil, trivial⟩
theorem g1c_ok : g1c.Sound := mkExM_sound ⟨fnI_ok (E := g1) g1_ok Try.func43 gbN1 .nil, fnI_ok (E := g1b) g1b_ok Try.func61 gbF .nil, trivial⟩
theorem g2_ok : g2.Sound := mkExM_sound ⟨fnI_ok (E := g1) g1_ok Try.func41 gbB .nil, fnI_ok (E := g1c) g1c_ok Try.func42 gbD .nil, fnI_ok (E := g1) g1_ok Try.func45 gbS .nil, fnI_ok (E := g1) g1_ok Try.func43 gbN1 .nil, trivial⟩
theorem g3_ok : g3.Sound := mkExM_sound ⟨fnI_ok (E := E0) E0_ok Try.func25 gbn .nil, pureSpL_ok rjoin_ok, pureSp_ok rbelow_ok, pureSp_ok rmay_ok, pureSp_ok rsame_ok, fnI_ok (E := g2) g2_ok Try.func27 gbNx .nil, fnI_ok (E := E0) E0_ok Try.func26 gbPN .nil, trivial⟩
theorem gkn_ok : SpecOK Try.prog 16 (concD 1 0 8 (fnI g3 [] 100 Try.f16)) := concD_ok (fnI_ok (E := g3) g3_ok Try.func16 gbK .nil)
theorem g4_ok : g4.Sound := mkExM_sound ⟨fnI_ok (E := E0) E0_ok Try.func25 gbn .nil, pureSpL_ok rjoin_ok, pureSp_ok rbelow_ok, pureSp_ok rmay_ok, pureSp_ok rsame_ok, fnI_ok (E := g2) g2_ok Try.func27 gbNx .nil, fnI_ok (E := E0) E0_ok Try.func26 gbPN .nil, gkn_ok, trivial⟩
theorem ghe_ok : SpecOK Try.prog 14 (concD 1 0 8 (fnI g4 [] 100 Try.f14)) := concD_ok (fnI_ok (E := g4) g4_ok Try.func14 gbH .nil)
theorem g6_ok : g6.Sound := mkExM_sound ⟨fnI_ok (E := E0) E0_ok Try.func17 gbNd .nil, trivial⟩
end Pl
namespace Pl
open Go Sx Go.Proofs Go.RowKit
def idxF (v : Int) : List Int → Int → Int
  | [], _ => -1
  | x :: r, i => if x = v then i else idxF v r (i + 1)
def atL (l : List Int) (i : Int) : Int := if i < (l.length : Int) then l.getD i.toNat 0 else -1
theorem bodyIx : Try.f62.body = some (bodyOf Try.f62) := by kernel_rfl
theorem bodyCt : Try.f44.body = some (bodyOf Try.f44) := by kernel_rfl
structure AIx where
  l : List Int
  v : Int
  i0 : Int
def LIx : LoopC AIx where
  n0 := 1
  det st := match rowS st 0 i64, intS st 1, intS st 8 with | some l, some v, some i0 => some ⟨l, v, i0⟩ | _, _, _ => none
  inv a := ⟨[(8, iv a.i0), (7, iv (↑a.l.length : Int)), (0, .one (.row 0)), (1, iv a.v)],
    [(0, .ro i64 a.l)], 1⟩
  ok a := 0 ≤ a.i0 ∧ a.i0 ≤ a.l.length ∧ (a.l.length : Int) < big
  mu a := a.l.length - a.i0.toNat
  fin a := .fork ((a.l.drop a.i0.toNat).contains a.v) (.leaf ⟨1, ⟨[(4, iv (idxF a.v (a.l.drop a.i0.toNat) a.i0))], [], 1⟩⟩) (.leaf ⟨2, ⟨[], [], 1⟩⟩)
structure AHs where
  l : List Int
  v : Int
  i0 : Int
  i1 : Int
def LHs : LoopC AHs where
  n0 := 1
  det st := match rowS st 0 i64, intS st 1, intS st 7, intS st 5 with | some l, some v, some i0, some i1 => some ⟨l, v, i0, i1⟩ | _, _, _, _ => none
  inv a := ⟨[(7, iv a.i0), (5, iv a.i1), (0, .one (.row 0)), (1, iv a.v)],
    [(0, .ro i64 a.l)], 1⟩
  ok a := 0 ≤ a.i0 ∧ a.i0 ≤ 16 ∧ 0 ≤ a.i1 ∧ a.i1 ≤ a.i0
  mu a := 16 - a.i0.toNat
  fin a := .leaf ⟨2, ⟨[(5, iv (a.i1 + cntB (fun p => atL a.l (p : Int) == a.v) (16 - a.i0.toNat) a.i0.toNat))], [], 1⟩⟩
structure AMe where
  l : List Int
  i0 : Int
  l1 : List Int
def LMe : LoopC AMe where
  n0 := 1
  det st := match rowS st 0 i64, intS st 5, rowS st 3 i64 with | some l, some i0, some l1 => some ⟨l, i0, l1⟩ | _, _, _ => none
  rows := [(1, .slot 3)]
  inv a := ⟨[(5, iv a.i0), (3, .one (.row 1)), (0, .one (.row 0))],
    [(0, .ro i64 a.l), (1, .own i64 a.l1)], 2⟩
  ok a := 0 ≤ a.i0 ∧ a.i0 ≤ 8 ∧ (a.l1.length : Int) ≤ a.i0 ∧ (a.l.length : Int) < big
  mu a := 8 - a.i0.toNat
  fin a := .leaf ⟨2, ⟨[(3, .one (.row 1))], [(1, .own i64 (a.l1 ++ fltB (fun n => a.l.contains (n : Int)) (8 - a.i0.toNat) a.i0.toNat))], 2⟩⟩
structure AMo where
  l : List Int
  m : List Int
  i0 : Int
  i1 : Int
def LMo : LoopC AMo where
  n0 := 2
  det st := match rowS st 0 i64, rowS st 1 i64, intS st 7, intS st 5 with | some l, some m, some i0, some i1 => some ⟨l, m, i0, i1⟩ | _, _, _, _ => none
  inv a := ⟨[(7, iv a.i0), (5, iv a.i1), (0, .one (.row 0)), (1, .one (.row 1))],
    [(0, .ro i64 a.l), (1, .ro i64 a.m)], 2⟩
  ok a := 0 ≤ a.i0 ∧ a.i0 ≤ 16 ∧ 0 ≤ a.i1 ∧ a.i1 ≤ a.i0
  mu a := 16 - a.i0.toNat
  fin a := .leaf ⟨2, ⟨[(5, iv (a.i1 + cntB (fun p => !(atL a.l (p : Int) == atL a.m (p : Int))) (16 - a.i0.toNat) a.i0.toNat))], [], 2⟩⟩
theorem rIx (l : List Int) (v i0 : Int) : @Eq _
  (LIx.round E0 [] 100 Try.f62 0 ⟨l, v, i0⟩)
  (.fork (decide (i0 < (↑l.length : Int))) (
 .req ((0 : Int) ≤ i0 ∧ i0 < (↑l.length : Int)) (
  .req ((0 : Int) ≤ i0 ∧ i0 < (↑l.length : Int)) (
   .fork (v == l.getD i0.toNat (0 : Int)) (
    .fork ((List.drop i0.toNat l).contains v) (
     .req (i0 = Pl.idxF v (List.drop i0.toNat l) i0) (
      .leaf (Option.none))) (
     .req (False) (
      .leaf (Option.none)))) (
    .req (IntKind.i64.wrap (i0 + (1 : Int)) = IntKind.i64.wrap (i0 + (1 : Int)) ∧ (↑l.length : Int) = (↑l.length : Int) ∧ v = v ∧ l = l) (
     .leaf (Option.some { l := l, v := v, i0 := IntKind.i64.wrap (i0 + (1 : Int)) })))))) (
 .fork ((List.drop i0.toNat l).contains v) (
  .req (False) (
   .leaf (Option.none))) (
  .req (True) (
   .leaf (Option.none)))) : Tree (Option Pl.AIx)) := by kernel_rfl
theorem tIx (l : List Int) (v : Int) : @Eq _
  (fnT E0 [(0, LIx.sp)] 100 Try.f62 [ints, i64] [i64] (l, v, ()))
  (.req ((0 : Int) ≤ (0 : Int) ∧ (0 : Int) ≤ (↑l.length : Int) ∧ (↑l.length : Int) < (4611686018427387904 : Int)) (
 .req ((0 : Int) = (0 : Int) ∧ (↑l.length : Int) = (↑l.length : Int) ∧ v = v ∧ l = l) (
  .fork (l.contains v) (
   .leaf ((Pl.idxF v l (0 : Int), ()))) (
   .leaf (((-1 : Int), ()))))) : Tree (Int × PUnit)) := by kernel_rfl
end Pl
