import Derived.Test.YtmmoifibhhkohaaSx23
import Derived.Test.YtmmoifibhhkohaaProg
import Derived.IntWalk
namespace Pl
open Go Sx Go.Proofs
abbrev i64 : Ty := .int .i64
abbrev ints : Ty := .slice i64
abbrev Plan : Ty := .cat i64 (.cat i64 ints)
abbrev iv (n : Int) : Tv := .one (.int .i64 n)
abbrev bv (n : Bool) : Tv := .one (.bool n)
abbrev cv (n : Bool) : Tv := .one (.cbool n)
noncomputable abbrev E0 : Ex := mkEx Try.prog []
theorem E0_ok : E0.Sound := mkEx_sound trivial
abbrev big : Int := 4611686018427387904
def intAt (slots : List (Nat × Tv)) (s : Nat) : Option Int := match Sx.look slots s with | some (.one (.cint _ i)) => some i | some (.one (.int _ i)) => some i | _ => none

theorem getD_lt {l : List Int} {i : Int} (h0 : 0 ≤ i) (h1 : i < l.length) : l.drop i.toNat = l.getD i.toNat 0 :: l.drop (i.toNat + 1) := by
  have hi : i.toNat < l.length := by omega
  rw [List.drop_eq_getElem_cons hi]
  simp [List.getD_eq_getElem?_getD, hi]

theorem wrap1 {i : Int} (h0 : 0 ≤ i) (h1 : i < big) : IntKind.i64.wrap (i + 1) = i + 1 := by
  unfold big at h1
  exact IntWalk.i64_in _ (by omega)

structure A11 where
  v : Int
  b : Int
  v' : Int
  b' : Int
  l : List Int
  l' : List Int
  i : Int

def L11 : LoopC A11 where
  n0 := 4
  det st := match Sx.look st.gh 2, Sx.look st.gh 3, Sx.look st.gh 0, Sx.look st.gh 1, intAt st.slots 30 with
    | some (.blk [.int _ v, .int _ b, _]), some (.blk [.int _ v', .int _ b', _]), some (.ro (.int .i64) l), some (.ro (.int .i64) l'), some i => some ⟨v, b, v', b', l, l', i⟩
    | _, _, _, _, _ => none
  inv a := ⟨[(30, iv a.i), (29, iv a.l.length), (2, .one (.ptr 2 0)), (3, .one (.ptr 3 0))],
    [(3, .blk [.int .i64 a.v', .int .i64 a.b', .row 1]), (2, .blk [.int .i64 a.v, .int .i64 a.b, .row 0]), (0, .ro i64 a.l), (1, .ro i64 a.l')], 4⟩
  ok a := a.l.length = a.l'.length ∧ 0 ≤ a.i ∧ a.i ≤ a.l.length ∧ (a.l.length : Int) < big
  mu a := a.l.length - a.i.toNat
  fin a := .fork (decide (a.l.drop a.i.toNat = a.l'.drop a.i.toNat)) (.leaf ⟨2, ⟨[], [], 4⟩⟩) (.leaf ⟨1, ⟨[(4, cv false)], [], 4⟩⟩)

theorem r11 (v b v' b' : Int) (l l' : List Int) (i : Int) :
  L11.round E0 [] 100 Try.f11 0 ⟨v, b, v', b', l, l', i⟩ =
.fork (decide (i < (↑l.length : Int))) (
 .req ((0 : Int) ≤ i ∧ i < (↑l.length : Int)) (
  .req ((0 : Int) ≤ i ∧ i < (↑l.length : Int)) (
   .req ((0 : Int) ≤ i ∧ i < (↑l'.length : Int)) (
    .req ((0 : Int) ≤ i ∧ i < (↑l'.length : Int)) (
     .fork (l.getD i.toNat (0 : Int) != l'.getD i.toNat (0 : Int)) (
      .fork (decide (List.drop i.toNat l = List.drop i.toNat l')) (
       .req (False) (
        .leaf (Option.none))) (
       .req (True) (
        .leaf (Option.none)))) (
      .req (IntKind.i64.wrap (i + (1 : Int)) = IntKind.i64.wrap (i + (1 : Int)) ∧ (↑l.length : Int) = (↑l.length : Int) ∧ v' = v' ∧ b' = b' ∧ v = v ∧ b = b ∧ l = l ∧ l' = l') (
       .leaf (Option.some { v := v, b := b, v' := v', b' := b', l := l, l' := l', i := IntKind.i64.wrap (i + (1 : Int)) })))))))) (
 .fork (decide (List.drop i.toNat l = List.drop i.toNat l')) (
  .req (True) (
   .leaf (Option.none))) (
  .req (False) (
   .leaf (Option.none)))) := by kernel_rfl
theorem t11 (v b v' b' : Int) (l l' : List Int) :
  fnT E0 [(0, L11.sp)] 100 Try.f11 [Plan, Plan] [.bool] ((v, b, l), (v', b', l'), ()) =
.fork (v != v') (
 .leaf ((false, ()))) (
 .fork (b != b') (
  .leaf ((false, ()))) (
  .fork ((↑l.length : Int) != (↑l'.length : Int)) (
   .leaf ((false, ()))) (
   .req (l.length = l'.length ∧ (0 : Int) ≤ (0 : Int) ∧ (0 : Int) ≤ (↑l.length : Int) ∧ (↑l.length : Int) < (4611686018427387904 : Int)) (
    .req ((0 : Int) = (0 : Int) ∧ (↑l.length : Int) = (↑l.length : Int) ∧ v' = v' ∧ b' = b' ∧ v = v ∧ b = b ∧ l = l ∧ l' = l') (
     .fork (decide (l = l')) (
      .leaf ((true, ()))) (
      .leaf ((false, ())))))))) := by kernel_rfl

theorem l11 : LpsOK Try.prog Try.f11 [(0, L11.sp)] := by
  refine .cons (L11.sound E0_ok (lps := []) (n := 100) (inner rfl) (fun _ => rfl) ?_) .nil
  rintro ⟨v, b, v', b', l, l', i⟩ ⟨h1, h2, h3, h4⟩
  simp only at h1 h2 h3 h4
  rw [r11]
  simp only [Tree.all, decide_eq_true_eq, decide_eq_false_iff_not, bne_iff_ne, ne_eq, bne_eq_false_iff_eq]
  refine ⟨fun c => ⟨by omega, by omega, by omega, by omega, fun d => ⟨fun e => ?_, fun _ => ⟨trivial, trivial⟩⟩, fun d => ⟨by simp, ?_⟩⟩, fun c => ⟨fun _ => ⟨trivial, trivial⟩, fun d => ?_⟩⟩
  · exfalso
    rw [getD_lt h2 c, getD_lt h2 (h1 ▸ c)] at e
    injection e with e _
    exact d e
  · rw [wrap1 h2 (by omega)]
    refine ⟨⟨h1, by dsimp only; omega, by dsimp only; omega, h4⟩, by simp only [L11]; omega, ?_⟩
    simp only [L11]
    rw [getD_lt h2 c, getD_lt h2 (h1 ▸ c), d, show (i + 1).toNat = i.toNat + 1 by omega]
    simp
  · exact (d (by rw [List.drop_eq_nil_of_le (by omega), List.drop_eq_nil_of_le (by omega)])).elim

abbrev PlanD : Type := Int × Int × List Int
def sameF (a b : PlanD) : Bool := decide (a = b)
abbrev pre11 : TDs [Plan, Plan] → Prop := fun x => (List.length (α := Int) x.1.2.2 : Int) < big
abbrev F11 : TDs [Plan, Plan] → TDs [.bool] := fun x => (sameF x.1 x.2.1, ())
theorem body11 : Try.f11.body = some (bodyOf Try.f11) := by kernel_rfl
theorem same_t (v b v' b' : Int) (l l' : List Int) (h : (l.length : Int) < big) : (fnT E0 [(0, L11.sp)] 100 Try.f11 [Plan, Plan] [.bool] ((v, b, l), (v', b', l'), ())).all fun y => y = (sameF (v, b, l) (v', b', l'), ()) := by
  rw [t11]
  simp only [Tree.all, decide_eq_true_eq, decide_eq_false_iff_not, bne_iff_ne, ne_eq, bne_eq_false_iff_eq]
  refine ⟨fun c => ?_, fun c => ⟨fun d => ?_, fun d => ⟨fun e => ?_, fun e => ⟨⟨by omega, by omega, by omega, h⟩, by simp, fun g => ?_, fun g => ?_⟩⟩⟩⟩
  · simp [sameF, c]; rfl
  · simp [sameF, d]; rfl
  · have : l ≠ l' := fun h => e (by rw [h])
    simp [sameF, this]; rfl
  · simp [sameF, c, d, g]; rfl
  · simp [sameF, g]; rfl
theorem same_ok : PureOK Try.prog 11 [Plan, Plan] [.bool] pre11 F11 :=
  fn_pure (E := E0) (n := 100) E0_ok Try.func11 body11 l11 fun x h => same_t x.1.1 x.1.2.1 x.2.1.1 x.2.1.2.1 x.1.2.2 x.2.1.2.2 h
end Pl
