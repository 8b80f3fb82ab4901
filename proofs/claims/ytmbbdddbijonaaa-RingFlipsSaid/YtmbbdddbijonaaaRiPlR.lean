import Derived.Test.YtmbbdddbijonaaaRiPlO
namespace Pl.Rf
open Pl Go Sx Go.Proofs Go.RowKit

theorem body26 : Try.f43.body = some (bodyOf Try.f43) := by kernel_rfl
theorem body27 : Try.f44.body = some (bodyOf Try.f44) := by kernel_rfl
theorem body28 : Try.f42.body = some (bodyOf Try.f42) := by kernel_rfl
theorem body16 : Try.f34.body = some (bodyOf Try.f34) := by kernel_rfl
theorem body17 : Try.f29.body = some (bodyOf Try.f29) := by kernel_rfl
theorem t26 (x : Int) :
  fnT E0 [] 100 Try.f43 [i64] [.bool] (x, ()) =
.fork (decide (x ≥ (0 : Int))) (
 .leaf ((decide (x < (8 : Int)), ()))) (
 .leaf ((false, ()))) := by kernel_rfl
theorem rnode_ok : PureOK Try.prog 43 [i64] [.bool] (fun _ => True) (fun x => (nodeB x.1, ())) :=
  fn_pure (E := E0) (n := 100) E0_ok Try.func43 body26 .nil fun x _ => by
    refine Tree.all_eq (t26 x.1) ?_
    simp only [Tree.all, decide_eq_true_eq, decide_eq_false_iff_not, nodeB]
    exact ⟨fun c => by simp [c], fun c => by simp [c]⟩
noncomputable abbrev F1 : Ex := mkEx Try.prog [(43, pureSp [i64] [.bool] (fun _ => True) (fun x => (nodeB x.1, ())))]
theorem F1_ok : F1.Sound := mkEx_sound ⟨pureSp_ok rnode_ok, trivial⟩
structure A27 where
  l : List Int
  i : Int
def L27 : LoopC A27 where
  n0 := 1
  det st := match Sx.look st.gh 0, intAt st.slots 7 with
    | some (.ro (.int .i64) l), some i => some ⟨l, i⟩
    | _, _ => none
  inv a := ⟨[(7, iv a.i), (6, iv a.l.length), (5, .one (.row 0)), (0, .one (.row 0))], [(0, .ro i64 a.l)], 1⟩
  ok a := 0 ≤ a.i ∧ a.i ≤ a.l.length ∧ (a.l.length : Int) < big
  mu a := a.l.length - a.i.toNat
  fin a := .fork (allN (a.l.drop a.i.toNat)) (.leaf ⟨2, ⟨[(0, .one (.row 0))], [(0, .ro i64 a.l)], 1⟩⟩) (.leaf ⟨1, ⟨[(2, cv false)], [], 1⟩⟩)
theorem r27 (l : List Int) (i : Int) :
  L27.round F1 [] 100 Try.f44 0 ⟨l, i⟩ =
.fork (decide (i < (↑l.length : Int))) (
 .req ((0 : Int) ≤ i ∧ i < (↑l.length : Int)) (
  .req ((0 : Int) ≤ i ∧ i < (↑l.length : Int)) (
   .req (True) (
    .fork (!Pl.nodeB (l.getD i.toNat (0 : Int))) (
     .fork (Pl.allN (List.drop i.toNat l)) (
      .req (False) (
       .leaf (Option.none))) (
      .req (True) (
       .leaf (Option.none)))) (
     .req (IntKind.i64.wrap (i + (1 : Int)) = IntKind.i64.wrap (i + (1 : Int)) ∧ (↑l.length : Int) = (↑l.length : Int) ∧ l = l) (
      .leaf (Option.some { l := l, i := IntKind.i64.wrap (i + (1 : Int)) }))))))) (
 .fork (Pl.allN (List.drop i.toNat l)) (
  .req (l = l) (
   .leaf (Option.none))) (
  .req (False) (
   .leaf (Option.none)))) := by kernel_rfl
theorem t27 (l : List Int) :
  fnT F1 [(0, L27.sp)] 100 Try.f44 [ints] [.bool] (l, ()) =
.req ((0 : Int) ≤ (0 : Int) ∧ (0 : Int) ≤ (↑l.length : Int) ∧ (↑l.length : Int) < (4611686018427387904 : Int)) (
 .req ((0 : Int) = (0 : Int) ∧ (↑l.length : Int) = (↑l.length : Int) ∧ l = l) (
  .fork (Pl.allN l) (
   .leaf (((↑l.length : Int) == (16 : Int), ()))) (
   .leaf ((false, ()))))) := by kernel_rfl
theorem t28 (x y : Int) :
  fnT E0 [] 100 Try.f42 [i64, i64] [i64] (x, y, ()) =
.fork (decide (x < y)) (
 .leaf (((-1 : Int), ()))) (
 .fork (decide (x > y)) (
  .leaf (((1 : Int), ()))) (
  .leaf (((0 : Int), ())))) := by kernel_rfl
theorem l27 : LpsOK Try.prog Try.f44 [(0, L27.sp)] := by
  refine .cons (L27.sound F1_ok (lps := []) (n := 100) (inner rfl) (fun _ => rfl) ?_) .nil
  rintro ⟨l, i⟩ ⟨h1, h2, h3⟩
  simp only at h1 h2 h3
  rw [r27]
  simp only [Tree.all, decide_eq_true_eq, decide_eq_false_iff_not, Bool.not_eq_true', Bool.not_eq_false']
  refine ⟨fun c => ?_, fun c => ?_⟩
  · obtain ⟨x, r, e1, e2, e3⟩ := cut h1 c
    rw [e1, e2]
    refine ⟨⟨h1, c⟩, ⟨h1, c⟩, trivial, fun d => ?_, fun d => ⟨by simp, ?_⟩⟩
    · simp [allN, d, LoopC.Next]
    · rw [wrap1 h1 (by omega)]
      exact ⟨⟨by dsimp only; omega, by dsimp only; omega, h3⟩, by simp only [L27]; omega, by simp only [L27]; rw [e2, e3]; simp [allN, d]⟩
  · rw [ends c]; simp [allN, LoopC.Next]
theorem nodes_ok : PureOK Try.prog 44 [ints] [.bool] (fun x => (List.length (α := Int) x.1 : Int) < big) (fun x => (fullB x.1, ())) :=
  fn_pure (E := F1) (n := 100) F1_ok Try.func44 body27 l27 fun x h => by
    obtain ⟨l, _⟩ : List Int × Unit := x
    have h : (l.length : Int) < big := h
    refine Tree.all_eq (t27 l) ?_
    show Tree.all _ fun y => y = (fullB l, ())
    refine ⟨⟨by omega, by omega, h⟩, ⟨rfl, rfl, rfl⟩, fun c => ?_, fun c => ?_⟩
    · have : ((l.length : Int) == 16) = decide (l.length = 16) := by
        by_cases h : l.length = 16
        · simp [h]
        · have : ¬ (l.length : Int) = 16 := by omega
          simp [h, this]
      rw [this, fullB, c, Bool.and_true]; rfl
    · rw [fullB, c, Bool.and_false]; rfl
theorem rcmp_ok : PureOK Try.prog 42 [i64, i64] [i64] (fun _ => True) (fun x => (cmpI x.1 x.2.1, ())) :=
  fn_pure (E := E0) (n := 100) E0_ok Try.func42 body28 .nil fun x _ => by
    obtain ⟨a, b, _⟩ : Int × Int × Unit := x
    refine Tree.all_eq (t28 a b) ?_
    show Tree.all _ fun y => y = (cmpI a b, ())
    simp only [Tree.all, decide_eq_true_eq, decide_eq_false_iff_not, cmpI]
    refine ⟨fun c => ?_, fun c => ⟨fun d => ?_, fun d => ?_⟩⟩
    · simp [c]
    · simp [c, show b < a from d]
    · simp [c, show ¬ b < a from d]
noncomputable abbrev F2 : Ex := mkEx Try.prog [(43, pureSp [i64] [.bool] (fun _ => True) (fun x => (nodeB x.1, ()))), (44, pureSp [ints] [.bool] (fun x => (List.length (α := Int) x.1 : Int) < big) (fun x => (fullB x.1, ()))),
  (42, pureSp [i64, i64] [i64] (fun _ => True) (fun x => (cmpI x.1 x.2.1, ())))]
theorem F2_ok : F2.Sound := mkEx_sound ⟨pureSp_ok rnode_ok, pureSp_ok nodes_ok, pureSp_ok rcmp_ok, trivial⟩
theorem t16 (v b : Int) (l : List Int) :
  fnT F2 [] 100 Try.f34 [Plan] [.bool] ((v, b, l), ()) =
.fork (v == (0 : Int)) (
 .fork (b == (0 : Int)) (
  .fork ((↑l.length : Int) == (0 : Int)) (
   .leaf ((true, ()))) (
   .fork (decide (v ≥ (1 : Int))) (
    .fork (decide (v ≤ (1000000 : Int))) (
     .req (True) (
      .fork (Pl.nodeB b) (
       .req ((↑l.length : Int) < (4611686018427387904 : Int)) (
        .leaf ((Pl.fullB l, ())))) (
       .leaf ((false, ()))))) (
     .leaf ((false, ())))) (
    .leaf ((false, ()))))) (
  .fork (decide (v ≥ (1 : Int))) (
   .fork (decide (v ≤ (1000000 : Int))) (
    .req (True) (
     .fork (Pl.nodeB b) (
      .req ((↑l.length : Int) < (4611686018427387904 : Int)) (
       .leaf ((Pl.fullB l, ())))) (
      .leaf ((false, ()))))) (
    .leaf ((false, ())))) (
   .leaf ((false, ()))))) (
 .fork (decide (v ≥ (1 : Int))) (
  .fork (decide (v ≤ (1000000 : Int))) (
   .req (True) (
    .fork (Pl.nodeB b) (
     .req ((↑l.length : Int) < (4611686018427387904 : Int)) (
      .leaf ((Pl.fullB l, ())))) (
     .leaf ((false, ()))))) (
   .leaf ((false, ())))) (
  .leaf ((false, ())))) := by kernel_rfl
structure A17 where
  v : Int
  b : Int
  v' : Int
  b' : Int
  l : List Int
  l' : List Int
  i : Int
def L17 : LoopC A17 where
  n0 := 4
  det st := match Sx.look st.gh 2, Sx.look st.gh 3, Sx.look st.gh 0, Sx.look st.gh 1, intAt st.slots 43 with
    | some (.blk [.int _ v, .int _ b, _]), some (.blk [.int _ v', .int _ b', _]), some (.ro (.int .i64) l), some (.ro (.int .i64) l'), some i => some ⟨v, b, v', b', l, l', i⟩
    | _, _, _, _, _ => none
  inv a := ⟨[(43, iv a.i), (42, iv a.l.length), (2, .one (.ptr 2 0)), (3, .one (.ptr 3 0))],
    [(3, .blk [.int .i64 a.v', .int .i64 a.b', .row 1]), (2, .blk [.int .i64 a.v, .int .i64 a.b, .row 0]), (0, .ro i64 a.l), (1, .ro i64 a.l')], 4⟩
  ok a := a.l.length = a.l'.length ∧ 0 ≤ a.i ∧ a.i ≤ a.l.length ∧ (a.l.length : Int) < big
  mu a := a.l.length - a.i.toNat
  fin a := .fork (decide (cmpL (a.l.drop a.i.toNat) (a.l'.drop a.i.toNat) = 0)) (.leaf ⟨2, ⟨[], [], 4⟩⟩) (.leaf ⟨1, ⟨[(4, iv (cmpL (a.l.drop a.i.toNat) (a.l'.drop a.i.toNat)))], [], 4⟩⟩)
theorem r17 (v b v' b' : Int) (l l' : List Int) (i : Int) :
  L17.round F2 [] 100 Try.f29 0 ⟨v, b, v', b', l, l', i⟩ =
.fork (decide (i < (↑l.length : Int))) (
 .req ((0 : Int) ≤ i ∧ i < (↑l.length : Int)) (
  .req ((0 : Int) ≤ i ∧ i < (↑l.length : Int)) (
   .req ((0 : Int) ≤ i ∧ i < (↑l'.length : Int)) (
    .req ((0 : Int) ≤ i ∧ i < (↑l'.length : Int)) (
     .fork (l.getD i.toNat (0 : Int) != l'.getD i.toNat (0 : Int)) (
      .req ((0 : Int) ≤ i ∧ i < (↑l.length : Int)) (
       .req ((0 : Int) ≤ i ∧ i < (↑l.length : Int)) (
        .req ((0 : Int) ≤ i ∧ i < (↑l'.length : Int)) (
         .req ((0 : Int) ≤ i ∧ i < (↑l'.length : Int)) (
          .req (True) (
           .fork (decide (Pl.cmpL (List.drop i.toNat l) (List.drop i.toNat l') = (0 : Int))) (
            .req (False) (
             .leaf (Option.none))) (
            .req (Pl.cmpI (l.getD i.toNat (0 : Int)) (l'.getD i.toNat (0 : Int)) = Pl.cmpL (List.drop i.toNat l) (List.drop i.toNat l')) (
             .leaf (Option.none))))))))) (
      .req (IntKind.i64.wrap (i + (1 : Int)) = IntKind.i64.wrap (i + (1 : Int)) ∧ (↑l.length : Int) = (↑l.length : Int) ∧ v' = v' ∧ b' = b' ∧ v = v ∧ b = b ∧ l = l ∧ l' = l') (
       .leaf (Option.some { v := v, b := b, v' := v', b' := b', l := l, l' := l', i := IntKind.i64.wrap (i + (1 : Int)) })))))))) (
 .fork (decide (Pl.cmpL (List.drop i.toNat l) (List.drop i.toNat l') = (0 : Int))) (
  .req (True) (
   .leaf (Option.none))) (
  .req (False) (
   .leaf (Option.none)))) := by kernel_rfl
theorem t17 (v b v' b' : Int) (l l' : List Int) :
  fnT F2 [(0, L17.sp)] 100 Try.f29 [Plan, Plan] [i64] ((v, b, l), (v', b', l'), ()) =
.fork (v != v') (
 .req (True) (
  .leaf ((Pl.cmpI v v', ())))) (
 .fork (b != b') (
  .req (True) (
   .leaf ((Pl.cmpI b b', ())))) (
  .fork ((↑l.length : Int) != (↑l'.length : Int)) (
   .req (True) (
    .leaf ((Pl.cmpI (↑l.length : Int) (↑l'.length : Int), ())))) (
   .req (l.length = l'.length ∧ (0 : Int) ≤ (0 : Int) ∧ (0 : Int) ≤ (↑l.length : Int) ∧ (↑l.length : Int) < (4611686018427387904 : Int)) (
    .req ((0 : Int) = (0 : Int) ∧ (↑l.length : Int) = (↑l.length : Int) ∧ v' = v' ∧ b' = b' ∧ v = v ∧ b = b ∧ l = l ∧ l' = l') (
     .fork (decide (Pl.cmpL l l' = (0 : Int))) (
      .leaf (((0 : Int), ()))) (
      .leaf ((Pl.cmpL l l', ())))))))) := by kernel_rfl
theorem rmay_ok : PureOK Try.prog 34 [Plan] [.bool] (fun x => (List.length (α := Int) x.1.2.2 : Int) < big) (fun x => (mayB x.1, ())) :=
  fn_pure (E := F2) (n := 100) F2_ok Try.func34 body16 .nil fun x h => by
    obtain ⟨⟨v, b, l⟩, _⟩ : PlanD × Unit := x
    have h : (l.length : Int) < big := h
    refine Tree.all_eq (t16 v b l) ?_
    show Tree.all _ fun y => y = (mayB (v, b, l), ())
    have g0 : l.length = 0 → fullB l = false := fun e => by simp [fullB, e]
    simp only [Tree.all, beq_iff_eq, beq_eq_false_iff_ne, ne_eq, decide_eq_true_eq, decide_eq_false_iff_not, h, true_and]
    have fin : ∀ r : Bool, (r = mayB (v, b, l)) → ((r, ()) : TDs [.bool]) = (mayB (v, b, l), ()) := fun r e => by rw [e]
    refine ⟨fun c => ⟨fun d => ⟨fun e => fin _ ?_, fun e => ⟨fun f => ⟨fun g => ⟨fun k => fin _ ?_, fun k => fin _ ?_⟩, fun g => fin _ ?_⟩, fun f => fin _ ?_⟩⟩, fun d => ⟨fun f => ⟨fun g => ⟨fun k => fin _ ?_, fun k => fin _ ?_⟩, fun g => fin _ ?_⟩, fun f => fin _ ?_⟩⟩,
      fun c => ⟨fun f => ⟨fun g => ⟨fun k => fin _ ?_, fun k => fin _ ?_⟩, fun g => fin _ ?_⟩, fun f => fin _ ?_⟩⟩
    all_goals
      unfold mayB
      by_cases hl : l.length = 0
      · first
          | (exfalso; omega)
          | (have := g0 hl; simp [*])
      · first
          | (exfalso; omega)
          | (simp [*]; done)
          | (have : ¬ 1 ≤ v := by omega
             simp [hl, this])
          | (have : 1 ≤ v := by omega
             simp [*])
theorem l17 : LpsOK Try.prog Try.f29 [(0, L17.sp)] := by
  refine .cons (L17.sound F2_ok (lps := []) (n := 100) (inner rfl) (fun _ => rfl) ?_) .nil
  rintro ⟨v, b, v', b', l, l', i⟩ ⟨h1, h2, h3, h4⟩
  simp only at h1 h2 h3 h4
  rw [r17]
  simp only [Tree.all, decide_eq_true_eq, decide_eq_false_iff_not, bne_iff_ne, ne_eq, bne_eq_false_iff_eq]
  refine ⟨fun c => ?_, fun c => ?_⟩
  · obtain ⟨x, r, e1, e2, e3⟩ := cut h2 c
    obtain ⟨y, q, f1, f2, f3⟩ := cut (l := l') h2 (by omega)
    rw [e1, e2, f1, f2]
    refine ⟨⟨h2, c⟩, ⟨h2, c⟩, ⟨h2, by omega⟩, ⟨h2, by omega⟩, fun d => ⟨⟨h2, c⟩, ⟨h2, c⟩, ⟨h2, by omega⟩, ⟨h2, by omega⟩, trivial, ?_⟩, fun d => ⟨by simp, ?_⟩⟩
    · have : cmpI x y ≠ 0 := fun e => d (cmpI_zero.1 e)
      simp [cmpL, this, LoopC.Next]
    · rw [wrap1 h2 (by omega)]
      have : cmpI x y = 0 := cmpI_zero.2 d
      exact ⟨⟨h1, by dsimp only; omega, by dsimp only; omega, h4⟩, by simp only [L17]; omega, by simp only [L17]; rw [e2, e3, f2, f3]; simp [cmpL, this]⟩
  · rw [ends c, ends (l := l') (by omega)]; simp [cmpL, LoopC.Next]
theorem rcompare_ok : PureOK Try.prog 29 [Plan, Plan] [i64] (fun x => (List.length (α := Int) x.1.2.2 : Int) < big) (fun x => (cmpP x.1 x.2.1, ())) :=
  fn_pure (E := F2) (n := 100) F2_ok Try.func29 body17 l17 fun x h => by
    obtain ⟨⟨v, b, l⟩, ⟨v', b', l'⟩, _⟩ : PlanD × PlanD × Unit := x
    have h : (l.length : Int) < big := h
    refine Tree.all_eq (t17 v b v' b' l l') ?_
    show Tree.all _ fun y => y = (cmpP (v, b, l) (v', b', l'), ())
    have fin : ∀ r : Int, (r = cmpP (v, b, l) (v', b', l')) → ((r, ()) : TDs [i64]) = (cmpP (v, b, l) (v', b', l'), ()) := fun r e => by rw [e]
    simp only [Tree.all, bne_iff_ne, ne_eq, bne_eq_false_iff_eq, decide_eq_true_eq, decide_eq_false_iff_not]
    refine ⟨fun c => ⟨trivial, fin _ ?_⟩, fun c => ⟨fun d => ⟨trivial, fin _ ?_⟩, fun d => ⟨fun e => ⟨trivial, fin _ ?_⟩, fun e => ⟨⟨by omega, by omega, by omega, h⟩, by simp, fun g => fin _ ?_, fun g => fin _ ?_⟩⟩⟩⟩
    · have : cmpI v v' ≠ 0 := fun e => c (cmpI_zero.1 e)
      simp [cmpP, orL, this]
    · have : cmpI b b' ≠ 0 := fun e => d (cmpI_zero.1 e)
      simp [cmpP, orL, cmpI_zero.2 c, this]
    · have : cmpI l.length l'.length ≠ 0 := fun k => e (cmpI_zero.1 k)
      simp [cmpP, orL, cmpI_zero.2 c, cmpI_zero.2 d, this]
    · simp [cmpP, orL, cmpI_zero.2 c, cmpI_zero.2 d, cmpI_zero.2 e, g]
    · simp [cmpP, orL, cmpI_zero.2 c, cmpI_zero.2 d, cmpI_zero.2 e, g]
end Pl.Rf
