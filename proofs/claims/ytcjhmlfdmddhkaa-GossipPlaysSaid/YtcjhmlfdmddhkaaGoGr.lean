import Derived.Test.YtcjhmlfdmddhkaaGoGe
import Derived.Test.YtcjhmlfdmddhkaaGoCa
namespace Pl
open Go Sx Go.Proofs Go.RowKit
def inL (n : Int) (s : KnD × RingD × Bool) : Prop :=
  fineK s.1 ∧ fineR s.2.1 ∧ s.1.getD 0 none = none ∧ s.1.getD n.toNat none = (if s.2.2 = true then some s.2.1 else none) ∧ (s.2.2 = false → s.2.1 = zeroR)
theorem getD_set_eq {α : Type} {k : List α} {j : Nat} {y z : α} (h : j < k.length) : (k.set j y).getD j z = y := by simp [List.getD, h]
theorem getD_set_ne {α : Type} {k : List α} {i j : Nat} {y z : α} (h : j ≠ i) : (k.set j y).getD i z = k.getD i z := by simp [List.getD, List.getElem?_set_ne h]
theorem inL_step {n : Int} (h1 : 1 ≤ n) (h2 : n ≤ 7) {s : KnD × RingD × Bool} {c : CallD} (h : inL n s) (hc : fineR c.2.2.1) : inL n (stepL n s c) := by
  obtain ⟨k, w, b⟩ := s
  obtain ⟨f1, f2, f3, f4, f5⟩ := h
  simp only at f1 f2 f3 f4 f5
  have hk0 : (heardL 0 k c).getD 0 none = none := by
    unfold heardL
    split
    · rename_i g
      rw [getD_set_ne (by have := g.2.2.1; omega)]; exact f3
    · exact f3
  have hfk := heardL_fine (self := 0) f1 hc
  unfold stepL
  split
  · rename_i g
    refine ⟨hfk, fine_join f2 hc, hk0, ?_, fun e => by cases e⟩
    simp only [if_true]
    unfold heardL
    rw [if_pos ⟨by omega, by omega, by omega, g.2⟩, g.1, getD_set_eq (by rw [f1.1]; omega)]
    congr 2
    unfold knF
    rw [if_pos ⟨by omega, by omega⟩, f4]
    cases b with
    | true => rfl
    | false => simp only [Bool.false_eq_true, if_false]; exact (f5 rfl).symm
  · rename_i g
    refine ⟨hfk, f2, hk0, ?_, f5⟩
    simp only
    rw [← f4]
    unfold heardL
    split
    · rename_i g2
      rw [getD_set_ne (by
        intro e
        exact g ⟨by omega, g2.2.2.2⟩)]
    · rfl
theorem inL_fold {n : Int} (h1 : 1 ≤ n) (h2 : n ≤ 7) : ∀ (l : List CallD) (s : KnD × RingD × Bool), inL n s → (∀ c ∈ l, fineR c.2.2.1) → inL n (l.foldl (stepL n) s)
  | [], _, h, _ => h
  | c :: r, s, h, hl => inL_fold h1 h2 r _ (inL_step h1 h2 h (hl c List.mem_cons_self)) fun c hc => hl c (List.mem_cons_of_mem _ hc)
theorem n7_in {n : Int} : 1 ≤ IntKind.i64.wrap (1 + IntKind.i64.wrap ((IntKind.u64.wrap n).tmod 7)) ∧ IntKind.i64.wrap (1 + IntKind.i64.wrap ((IntKind.u64.wrap n).tmod 7)) ≤ 7 := by
  have h := u64_range n
  have h1 : 0 ≤ (IntKind.u64.wrap n).tmod 7 := Int.tmod_nonneg _ h.1
  have h2 : (IntKind.u64.wrap n).tmod 7 < 7 := Int.tmod_lt_of_pos _ (by omega)
  rw [IntWalk.i64_in ((IntKind.u64.wrap n).tmod 7) (by omega), IntWalk.i64_in _ (by omega)]
  omega
theorem inL_zero (n : Int) (h1 : 1 ≤ n) (h2 : n ≤ 7) : inL n ((List.replicate 8 none : List (Option RingD)), zeroR, false) := by
  refine ⟨⟨rfl, fun x hx => by simp at hx⟩, fine_zero, rfl, ?_, fun _ => rfl⟩
  have : n.toNat < 8 := by omega
  show (List.replicate 8 (none : Option RingD)).getD n.toNat none = _
  rw [List.getD, List.getElem?_replicate, if_pos this]; rfl
theorem reads_call {R : Nat → Prop} {w : World} {x : CallD} {cs : List Value} (h : ReadsC R w Call x cs) : okR x.2.2.1 := by
  obtain ⟨_, _, _, _, _, _, _, _, c1, _, _, h, _⟩ := h
  exact reads_okR h
theorem reads_calls {R : Nat → Prop} {w : World} {l : List CallD} {cs : List Value} (h : ReadsC R w calls l cs) : ∀ c ∈ l, okR c.2.2.1 := by
  obtain ⟨A, cap, _, _, h⟩ := h
  intro c hc
  obtain ⟨i, hi, e⟩ := List.getElem_of_mem hc
  obtain ⟨_, _, _, _, _, _, _, hr⟩ := h i c (by rw [List.getElem?_eq_getElem hi, e])
  exact reads_call hr
theorem learns_ok : PureOK Try.prog 6 [calls, i64] [.bool] (fun x => ∀ c ∈ (x.1 : List CallD), okR c.2.2.1) (fun _ => (true, ())) :=
  fn_pure (E := g10) (n := 100) g10_ok Try.func6 (by kernel_rfl) lLe fun x hx => by
    obtain ⟨l, n, _⟩ : List CallD × Int × Unit := x
    refine Tree.all_eq (tLe l n) ?_
    refine ⟨trivial, fun _ => ⟨trivial, rfl⟩, fun g => ⟨by decide, ?_⟩⟩
    have g : lgF l 0 = true := by simpa using g
    obtain ⟨g1, g2⟩ := lgF_all l 0 g
    have g2 := g2 (by omega) (by omega)
    have hf : ∀ c ∈ l, fineR c.2.2.1 := fun c hc => ⟨hx c hc, g1 c hc⟩
    refine ⟨⟨by omega, by omega, by omega, ⟨rfl, fun x hx => by simp at hx⟩, ⟨⟨rfl, rfl⟩, by omega⟩, hf⟩, by repeat' (first | exact trivial | rfl | apply And.intro), ?_⟩
    obtain ⟨n1, n2⟩ := n7_in (n := n)
    generalize IntKind.i64.wrap (1 + IntKind.i64.wrap ((IntKind.u64.wrap n).tmod 7)) = N at *
    have hI := inL_fold n1 n2 l _ (inL_zero N n1 n2) hf
    simp only [zeroR] at hI
    generalize l.foldl (stepL N) ((List.replicate 8 none : List (Option RingD)), (List.replicate 8 0, (0, 0, []), List.replicate 16 (0, 0)), false) = S at *
    obtain ⟨K, W, B⟩ := S
    obtain ⟨k1, k2, k3, k4, k5⟩ := hI
    simp only at k1 k2 k3 k4 k5
    refine ⟨kn_req k1, fun y hy => ?_⟩
    have hy := hy.trans (kn_eq k1)
    have hkn : knF K N = (W, B) := by
      unfold knF
      rw [if_pos ⟨by omega, by omega⟩, k4]
      cases B with
      | true => rfl
      | false => simp only [Bool.false_eq_true, if_false]; rw [k5 rfl]
    rw [hkn] at hy
    subst hy
    refine ⟨⟨trivial, fun _ => rfl, fun e => by rw [k3] at e; cases e⟩, fun y hy => ?_⟩
    simp only [k3, Option.isNone, cond_true] at hy
    subst hy
    refine ⟨fun _ => ⟨trivial, ⟨⟨rfl, rfl⟩, ⟨rfl, rfl⟩, (by show (W.2.1.2.2.length : Int) < _; have := k2.2; omega), (by show (W.2.1.2.2.length : Int) < _; have := k2.2; omega)⟩, fun _ => ⟨fun _ => ⟨trivial, rfl⟩, fun e => by cases e⟩, fun e => ?_⟩, fun e => ?_⟩
    · have : sameR (etaR W) (etaR W) = false := e
      simp [sameR] at this
    · simp at e
end Pl
namespace Pl
open Go Sx Go.Proofs Go.RowKit
theorem notNone {k : KnD} {j : Nat} (c : (k.getD j none).isNone = false) : (k.getD j none).isSome = true := by
  cases he : k.getD j none <;> rw [he] at c <;> simp_all
theorem knF_some {k : KnD} {n : Int} {x : RingD} (h0 : 0 ≤ n) (h1 : n < 8) (hx : k.getD n.toNat none = some x) : knF k n = (x, true) := by
  unfold knF; rw [if_pos ⟨h0, h1⟩, hx]
theorem fineK_zero : fineK (List.replicate 8 none : List (Option RingD)) := ⟨rfl, fun x hx => by simp at hx⟩
end Pl
namespace Pl.Rf
open Pl Go Sx Go.Proofs Go.RowKit

theorem body26 : Try.f17.body = some (bodyOf Try.f17) := by kernel_rfl
theorem body27 : Try.f64.body = some (bodyOf Try.f64) := by kernel_rfl
theorem body28 : Try.f71.body = some (bodyOf Try.f71) := by kernel_rfl
theorem body16 : Try.f51.body = some (bodyOf Try.f51) := by kernel_rfl
theorem body17 : Try.f63.body = some (bodyOf Try.f63) := by kernel_rfl
theorem t26 (x : Int) :
  fnT E0 [] 100 Try.f17 [i64] [.bool] (x, ()) =
.fork (decide (x ≥ (0 : Int))) (
 .leaf ((decide (x < (8 : Int)), ()))) (
 .leaf ((false, ()))) := by kernel_rfl
theorem rnode_ok : PureOK Try.prog 17 [i64] [.bool] (fun _ => True) (fun x => (nodeB x.1, ())) :=
  fn_pure (E := E0) (n := 100) E0_ok Try.func17 body26 .nil fun x _ => by
    refine Tree.all_eq (t26 x.1) ?_
    simp only [Tree.all, decide_eq_true_eq, decide_eq_false_iff_not, nodeB]
    exact ⟨fun c => by simp [c], fun c => by simp [c]⟩
noncomputable abbrev F1 : Ex := mkEx Try.prog [(17, pureSp [i64] [.bool] (fun _ => True) (fun x => (nodeB x.1, ())))]
theorem F1_ok : F1.Sound := mkEx_sound ⟨pureSp_ok rnode_ok, trivial⟩
structure A27 where
  l : List Int
  i : Int
def L27 : LoopC A27 where
  n0 := 1
  det st := match Sx.look st.gh 0, intAt st.slots 7 with
    | some (.ro (.int .i64) l), some i => some ⟨l, i⟩
    | _, _ => none
  inv a := ⟨[(7, iv a.i), (6, iv a.l.length), (5, .one (.row 0)), (0, .one (.row 0))], [(0, .ro i64 a.l)], 1⟩
  ok a := 0 ≤ a.i ∧ a.i ≤ a.l.length ∧ (a.l.length : Int) < big
  mu a := a.l.length - a.i.toNat
  fin a := .fork (allN (a.l.drop a.i.toNat)) (.leaf ⟨2, ⟨[(0, .one (.row 0))], [(0, .ro i64 a.l)], 1⟩⟩) (.leaf ⟨1, ⟨[(2, cv false)], [], 1⟩⟩)
theorem r27 (l : List Int) (i : Int) :
  L27.round F1 [] 100 Try.f64 0 ⟨l, i⟩ =
.fork (decide (i < (↑l.length : Int))) (
 .req ((0 : Int) ≤ i ∧ i < (↑l.length : Int)) (
  .req ((0 : Int) ≤ i ∧ i < (↑l.length : Int)) (
   .req (True) (
    .fork (!Pl.nodeB (l.getD i.toNat (0 : Int))) (
     .fork (Pl.allN (List.drop i.toNat l)) (
      .req (False) (
       .leaf (Option.none))) (
      .req (True) (
       .leaf (Option.none)))) (
     .req (IntKind.i64.wrap (i + (1 : Int)) = IntKind.i64.wrap (i + (1 : Int)) ∧ (↑l.length : Int) = (↑l.length : Int) ∧ l = l) (
      .leaf (Option.some { l := l, i := IntKind.i64.wrap (i + (1 : Int)) }))))))) (
 .fork (Pl.allN (List.drop i.toNat l)) (
  .req (l = l) (
   .leaf (Option.none))) (
  .req (False) (
   .leaf (Option.none)))) := by kernel_rfl
theorem t27 (l : List Int) :
  fnT F1 [(0, L27.sp)] 100 Try.f64 [ints] [.bool] (l, ()) =
.req ((0 : Int) ≤ (0 : Int) ∧ (0 : Int) ≤ (↑l.length : Int) ∧ (↑l.length : Int) < (4611686018427387904 : Int)) (
 .req ((0 : Int) = (0 : Int) ∧ (↑l.length : Int) = (↑l.length : Int) ∧ l = l) (
  .fork (Pl.allN l) (
   .leaf (((↑l.length : Int) == (16 : Int), ()))) (
   .leaf ((false, ()))))) := by kernel_rfl
theorem t28 (x y : Int) :
  fnT E0 [] 100 Try.f71 [i64, i64] [i64] (x, y, ()) =
.fork (decide (x < y)) (
 .leaf (((-1 : Int), ()))) (
 .fork (decide (x > y)) (
  .leaf (((1 : Int), ()))) (
  .leaf (((0 : Int), ())))) := by kernel_rfl
theorem l27 : LpsOK Try.prog Try.f64 [(0, L27.sp)] := by
  refine .cons (L27.sound F1_ok (lps := []) (n := 100) (inner rfl) (fun _ => rfl) ?_) .nil
  rintro ⟨l, i⟩ ⟨h1, h2, h3⟩
  simp only at h1 h2 h3
  rw [r27]
  simp only [Tree.all, decide_eq_true_eq, decide_eq_false_iff_not, Bool.not_eq_true', Bool.not_eq_false']
  refine ⟨fun c => ?_, fun c => ?_⟩
  · obtain ⟨x, r, e1, e2, e3⟩ := cut h1 c
    rw [e1, e2]
    refine ⟨⟨h1, c⟩, ⟨h1, c⟩, trivial, fun d => ?_, fun d => ⟨by simp, ?_⟩⟩
    · simp [allN, d, LoopC.Next]
    · rw [wrap1 h1 (by omega)]
      exact ⟨⟨by dsimp only; omega, by dsimp only; omega, h3⟩, by simp only [L27]; omega, by simp only [L27]; rw [e2, e3]; simp [allN, d]⟩
  · rw [ends c]; simp [allN, LoopC.Next]
theorem nodes_ok : PureOK Try.prog 64 [ints] [.bool] (fun x => (List.length (α := Int) x.1 : Int) < big) (fun x => (fullB x.1, ())) :=
  fn_pure (E := F1) (n := 100) F1_ok Try.func64 body27 l27 fun x h => by
    obtain ⟨l, _⟩ : List Int × Unit := x
    have h : (l.length : Int) < big := h
    refine Tree.all_eq (t27 l) ?_
    show Tree.all _ fun y => y = (fullB l, ())
    refine ⟨⟨by omega, by omega, h⟩, ⟨rfl, rfl, rfl⟩, fun c => ?_, fun c => ?_⟩
    · have : ((l.length : Int) == 16) = decide (l.length = 16) := by
        by_cases h : l.length = 16
        · simp [h]
        · have : ¬ (l.length : Int) = 16 := by omega
          simp [h, this]
      rw [this, fullB, c, Bool.and_true]; rfl
    · rw [fullB, c, Bool.and_false]; rfl
theorem rcmp_ok : PureOK Try.prog 71 [i64, i64] [i64] (fun _ => True) (fun x => (cmpI x.1 x.2.1, ())) :=
  fn_pure (E := E0) (n := 100) E0_ok Try.func71 body28 .nil fun x _ => by
    obtain ⟨a, b, _⟩ : Int × Int × Unit := x
    refine Tree.all_eq (t28 a b) ?_
    show Tree.all _ fun y => y = (cmpI a b, ())
    simp only [Tree.all, decide_eq_true_eq, decide_eq_false_iff_not, cmpI]
    refine ⟨fun c => ?_, fun c => ⟨fun d => ?_, fun d => ?_⟩⟩
    · simp [c]
    · simp [c, show b < a from d]
    · simp [c, show ¬ b < a from d]
noncomputable abbrev F2 : Ex := mkEx Try.prog [(17, pureSp [i64] [.bool] (fun _ => True) (fun x => (nodeB x.1, ()))), (64, pureSp [ints] [.bool] (fun x => (List.length (α := Int) x.1 : Int) < big) (fun x => (fullB x.1, ()))),
  (71, pureSp [i64, i64] [i64] (fun _ => True) (fun x => (cmpI x.1 x.2.1, ())))]
theorem F2_ok : F2.Sound := mkEx_sound ⟨pureSp_ok rnode_ok, pureSp_ok nodes_ok, pureSp_ok rcmp_ok, trivial⟩
theorem t16 (v b : Int) (l : List Int) :
  fnT F2 [] 100 Try.f51 [Plan] [.bool] ((v, b, l), ()) =
.fork (v == (0 : Int)) (
 .fork (b == (0 : Int)) (
  .fork ((↑l.length : Int) == (0 : Int)) (
   .leaf ((true, ()))) (
   .fork (decide (v ≥ (1 : Int))) (
    .fork (decide (v ≤ (1000000 : Int))) (
     .req (True) (
      .fork (Pl.nodeB b) (
       .req ((↑l.length : Int) < (4611686018427387904 : Int)) (
        .leaf ((Pl.fullB l, ())))) (
       .leaf ((false, ()))))) (
     .leaf ((false, ())))) (
    .leaf ((false, ()))))) (
  .fork (decide (v ≥ (1 : Int))) (
   .fork (decide (v ≤ (1000000 : Int))) (
    .req (True) (
     .fork (Pl.nodeB b) (
      .req ((↑l.length : Int) < (4611686018427387904 : Int)) (
       .leaf ((Pl.fullB l, ())))) (
      .leaf ((false, ()))))) (
    .leaf ((false, ())))) (
   .leaf ((false, ()))))) (
 .fork (decide (v ≥ (1 : Int))) (
  .fork (decide (v ≤ (1000000 : Int))) (
   .req (True) (
    .fork (Pl.nodeB b) (
     .req ((↑l.length : Int) < (4611686018427387904 : Int)) (
      .leaf ((Pl.fullB l, ())))) (
     .leaf ((false, ()))))) (
   .leaf ((false, ())))) (
  .leaf ((false, ())))) := by kernel_rfl
structure A17 where
  v : Int
  b : Int
  v' : Int
  b' : Int
  l : List Int
  l' : List Int
  i : Int
def L17 : LoopC A17 where
  n0 := 4
  det st := match Sx.look st.gh 2, Sx.look st.gh 3, Sx.look st.gh 0, Sx.look st.gh 1, intAt st.slots 43 with
    | some (.blk [.int _ v, .int _ b, _]), some (.blk [.int _ v', .int _ b', _]), some (.ro (.int .i64) l), some (.ro (.int .i64) l'), some i => some ⟨v, b, v', b', l, l', i⟩
    | _, _, _, _, _ => none
  inv a := ⟨[(43, iv a.i), (42, iv a.l.length), (2, .one (.ptr 2 0)), (3, .one (.ptr 3 0))],
    [(3, .blk [.int .i64 a.v', .int .i64 a.b', .row 1]), (2, .blk [.int .i64 a.v, .int .i64 a.b, .row 0]), (0, .ro i64 a.l), (1, .ro i64 a.l')], 4⟩
  ok a := a.l.length = a.l'.length ∧ 0 ≤ a.i ∧ a.i ≤ a.l.length ∧ (a.l.length : Int) < big
  mu a := a.l.length - a.i.toNat
  fin a := .fork (decide (cmpL (a.l.drop a.i.toNat) (a.l'.drop a.i.toNat) = 0)) (.leaf ⟨2, ⟨[], [], 4⟩⟩) (.leaf ⟨1, ⟨[(4, iv (cmpL (a.l.drop a.i.toNat) (a.l'.drop a.i.toNat)))], [], 4⟩⟩)
theorem r17 (v b v' b' : Int) (l l' : List Int) (i : Int) :
  L17.round F2 [] 100 Try.f63 0 ⟨v, b, v', b', l, l', i⟩ =
.fork (decide (i < (↑l.length : Int))) (
 .req ((0 : Int) ≤ i ∧ i < (↑l.length : Int)) (
  .req ((0 : Int) ≤ i ∧ i < (↑l.length : Int)) (
   .req ((0 : Int) ≤ i ∧ i < (↑l'.length : Int)) (
    .req ((0 : Int) ≤ i ∧ i < (↑l'.length : Int)) (
     .fork (l.getD i.toNat (0 : Int) != l'.getD i.toNat (0 : Int)) (
      .req ((0 : Int) ≤ i ∧ i < (↑l.length : Int)) (
       .req ((0 : Int) ≤ i ∧ i < (↑l.length : Int)) (
        .req ((0 : Int) ≤ i ∧ i < (↑l'.length : Int)) (
         .req ((0 : Int) ≤ i ∧ i < (↑l'.length : Int)) (
          .req (True) (
           .fork (decide (Pl.cmpL (List.drop i.toNat l) (List.drop i.toNat l') = (0 : Int))) (
            .req (False) (
             .leaf (Option.none))) (
            .req (Pl.cmpI (l.getD i.toNat (0 : Int)) (l'.getD i.toNat (0 : Int)) = Pl.cmpL (List.drop i.toNat l) (List.drop i.toNat l')) (
             .leaf (Option.none))))))))) (
      .req (IntKind.i64.wrap (i + (1 : Int)) = IntKind.i64.wrap (i + (1 : Int)) ∧ (↑l.length : Int) = (↑l.length : Int) ∧ v' = v' ∧ b' = b' ∧ v = v ∧ b = b ∧ l = l ∧ l' = l') (
       .leaf (Option.some { v := v, b := b, v' := v', b' := b', l := l, l' := l', i := IntKind.i64.wrap (i + (1 : Int)) })))))))) (
 .fork (decide (Pl.cmpL (List.drop i.toNat l) (List.drop i.toNat l') = (0 : Int))) (
  .req (True) (
   .leaf (Option.none))) (
  .req (False) (
   .leaf (Option.none)))) := by kernel_rfl
theorem t17 (v b v' b' : Int) (l l' : List Int) :
  fnT F2 [(0, L17.sp)] 100 Try.f63 [Plan, Plan] [i64] ((v, b, l), (v', b', l'), ()) =
.fork (v != v') (
 .req (True) (
  .leaf ((Pl.cmpI v v', ())))) (
 .fork (b != b') (
  .req (True) (
   .leaf ((Pl.cmpI b b', ())))) (
  .fork ((↑l.length : Int) != (↑l'.length : Int)) (
   .req (True) (
    .leaf ((Pl.cmpI (↑l.length : Int) (↑l'.length : Int), ())))) (
   .req (l.length = l'.length ∧ (0 : Int) ≤ (0 : Int) ∧ (0 : Int) ≤ (↑l.length : Int) ∧ (↑l.length : Int) < (4611686018427387904 : Int)) (
    .req ((0 : Int) = (0 : Int) ∧ (↑l.length : Int) = (↑l.length : Int) ∧ v' = v' ∧ b' = b' ∧ v = v ∧ b = b ∧ l = l ∧ l' = l') (
     .fork (decide (Pl.cmpL l l' = (0 : Int))) (
      .leaf (((0 : Int), ()))) (
      .leaf ((Pl.cmpL l l', ())))))))) := by kernel_rfl
theorem rmay_ok : PureOK Try.prog 51 [Plan] [.bool] (fun x => (List.length (α := Int) x.1.2.2 : Int) < big) (fun x => (mayB x.1, ())) :=
  fn_pure (E := F2) (n := 100) F2_ok Try.func51 body16 .nil fun x h => by
    obtain ⟨⟨v, b, l⟩, _⟩ : PlanD × Unit := x
    have h : (l.length : Int) < big := h
    refine Tree.all_eq (t16 v b l) ?_
    show Tree.all _ fun y => y = (mayB (v, b, l), ())
    have g0 : l.length = 0 → fullB l = false := fun e => by simp [fullB, e]
    simp only [Tree.all, beq_iff_eq, beq_eq_false_iff_ne, ne_eq, decide_eq_true_eq, decide_eq_false_iff_not, h, true_and]
    have fin : ∀ r : Bool, (r = mayB (v, b, l)) → ((r, ()) : TDs [.bool]) = (mayB (v, b, l), ()) := fun r e => by rw [e]
    refine ⟨fun c => ⟨fun d => ⟨fun e => fin _ ?_, fun e => ⟨fun f => ⟨fun g => ⟨fun k => fin _ ?_, fun k => fin _ ?_⟩, fun g => fin _ ?_⟩, fun f => fin _ ?_⟩⟩, fun d => ⟨fun f => ⟨fun g => ⟨fun k => fin _ ?_, fun k => fin _ ?_⟩, fun g => fin _ ?_⟩, fun f => fin _ ?_⟩⟩,
      fun c => ⟨fun f => ⟨fun g => ⟨fun k => fin _ ?_, fun k => fin _ ?_⟩, fun g => fin _ ?_⟩, fun f => fin _ ?_⟩⟩
    all_goals
      unfold mayB
      by_cases hl : l.length = 0
      · first
          | (exfalso; omega)
          | (have := g0 hl; simp [*])
      · first
          | (exfalso; omega)
          | (simp [*]; done)
          | (have : ¬ 1 ≤ v := by omega
             simp [hl, this])
          | (have : 1 ≤ v := by omega
             simp [*])
theorem l17 : LpsOK Try.prog Try.f63 [(0, L17.sp)] := by
  refine .cons (L17.sound F2_ok (lps := []) (n := 100) (inner rfl) (fun _ => rfl) ?_) .nil
  rintro ⟨v, b, v', b', l, l', i⟩ ⟨h1, h2, h3, h4⟩
  simp only at h1 h2 h3 h4
  rw [r17]
  simp only [Tree.all, decide_eq_true_eq, decide_eq_false_iff_not, bne_iff_ne, ne_eq, bne_eq_false_iff_eq]
  refine ⟨fun c => ?_, fun c => ?_⟩
  · obtain ⟨x, r, e1, e2, e3⟩ := cut h2 c
    obtain ⟨y, q, f1, f2, f3⟩ := cut (l := l') h2 (by omega)
    rw [e1, e2, f1, f2]
    refine ⟨⟨h2, c⟩, ⟨h2, c⟩, ⟨h2, by omega⟩, ⟨h2, by omega⟩, fun d => ⟨⟨h2, c⟩, ⟨h2, c⟩, ⟨h2, by omega⟩, ⟨h2, by omega⟩, trivial, ?_⟩, fun d => ⟨by simp, ?_⟩⟩
    · have : cmpI x y ≠ 0 := fun e => d (cmpI_zero.1 e)
      simp [cmpL, this, LoopC.Next]
    · rw [wrap1 h2 (by omega)]
      have : cmpI x y = 0 := cmpI_zero.2 d
      exact ⟨⟨h1, by dsimp only; omega, by dsimp only; omega, h4⟩, by simp only [L17]; omega, by simp only [L17]; rw [e2, e3, f2, f3]; simp [cmpL, this]⟩
  · rw [ends c, ends (l := l') (by omega)]; simp [cmpL, LoopC.Next]
theorem rcompare_ok : PureOK Try.prog 63 [Plan, Plan] [i64] (fun x => (List.length (α := Int) x.1.2.2 : Int) < big) (fun x => (cmpP x.1 x.2.1, ())) :=
  fn_pure (E := F2) (n := 100) F2_ok Try.func63 body17 l17 fun x h => by
    obtain ⟨⟨v, b, l⟩, ⟨v', b', l'⟩, _⟩ : PlanD × PlanD × Unit := x
    have h : (l.length : Int) < big := h
    refine Tree.all_eq (t17 v b v' b' l l') ?_
    show Tree.all _ fun y => y = (cmpP (v, b, l) (v', b', l'), ())
    have fin : ∀ r : Int, (r = cmpP (v, b, l) (v', b', l')) → ((r, ()) : TDs [i64]) = (cmpP (v, b, l) (v', b', l'), ()) := fun r e => by rw [e]
    simp only [Tree.all, bne_iff_ne, ne_eq, bne_eq_false_iff_eq, decide_eq_true_eq, decide_eq_false_iff_not]
    refine ⟨fun c => ⟨trivial, fin _ ?_⟩, fun c => ⟨fun d => ⟨trivial, fin _ ?_⟩, fun d => ⟨fun e => ⟨trivial, fin _ ?_⟩, fun e => ⟨⟨by omega, by omega, by omega, h⟩, by simp, fun g => fin _ ?_, fun g => fin _ ?_⟩⟩⟩⟩
    · have : cmpI v v' ≠ 0 := fun e => c (cmpI_zero.1 e)
      simp [cmpP, orL, this]
    · have : cmpI b b' ≠ 0 := fun e => d (cmpI_zero.1 e)
      simp [cmpP, orL, cmpI_zero.2 c, this]
    · have : cmpI l.length l'.length ≠ 0 := fun k => e (cmpI_zero.1 k)
      simp [cmpP, orL, cmpI_zero.2 c, cmpI_zero.2 d, this]
    · simp [cmpP, orL, cmpI_zero.2 c, cmpI_zero.2 d, cmpI_zero.2 e, g]
    · simp [cmpP, orL, cmpI_zero.2 c, cmpI_zero.2 d, cmpI_zero.2 e, g]
end Pl.Rf
namespace Pl
open Go Sx Go.Proofs Go.RowKit
abbrev KSr : Nat × Sx.Spec := (63, pureSp [Plan, Plan] [i64] (fun x => (List.length (α := Int) x.1.2.2 : Int) < big) (fun x => (cmpP x.1 x.2.1, ())))
noncomputable abbrev V1 : Ex := mkEx Try.prog [KSr]
theorem V1_ok : V1.Sound := mkEx_sound ⟨pureSp_ok Rf.rcompare_ok, trivial⟩
theorem bodyS7 : Try.f49.body = some (bodyOf Try.f49) := by kernel_rfl
theorem tS7 (a b : RingD) : @Eq _
  (fnT V1 [] 100 Try.f49 [Ring, Ring] [.bool] (a, b, ()))
  (.fork (a.1.getD 0 (0 : Int) == b.1.getD 0 (0 : Int) && (a.1.getD 1 (0 : Int) == b.1.getD 1 (0 : Int) && (a.1.getD 2 (0 : Int) == b.1.getD 2 (0 : Int) && (a.1.getD 3 (0 : Int) == b.1.getD 3 (0 : Int) && (a.1.getD 4 (0 : Int) == b.1.getD 4 (0 : Int) && (a.1.getD 5 (0 : Int) == b.1.getD 5 (0 : Int) && (a.1.getD 6 (0 : Int) == b.1.getD 6 (0 : Int) && (a.1.getD 7 (0 : Int) == b.1.getD 7 (0 : Int) && true)))))))) (
 .fork ((a.2.2.getD 0 ((0 : Int), (0 : Int))).1 == (b.2.2.getD 0 ((0 : Int), (0 : Int))).1 && ((a.2.2.getD 0 ((0 : Int), (0 : Int))).2 == (b.2.2.getD 0 ((0 : Int), (0 : Int))).2 && true) && ((a.2.2.getD 1 ((0 : Int), (0 : Int))).1 == (b.2.2.getD 1 ((0 : Int), (0 : Int))).1 && ((a.2.2.getD 1 ((0 : Int), (0 : Int))).2 == (b.2.2.getD 1 ((0 : Int), (0 : Int))).2 && true) && ((a.2.2.getD 2 ((0 : Int), (0 : Int))).1 == (b.2.2.getD 2 ((0 : Int), (0 : Int))).1 && ((a.2.2.getD 2 ((0 : Int), (0 : Int))).2 == (b.2.2.getD 2 ((0 : Int), (0 : Int))).2 && true) && ((a.2.2.getD 3 ((0 : Int), (0 : Int))).1 == (b.2.2.getD 3 ((0 : Int), (0 : Int))).1 && ((a.2.2.getD 3 ((0 : Int), (0 : Int))).2 == (b.2.2.getD 3 ((0 : Int), (0 : Int))).2 && true) && ((a.2.2.getD 4 ((0 : Int), (0 : Int))).1 == (b.2.2.getD 4 ((0 : Int), (0 : Int))).1 && ((a.2.2.getD 4 ((0 : Int), (0 : Int))).2 == (b.2.2.getD 4 ((0 : Int), (0 : Int))).2 && true) && ((a.2.2.getD 5 ((0 : Int), (0 : Int))).1 == (b.2.2.getD 5 ((0 : Int), (0 : Int))).1 && ((a.2.2.getD 5 ((0 : Int), (0 : Int))).2 == (b.2.2.getD 5 ((0 : Int), (0 : Int))).2 && true) && ((a.2.2.getD 6 ((0 : Int), (0 : Int))).1 == (b.2.2.getD 6 ((0 : Int), (0 : Int))).1 && ((a.2.2.getD 6 ((0 : Int), (0 : Int))).2 == (b.2.2.getD 6 ((0 : Int), (0 : Int))).2 && true) && ((a.2.2.getD 7 ((0 : Int), (0 : Int))).1 == (b.2.2.getD 7 ((0 : Int), (0 : Int))).1 && ((a.2.2.getD 7 ((0 : Int), (0 : Int))).2 == (b.2.2.getD 7 ((0 : Int), (0 : Int))).2 && true) && ((a.2.2.getD 8 ((0 : Int), (0 : Int))).1 == (b.2.2.getD 8 ((0 : Int), (0 : Int))).1 && ((a.2.2.getD 8 ((0 : Int), (0 : Int))).2 == (b.2.2.getD 8 ((0 : Int), (0 : Int))).2 && true) && ((a.2.2.getD 9 ((0 : Int), (0 : Int))).1 == (b.2.2.getD 9 ((0 : Int), (0 : Int))).1 && ((a.2.2.getD 9 ((0 : Int), (0 : Int))).2 == (b.2.2.getD 9 ((0 : Int), (0 : Int))).2 && true) && ((a.2.2.getD 10 ((0 : Int), (0 : Int))).1 == (b.2.2.getD 10 ((0 : Int), (0 : Int))).1 && ((a.2.2.getD 10 ((0 : Int), (0 : Int))).2 == (b.2.2.getD 10 ((0 : Int), (0 : Int))).2 && true) && ((a.2.2.getD 11 ((0 : Int), (0 : Int))).1 == (b.2.2.getD 11 ((0 : Int), (0 : Int))).1 && ((a.2.2.getD 11 ((0 : Int), (0 : Int))).2 == (b.2.2.getD 11 ((0 : Int), (0 : Int))).2 && true) && ((a.2.2.getD 12 ((0 : Int), (0 : Int))).1 == (b.2.2.getD 12 ((0 : Int), (0 : Int))).1 && ((a.2.2.getD 12 ((0 : Int), (0 : Int))).2 == (b.2.2.getD 12 ((0 : Int), (0 : Int))).2 && true) && ((a.2.2.getD 13 ((0 : Int), (0 : Int))).1 == (b.2.2.getD 13 ((0 : Int), (0 : Int))).1 && ((a.2.2.getD 13 ((0 : Int), (0 : Int))).2 == (b.2.2.getD 13 ((0 : Int), (0 : Int))).2 && true) && ((a.2.2.getD 14 ((0 : Int), (0 : Int))).1 == (b.2.2.getD 14 ((0 : Int), (0 : Int))).1 && ((a.2.2.getD 14 ((0 : Int), (0 : Int))).2 == (b.2.2.getD 14 ((0 : Int), (0 : Int))).2 && true) && ((a.2.2.getD 15 ((0 : Int), (0 : Int))).1 == (b.2.2.getD 15 ((0 : Int), (0 : Int))).1 && ((a.2.2.getD 15 ((0 : Int), (0 : Int))).2 == (b.2.2.getD 15 ((0 : Int), (0 : Int))).2 && true) && true)))))))))))))))) (
  .req ((↑a.2.1.2.2.length : Int) < (4611686018427387904 : Int)) (
   .leaf ((Pl.cmpP a.2.1 b.2.1 == (0 : Int), ())))) (
  .leaf ((false, ())))) (
 .leaf ((false, ()))) : Tree (Bool × PUnit)) := by kernel_rfl
theorem bodyME : Try.f50.body = some (bodyOf Try.f50) := by kernel_rfl
noncomputable abbrev V2 : Ex := mkEx Try.prog [(17, pureSp [i64] [.bool] (fun _ => True) (fun x => (nodeB x.1, ())))]
theorem V2_ok : V2.Sound := mkEx_sound ⟨pureSp_ok Rf.rnode_ok, trivial⟩
theorem tME (a b : Int) : @Eq _
  (fnT V2 [] 100 Try.f50 [Entry] [.bool] ((a, b), ()))
  (.fork (a == (0 : Int) && (b == (0 : Int) && true)) (
 .leaf ((true, ()))) (
 .fork (decide (a ≥ (1 : Int))) (
  .fork (decide (a ≤ (1000000 : Int))) (
   .req (True) (
    .leaf ((Pl.nodeB b, ())))) (
   .leaf ((false, ())))) (
  .leaf ((false, ())))) : Tree (Bool × PUnit)) := by kernel_rfl
theorem bodyMR : Try.f30.body = some (bodyOf Try.f30) := by kernel_rfl
theorem same7_t (a b : RingD) (h1 : okR a) (h2 : okR b) (h3 : (a.2.1.2.2.length : Int) < small) (h4 : (b.2.1.2.2.length : Int) < small) : (fnT V1 [] 100 Try.f49 [Ring, Ring] [.bool] (a, b, ())).all fun y => y = (sameR a b, ()) := by
  obtain ⟨a, p, e⟩ := a
  obtain ⟨b, q, f⟩ := b
  rw [tS7, eq8 h1.1 h2.1, eq16 h1.2 h2.2]
  unfold small at h3
  simp only [Tree.all, decide_eq_true_eq, decide_eq_false_iff_not]
  refine ⟨fun c => ⟨fun d => ⟨by dsimp only at h3; omega, ?_⟩, fun d => ?_⟩, fun c => ?_⟩
  · subst c; subst d
    have : (cmpP p q == 0) = sameR (a, p, e) (a, q, e) := by
      rw [Bool.eq_iff_iff]; simp [sameR, cmpP_zero]
    rw [this]
  · simp [sameR, d]; try rfl
  · simp [sameR, c]; try rfl
theorem same7_ok : PureOK Try.prog 49 [Ring, Ring] [.bool] S2r (fun x => (sameR x.1 x.2.1, ())) :=
  fn_pure (E := V1) (n := 100) V1_ok Try.func49 bodyS7 .nil fun x h => same7_t x.1 x.2.1 h.1 h.2.1 h.2.2.1 h.2.2.2
theorem me_t (a b : Int) : (fnT V2 [] 100 Try.f50 [Entry] [.bool] ((a, b), ())).all fun y => y = (mayE (a, b), ()) := by
  rw [tME]
  have e1 : (decide (a ≥ 1) : Bool) = decide (1 ≤ a) := rfl
  simp only [Tree.all, mayE, Bool.and_true, e1]
  refine ⟨fun c => by rw [c]; rfl, fun c => ⟨fun d => ⟨fun e => ⟨trivial, ?_⟩, fun e => ?_⟩, fun d => ?_⟩⟩
  · rw [c, d, e]; rfl
  · rw [c, d, e]; rfl
  · rw [c, d]; rfl
theorem me_ok : PureOK Try.prog 50 [Entry] [.bool] (fun _ => True) (fun x => (mayE x.1, ())) :=
  fn_pure (E := V2) (n := 100) V2_ok Try.func50 bodyME .nil fun x _ => me_t x.1.1 x.1.2
noncomputable abbrev V3 : Ex := mkEx Try.prog [(50, pureSp [Entry] [.bool] (fun _ => True) (fun x => (mayE x.1, ()))), (51, pureSp [Plan] [.bool] (fun x => (List.length (α := Int) x.1.2.2 : Int) < big) (fun x => (mayB x.1, ())))]
theorem V3_ok : V3.Sound := mkEx_sound ⟨pureSp_ok me_ok, pureSp_ok Rf.rmay_ok, trivial⟩
theorem tMR (a : RingD) : @Eq _
  (fnT V3 [] 100 Try.f30 [Ring] [.bool] (a, ()))
  (.fork (decide (a.1.getD 0 (0 : Int) < (0 : Int))) (
 .leaf ((false, ()))) (
 .fork (decide (a.1.getD 0 (0 : Int) > (4 : Int))) (
  .leaf ((false, ()))) (
  .fork (decide (a.1.getD 1 (0 : Int) < (0 : Int))) (
   .leaf ((false, ()))) (
   .fork (decide (a.1.getD 1 (0 : Int) > (4 : Int))) (
    .leaf ((false, ()))) (
    .fork (decide (a.1.getD 2 (0 : Int) < (0 : Int))) (
     .leaf ((false, ()))) (
     .fork (decide (a.1.getD 2 (0 : Int) > (4 : Int))) (
      .leaf ((false, ()))) (
      .fork (decide (a.1.getD 3 (0 : Int) < (0 : Int))) (
       .leaf ((false, ()))) (
       .fork (decide (a.1.getD 3 (0 : Int) > (4 : Int))) (
        .leaf ((false, ()))) (
        .fork (decide (a.1.getD 4 (0 : Int) < (0 : Int))) (
         .leaf ((false, ()))) (
         .fork (decide (a.1.getD 4 (0 : Int) > (4 : Int))) (
          .leaf ((false, ()))) (
          .fork (decide (a.1.getD 5 (0 : Int) < (0 : Int))) (
           .leaf ((false, ()))) (
           .fork (decide (a.1.getD 5 (0 : Int) > (4 : Int))) (
            .leaf ((false, ()))) (
            .fork (decide (a.1.getD 6 (0 : Int) < (0 : Int))) (
             .leaf ((false, ()))) (
             .fork (decide (a.1.getD 6 (0 : Int) > (4 : Int))) (
              .leaf ((false, ()))) (
              .fork (decide (a.1.getD 7 (0 : Int) < (0 : Int))) (
               .leaf ((false, ()))) (
               .fork (decide (a.1.getD 7 (0 : Int) > (4 : Int))) (
                .leaf ((false, ()))) (
                .req (True) (
                 .fork (!Pl.mayE (a.2.2.getD 0 ((0 : Int), (0 : Int)))) (
                  .leaf ((false, ()))) (
                  .req (True) (
                   .fork (!Pl.mayE (a.2.2.getD 1 ((0 : Int), (0 : Int)))) (
                    .leaf ((false, ()))) (
                    .req (True) (
                     .fork (!Pl.mayE (a.2.2.getD 2 ((0 : Int), (0 : Int)))) (
                      .leaf ((false, ()))) (
                      .req (True) (
                       .fork (!Pl.mayE (a.2.2.getD 3 ((0 : Int), (0 : Int)))) (
                        .leaf ((false, ()))) (
                        .req (True) (
                         .fork (!Pl.mayE (a.2.2.getD 4 ((0 : Int), (0 : Int)))) (
                          .leaf ((false, ()))) (
                          .req (True) (
                           .fork (!Pl.mayE (a.2.2.getD 5 ((0 : Int), (0 : Int)))) (
                            .leaf ((false, ()))) (
                            .req (True) (
                             .fork (!Pl.mayE (a.2.2.getD 6 ((0 : Int), (0 : Int)))) (
                              .leaf ((false, ()))) (
                              .req (True) (
                               .fork (!Pl.mayE (a.2.2.getD 7 ((0 : Int), (0 : Int)))) (
                                .leaf ((false, ()))) (
                                .req (True) (
                                 .fork (!Pl.mayE (a.2.2.getD 8 ((0 : Int), (0 : Int)))) (
                                  .leaf ((false, ()))) (
                                  .req (True) (
                                   .fork (!Pl.mayE (a.2.2.getD 9 ((0 : Int), (0 : Int)))) (
                                    .leaf ((false, ()))) (
                                    .req (True) (
                                     .fork (!Pl.mayE (a.2.2.getD 10 ((0 : Int), (0 : Int)))) (
                                      .leaf ((false, ()))) (
                                      .req (True) (
                                       .fork (!Pl.mayE (a.2.2.getD 11 ((0 : Int), (0 : Int)))) (
                                        .leaf ((false, ()))) (
                                        .req (True) (
                                         .fork (!Pl.mayE (a.2.2.getD 12 ((0 : Int), (0 : Int)))) (
                                          .leaf ((false, ()))) (
                                          .req (True) (
                                           .fork (!Pl.mayE (a.2.2.getD 13 ((0 : Int), (0 : Int)))) (
                                            .leaf ((false, ()))) (
                                            .req (True) (
                                             .fork (!Pl.mayE (a.2.2.getD 14 ((0 : Int), (0 : Int)))) (
                                              .leaf ((false, ()))) (
                                              .req (True) (
                                               .fork (!Pl.mayE (a.2.2.getD 15 ((0 : Int), (0 : Int)))) (
                                                .leaf ((false, ()))) (
                                                .req ((↑a.2.1.2.2.length : Int) < (4611686018427387904 : Int)) (
                                                 .leaf ((Pl.mayB a.2.1, ()))))))))))))))))))))))))))))))))))))))))))))))))))) : Tree (Bool × PUnit)) := by kernel_rfl
theorem mr_t (r : RingD) (h3 : (r.2.1.2.2.length : Int) < small) : (fnT V3 [] 100 Try.f30 [Ring] [.bool] (r, ())).all fun y => y = (mayR r, ()) := by
  rw [tMR]
  unfold small at h3
  simp only [Tree.all, true_and]
  iterate 8 (refine ⟨fun c => ret1 (mayF1 c (by decide)), fun _ => ⟨fun c => ret1 (mayF2 c (by decide)), fun _ => ?_⟩⟩)
  iterate 16 (refine ⟨fun c => ret1 (mayF4 c (by decide)), fun _ => ?_⟩)
  refine ⟨by omega, ?_⟩
  refine ret1 ?_
  simp_all [mayR, tab, tabN, stB]
theorem mr_ok : PureOK Try.prog 30 [Ring] [.bool] S1r (fun x => (mayR x.1, ())) :=
  fn_pure (E := V3) (n := 100) V3_ok Try.func30 bodyMR .nil fun x h => mr_t x.1 h.2
noncomputable abbrev W1 : Ex := mkEx Try.prog [(71, pureSp [i64, i64] [i64] (fun _ => True) (fun x => (cmpI x.1 x.2.1, ())))]
theorem W1_ok : W1.Sound := mkEx_sound ⟨pureSp_ok Rf.rcmp_ok, trivial⟩
theorem tCE7 (a b c d : Int) : @Eq _
  (fnT W1 [] 100 Try.f65 [Entry, Entry] [i64] ((a, b), (c, d), ()))
  (.fork (a != c) (
 .req (True) (
  .leaf ((Pl.cmpI a c, ())))) (
 .req (True) (
  .leaf ((Pl.cmpI b d, ())))) : Tree (Int × PUnit)) := by kernel_rfl
theorem cmpI_self (a : Int) : cmpI a a = 0 := by simp [cmpI]
theorem ce7_ok : PureOK Try.prog 65 [Entry, Entry] [i64] (fun _ => True) (fun x => (cmpE x.1 x.2.1, ())) :=
  fn_pure (E := W1) (n := 100) W1_ok Try.func65 (by kernel_rfl) .nil fun x _ => Tree.all_eq (tCE7 x.1.1 x.1.2 x.2.1.1 x.2.1.2) (by
    obtain ⟨⟨a, b⟩, ⟨c, d⟩, _⟩ : (Int × Int) × (Int × Int) × Unit := x
    refine ⟨fun e => ⟨trivial, ?_⟩, fun e => ⟨trivial, ?_⟩⟩
    · have e : a ≠ c := by simpa using e
      show (cmpI a c, ()) = (cmpE (a, b) (c, d), ())
      congr 1
      have : cmpI a c ≠ 0 := by unfold cmpI; split <;> (try split) <;> omega
      simp [cmpE, orL, nz, this]
    · have e : a = c := by simpa using e
      show (cmpI b d, ()) = (cmpE (a, b) (c, d), ())
      congr 1
      subst e
      simp only [cmpE, orL, cmpI_self]
      simp)
noncomputable abbrev W2 : Ex := mkEx Try.prog [(65, pureSp [Entry, Entry] [i64] (fun _ => True) (fun x => (cmpE x.1 x.2.1, ()))), KSr]
theorem W2_ok : W2.Sound := mkEx_sound ⟨pureSp_ok ce7_ok, pureSp_ok Rf.rcompare_ok, trivial⟩
theorem tJE7 (a b c d : Int) : @Eq _
  (fnT W2 [] 100 Try.f53 [Entry, Entry] [Entry] ((a, b), (c, d), ()))
  (.req (True) (
 .fork (decide (Pl.cmpE (c, d) (a, b) > (0 : Int))) (
  .leaf (((c, d), ()))) (
  .leaf (((a, b), ())))) : Tree ((Int × Int) × PUnit)) := by kernel_rfl
theorem je7_ok : PureOK Try.prog 53 [Entry, Entry] [Entry] (fun _ => True) (fun x => (joinE x.1 x.2.1, ())) :=
  fn_pure (E := W2) (n := 100) W2_ok Try.func53 (by kernel_rfl) .nil fun x _ => Tree.all_eq (tJE7 x.1.1 x.1.2 x.2.1.1 x.2.1.2) (by
    obtain ⟨⟨a, b⟩, ⟨c, d⟩, _⟩ : (Int × Int) × (Int × Int) × Unit := x
    refine ⟨trivial, fun e => ?_, fun e => ?_⟩
    · show ((c, d), ()) = (joinE (a, b) (c, d), ())
      rw [joinE, if_pos (of_decide_eq_true e)]
    · show ((a, b), ()) = (joinE (a, b) (c, d), ())
      rw [joinE, if_neg (of_decide_eq_false e)])
abbrev S2t : TDs [Plan, Plan] → Prop := fun x => (List.length (α := Int) x.1.2.2 : Int) < 1000000 ∧ (List.length (α := Int) x.2.1.2.2 : Int) < 1000000
abbrev S2m : TDs [Ring, Ring] → Prop := fun x => okR x.1 ∧ okR x.2.1 ∧ (List.length (α := Int) x.1.2.1.2.2 : Int) < 1000000 ∧ (List.length (α := Int) x.2.1.2.1.2.2 : Int) < 1000000
theorem tJP7 (p q : PlanD) : @Eq _
  (fnT W2 [] 100 Try.f52 [Plan, Plan] [Plan] (p, q, ()))
  (.req ((↑q.2.2.length : Int) < (4611686018427387904 : Int)) (
 .fork (decide (Pl.cmpP q p > (0 : Int))) (
  .req ((0 + q.2.2.length) * 9 ≤ 70368744177664) (
   .leaf (((q.1, q.2.1, ([] : List Int) ++ q.2.2), ())))) (
  .req ((0 + p.2.2.length) * 9 ≤ 70368744177664) (
   .leaf (((p.1, p.2.1, ([] : List Int) ++ p.2.2), ()))))) : Tree ((Int × Int × List Int) × PUnit)) := by kernel_rfl
theorem jp7_ok : PureOK Try.prog 52 [Plan, Plan] [Plan] S2t (fun x => (joinP x.1 x.2.1, ())) :=
  fn_pure (E := W2) (n := 100) W2_ok Try.func52 (by kernel_rfl) .nil fun x h => Tree.all_eq (tJP7 x.1 x.2.1) (by
    obtain ⟨p, q, _⟩ : PlanD × PlanD × Unit := x
    obtain ⟨h1, h2⟩ : (p.2.2.length : Int) < 1000000 ∧ (q.2.2.length : Int) < 1000000 := h
    refine ⟨by dsimp only; omega, fun e => ⟨by dsimp only; omega, ?_⟩, fun e => ⟨by dsimp only; omega, ?_⟩⟩
    · show ((q.1, q.2.1, [] ++ q.2.2), ()) = (joinP p q, ())
      rw [joinP, if_pos (of_decide_eq_true e)]; rfl
    · show ((p.1, p.2.1, [] ++ p.2.2), ()) = (joinP p q, ())
      rw [joinP, if_neg (of_decide_eq_false e)]; rfl)
noncomputable abbrev W3 : Ex := mkExM Try.prog [(52, pureSp [Plan, Plan] [Plan] S2t (fun x => (joinP x.1 x.2.1, ()))), (53, pureSp [Entry, Entry] [Entry] (fun _ => True) (fun x => (joinE x.1 x.2.1, ())))]
theorem W3_ok : W3.Sound := mkExM_sound ⟨pureSp_ok jp7_ok, pureSp_ok je7_ok, trivial⟩
theorem tJR7 (a b : RingD) : @Eq _
  (fnT W3 [] 100 Try.f31 [Ring, Ring] [Ring] (a, b, ()))
  (.req ((↑a.2.1.2.2.length : Int) < (1000000 : Int) ∧ (↑b.2.1.2.2.length : Int) < (1000000 : Int)) (
 .req (True) (
  .req (True) (
   .req (True) (
    .req (True) (
     .req (True) (
      .req (True) (
       .req (True) (
        .req (True) (
         .req (True) (
          .req (True) (
           .req (True) (
            .req (True) (
             .req (True) (
              .req (True) (
               .req (True) (
                .req (True) (
                 .leaf (((tabL 8 fun j => if b.1.getD j (0 : Int) > a.1.getD j (0 : Int) then b.1.getD j (0 : Int) else a.1.getD j (0 : Int), Pl.joinP a.2.1 b.2.1, tabL 16 fun j => Pl.joinE (a.2.2.getD j ((0 : Int), (0 : Int))) (b.2.2.getD j ((0 : Int), (0 : Int)))), ()))))))))))))))))))) : Tree ((List Int × (Int × Int × List Int) × List (Int × Int)) × PUnit)) := by kernel_rfl
theorem jr7_ok : PureOK Try.prog 31 [Ring, Ring] [Ring] S2m (fun x => (joinR x.1 x.2.1, ())) :=
  fn_pure (E := W3) (n := 100) W3_ok Try.func31 (by kernel_rfl) .nil fun x h => Tree.all_eq (tJR7 x.1 x.2.1) (by
    obtain ⟨h1, h2, h3, h4⟩ := h
    simp only [Tree.all, true_and]
    exact ⟨⟨h3, h4⟩, rfl⟩)
abbrev KJ7 : Nat × Sx.Spec := (31, pureSp [Ring, Ring] [Ring] S2m (fun x => (joinR x.1 x.2.1, ())))
noncomputable abbrev W4 : Ex := mkExM Try.prog [KJ7, (49, pureSp [Ring, Ring] [.bool] S2r (fun x => (sameR x.1 x.2.1, ())))]
theorem W4_ok : W4.Sound := mkExM_sound ⟨pureSp_ok jr7_ok, pureSp_ok same7_ok, trivial⟩
theorem tBR7 (a b : RingD) : @Eq _
  (fnT W4 [] 100 Try.f29 [Ring, Ring] [.bool] (a, b, ()))
  (.req ((8 = 8 ∧ 16 = 16) ∧ (8 = 8 ∧ 16 = 16) ∧ (↑a.2.1.2.2.length : Int) < (1000000 : Int) ∧ (↑b.2.1.2.2.length : Int) < (1000000 : Int)) (
 .req ((8 = 8 ∧ 16 = 16) ∧ (8 = 8 ∧ 16 = 16) ∧ (↑(Pl.joinP a.2.1 b.2.1).2.2.length : Int) < (17592186044416 : Int) ∧ (↑b.2.1.2.2.length : Int) < (17592186044416 : Int)) (
  .leaf ((Pl.sameR (tab 8 (tabL 8 fun j => Pl.mxI ((tab 8 a.1 (0 : Int)).getD j (0 : Int)) ((tab 8 b.1 (0 : Int)).getD j (0 : Int))) (0 : Int), Pl.joinP a.2.1 b.2.1, tab 16 (tabL 16 fun j => Pl.joinE (a.2.2.getD j ((0 : Int), (0 : Int))) (b.2.2.getD j ((0 : Int), (0 : Int)))) ((0 : Int), (0 : Int))) (tab 8 b.1 (0 : Int), b.2.1, tab 16 b.2.2 ((0 : Int), (0 : Int))), ())))) : Tree (Bool × PUnit)) := by kernel_rfl
theorem br7_ok : PureOK Try.prog 29 [Ring, Ring] [.bool] S2m (fun x => (belowR x.1 x.2.1, ())) :=
  fn_pure (E := W4) (n := 100) W4_ok Try.func29 (by kernel_rfl) .nil fun x h => Tree.all_eq (tBR7 x.1 x.2.1) (by
    obtain ⟨a, b, _⟩ : RingD × RingD × Unit := x
    obtain ⟨h1, h2, h3, h4⟩ : okR a ∧ okR b ∧ (a.2.1.2.2.length : Int) < 1000000 ∧ (b.2.1.2.2.length : Int) < 1000000 := h
    refine ⟨⟨⟨rfl, rfl⟩, ⟨rfl, rfl⟩, h3, h4⟩, ⟨⟨rfl, rfl⟩, ⟨rfl, rfl⟩, (by have := joinP_small h3 h4; dsimp only; omega), by dsimp only; omega⟩, ?_⟩
    show (sameR (tab 8 (joinR (tab 8 a.1 0, a.2.1, tab 16 a.2.2 (0, 0)) (tab 8 b.1 0, b.2.1, tab 16 b.2.2 (0, 0))).1 0, (joinR (tab 8 a.1 0, a.2.1, tab 16 a.2.2 (0, 0)) (tab 8 b.1 0, b.2.1, tab 16 b.2.2 (0, 0))).2.1, tab 16 (joinR (tab 8 a.1 0, a.2.1, tab 16 a.2.2 (0, 0)) (tab 8 b.1 0, b.2.1, tab 16 b.2.2 (0, 0))).2.2 (0, 0)) (tab 8 b.1 0, b.2.1, tab 16 b.2.2 (0, 0)), ()) = (belowR a b, ())
    rw [tab_r (joinR_ok _ _), tab_r h1, tab_r h2]; rfl)
end Pl
