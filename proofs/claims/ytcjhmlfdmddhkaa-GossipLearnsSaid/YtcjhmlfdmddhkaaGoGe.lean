import Derived.Test.YtcjhmlfdmddhkaaGoGw
import Derived.Test.YtcjhmlfdmddhkaaSx34
import Derived.Test.YtcjhmlfdmddhkaaSx40
import Derived.Test.YtcjhmlfdmddhkaaGoCa
namespace Pl
open Go Sx Go.Proofs Go.RowKit
theorem gbL : Try.f8.body = some (bodyOf Try.f8) := by kernel_rfl
noncomputable abbrev g7 : Ex := mkExM Try.prog [KHv]
theorem g7_ok : g7.Sound := mkExM_sound ⟨fnI_ok (E := E0) E0_ok Try.func19 bodyH .nil, trivial⟩
abbrev calls : Ty := .slice Call
def lgF : List CallD → Int → Bool
  | [], _ => true
  | c :: r, i => if i ≥ 60 ∨ (c.2.2.1.2.1.2.2.length : Int) > 100 ∨ (c.2.2.2.1.length : Int) > 20 then false else lgF r (i + 1)
structure ALi where
  l : List CallD
  i : Int
def LLi : LoopC ALi where
  n0 := 1
  det st := match rowS st 5 Call, intS st 7 with | some l, some i0 => some ⟨l, i0⟩ | _, _ => none
  inv a := ⟨[(7, iv a.i), (6, iv (↑a.l.length : Int)), (5, .one (.row 0))],
    [(0, Gb.ro Call a.l)], 1⟩
  ok a := 0 ≤ a.i ∧ a.i ≤ a.l.length ∧ a.i ≤ 60
  mu a := a.l.length - a.i.toNat
  fin a := .fork (lgF (a.l.drop a.i.toNat) a.i) (.leaf ⟨2, ⟨[], [], 1⟩⟩) (.leaf ⟨1, ⟨[(2, .one (.cbool false))], [], 1⟩⟩)
theorem rLi (l : List CallD) (i : Int) : @Eq _
  (LLi.round g7 [] 100 Try.f8 0 ⟨l, i⟩)
  (.fork (decide (i < (↑l.length : Int))) (
 .req ((0 : Int) ≤ i ∧ i < (↑l.length : Int)) (
  .req ((0 : Int) ≤ i ∧ i < (↑l.length : Int)) (
   .fork (decide (i ≥ (60 : Int))) (
    .fork (Pl.lgF (List.drop i.toNat l) i) (
     .req (False) (
      .leaf (Option.none))) (
     .req (True) (
      .leaf (Option.none)))) (
    .fork (decide ((↑(l.getD i.toNat ((0 : Int), (0 : Int), (List.replicate 8 (0 : Int), ((0 : Int), (0 : Int), ([] : List Int)), List.replicate 16 ((0 : Int), (0 : Int))), ([] : List Int), (0 : Int))).2.2.1.2.1.2.2.length : Int) > (100 : Int))) (
     .fork (Pl.lgF (List.drop i.toNat l) i) (
      .req (False) (
       .leaf (Option.none))) (
      .req (True) (
       .leaf (Option.none)))) (
     .fork (decide ((↑(l.getD i.toNat ((0 : Int), (0 : Int), (List.replicate 8 (0 : Int), ((0 : Int), (0 : Int), ([] : List Int)), List.replicate 16 ((0 : Int), (0 : Int))), ([] : List Int), (0 : Int))).2.2.2.1.length : Int) > (20 : Int))) (
      .fork (Pl.lgF (List.drop i.toNat l) i) (
       .req (False) (
        .leaf (Option.none))) (
       .req (True) (
        .leaf (Option.none)))) (
      .req (IntKind.i64.wrap (i + (1 : Int)) = IntKind.i64.wrap (i + (1 : Int)) ∧ (↑l.length : Int) = (↑l.length : Int) ∧ l = l) (
       .leaf (Option.some { l := l, i := IntKind.i64.wrap (i + (1 : Int)) })))))))) (
 .fork (Pl.lgF (List.drop i.toNat l) i) (
  .req (True) (
   .leaf (Option.none))) (
  .req (False) (
   .leaf (Option.none)))) : Tree (Option Pl.ALi)) := by kernel_rfl
theorem tLi (l : List CallD) : @Eq _
  (fnT g7 [(0, LLi.sp)] 100 Try.f8 [calls] [.bool] (l, ()))
  (.req ((0 : Int) ≤ (0 : Int) ∧ (0 : Int) ≤ (↑l.length : Int) ∧ (0 : Int) ≤ (60 : Int)) (
 .req ((0 : Int) = (0 : Int) ∧ (↑l.length : Int) = (↑l.length : Int) ∧ l = l) (
  .fork (Pl.lgF l (0 : Int)) (
   .leaf ((true, ()))) (
   .leaf ((false, ()))))) : Tree (Bool × PUnit)) := by kernel_rfl
theorem lLi : LpsOK Try.prog Try.f8 [(0, LLi.sp)] := by
  refine .cons (LLi.sound g7_ok (lps := []) (n := 100) (inner rfl) (fun _ => rfl) ?_) .nil
  rintro ⟨l, i⟩ ⟨h1, h2, h3⟩
  simp only at h1 h2 h3
  rw [rLi]
  simp only [all_leaf, all_fork, all_req, conjP, true_and, and_true, decide_eq_true_eq, decide_eq_false_iff_not]
  have hstep : i < (l.length : Int) → lgF (l.drop i.toNat) i = if i ≥ 60 ∨ ((l.getD i.toNat (0, 0, zeroR, [], 0)).2.2.1.2.1.2.2.length : Int) > 100 ∨ ((l.getD i.toNat (0, 0, zeroR, [], 0)).2.2.2.1.length : Int) > 20 then false else lgF (l.drop (i + 1).toNat) (i + 1) := fun c => by
    rw [drop_cons (l := l) (0, 0, zeroR, [], 0) h1 c, lgF]
  have kill : lgF (l.drop i.toNat) i = false → lgF (l.drop i.toNat) i = true → False := fun e g => by rw [e] at g; cases g
  refine ⟨fun c => ⟨⟨h1, c⟩, ⟨h1, c⟩, fun d => ?_, fun d => ⟨fun e => ?_, fun e => ⟨fun f => ?_, fun f => ?_⟩⟩⟩, fun c => ?_⟩
  · have e0 : lgF (l.drop i.toNat) i = false := by rw [hstep c, if_pos (.inl d)]
    exact ⟨fun g => (kill e0 g).elim, fun _ => trivial⟩
  · have e0 : lgF (l.drop i.toNat) i = false := by rw [hstep c, if_pos (.inr (.inl e))]
    exact ⟨fun g => (kill e0 g).elim, fun _ => trivial⟩
  · have e0 : lgF (l.drop i.toNat) i = false := by rw [hstep c, if_pos (.inr (.inr f))]
    exact ⟨fun g => (kill e0 g).elim, fun _ => trivial⟩
  · rw [i64_inc (by omega) (by omega)]
    refine ⟨⟨by dsimp only; omega, by dsimp only; omega, by dsimp only; omega⟩, by simp only [LLi]; omega, ?_⟩
    simp only [LLi]
    rw [hstep c, if_neg (fun g => g.elim d fun g => g.elim e f)]
  · rw [drop_end c, lgF]
    exact ⟨fun _ => trivial, fun g => by cases g⟩
theorem light_ok : PureOK Try.prog 8 [calls] [.bool] (fun _ => True) (fun x => (lgF x.1 0, ())) :=
  fn_pure (E := g7) (n := 100) g7_ok Try.func8 gbL lLi fun x _ => by
    obtain ⟨l, _⟩ : List CallD × Unit := x
    refine Tree.all_eq (tLi l) ?_
    show Tree.all (α := Bool × Unit) _ (fun y => y = (lgF l 0, ()))
    simp only [all_leaf, all_fork, all_req, conjP, true_and, and_true]
    exact ⟨⟨by omega, by omega, by omega⟩, fun e => by rw [e], fun e => by rw [e]⟩
theorem lgF_all : ∀ (l : List CallD) (i : Int), lgF l i = true → (∀ c ∈ l, (c.2.2.1.2.1.2.2.length : Int) ≤ 100) ∧ (0 ≤ i → i ≤ 60 → (l.length : Int) ≤ 60 - i)
  | [], i, _ => ⟨fun _ h => (by cases h), fun _ _ => by simp; omega⟩
  | c :: r, i, h => by
    rw [lgF] at h
    split at h
    · cases h
    · rename_i g
      obtain ⟨h1, h2⟩ := lgF_all r (i + 1) h
      refine ⟨fun x hx => ?_, fun a b => ?_⟩
      · rcases List.mem_cons.1 hx with e | e
        · subst e; omega
        · exact h1 x e
      · have := h2 (by omega) (by omega)
        simp only [List.length_cons]; omega
end Pl
namespace Pl
open Go Sx Go.Proofs Go.RowKit
noncomputable abbrev g10 : Ex := mkExM Try.prog [KrS, KrM, KrJL, (10, fnI g4 [] 100 Try.f10), KHe, KKn, (8, pureSp [calls] [.bool] (fun _ => True) (fun x => (lgF x.1 0, ()))), (9, pureSp [] [.bool] (fun _ => True) (fun _ => (true, ())))]
theorem g10_ok : g10.Sound := mkExM_sound ⟨pureSp_ok rsame_ok, pureSp_ok rmay_ok, pureSpL_ok rjoin_ok, fnI_ok (E := g4) g4_ok Try.func10 gbNw .nil, fnI_ok (E := g4o) g4o_ok Try.func14 gbH .nil, gknI_ok, pureSp_ok light_ok, pureSp_ok aw_ok, trivial⟩
def knF (k : KnD) (i : Int) : RingD × Bool := if 0 ≤ i ∧ i < 8 then (match k.getD i.toNat none with | none => (zeroR, false) | some x => (x, true)) else (zeroR, false)
def heardL (self : Int) (k : KnD) (c : CallD) : KnD := if 0 ≤ c.2.1 ∧ c.2.1 < 8 ∧ c.2.1 ≠ self ∧ mayR c.2.2.1 = true then k.set c.2.1.toNat (some (joinR (knF k c.2.1).1 c.2.2.1)) else k
def stepL (n : Int) (s : KnD × RingD × Bool) (c : CallD) : KnD × RingD × Bool :=
  if c.2.1 = n ∧ mayR c.2.2.1 = true then (heardL 0 s.1 c, joinR s.2.1 c.2.2.1, true) else (heardL 0 s.1 c, s.2.1, s.2.2)
def fineR (x : RingD) : Prop := okR x ∧ (x.2.1.2.2.length : Int) ≤ 100
def fineK (k : KnD) : Prop := k.length = 8 ∧ ∀ x, some x ∈ k → fineR x
structure ALe where
  l : List CallD
  n : Int
  i : Int
  b : Bool
  w : RingD
  k : KnD
def LLe : LoopC ALe where
  n0 := 6
  det st := match rowS st 24 Call, intS st 1, intS st 26, boolS st 7, datO st 3 Ring, datO st 2 knT with | some l, some n, some i, some b, some w, some k => some ⟨l, n, i, b, w, k⟩ | _, _, _, _, _, _ => none
  inv a := ⟨[(26, iv a.i), (25, iv (↑a.l.length : Int)), (24, .one (.row 0)), (7, .one (.bool a.b)), (6, .one (.ptr 3 0)), (5, .one (.ptr 2 0)), (1, iv a.n)],
    [(3, .obj [] Ring a.w), (2, .obj [.cint .i64 0, .ptr 1 0] knT a.k), (1, .blk [.cint .i64 0, .nils]), (0, Gb.ro Call a.l)], 6⟩
  ok a := 0 ≤ a.i ∧ a.i ≤ a.l.length ∧ (a.l.length : Int) ≤ 60 ∧ fineK a.k ∧ fineR a.w ∧ ∀ c ∈ a.l, fineR c.2.2.1
  mu a := a.l.length - a.i.toNat
  fin a := .leaf ⟨2, ⟨[(7, .one (.bool ((a.l.drop a.i.toNat).foldl (stepL a.n) (a.k, a.w, a.b)).2.2)), (6, .one (.ptr 3 0)), (5, .one (.ptr 2 0)), (1, iv a.n)],
    [(3, .obj [] Ring ((a.l.drop a.i.toNat).foldl (stepL a.n) (a.k, a.w, a.b)).2.1), (2, .obj [.cint .i64 0, .ptr 1 0] knT ((a.l.drop a.i.toNat).foldl (stepL a.n) (a.k, a.w, a.b)).1), (1, .blk [.cint .i64 0, .nils])], 6⟩⟩
theorem rLe (l : List CallD) (n i : Int) (b : Bool) (w : RingD) (k : KnD) : @Eq _
  (LLe.round g10 [] 100 Try.f6 0 ⟨l, n, i, b, w, k⟩)
  (.fork (decide (i < (↑l.length : Int))) (
 .req ((0 : Int) ≤ i ∧ i < (↑l.length : Int)) (
  .req ((0 : Int) ≤ i ∧ i < (↑l.length : Int)) (
   .req (decide ((l.getD i.toNat ((0 : Int), (0 : Int), (List.replicate 8 (0 : Int), ((0 : Int), (0 : Int), ([] : List Int)), List.replicate 16 ((0 : Int), (0 : Int))), ([] : List Int), (0 : Int))).2.1 ≥ (0 : Int)) = true → conjP [(!decide ((l.getD i.toNat ((0 : Int), (0 : Int), (List.replicate 8 (0 : Int), ((0 : Int), (0 : Int), ([] : List Int)), List.replicate 16 ((0 : Int), (0 : Int))), ([] : List Int), (0 : Int))).2.1 < (8 : Int))) = false → conjP [((l.getD i.toNat ((0 : Int), (0 : Int), (List.replicate 8 (0 : Int), ((0 : Int), (0 : Int), ([] : List Int)), List.replicate 16 ((0 : Int), (0 : Int))), ([] : List Int), (0 : Int))).2.1 == (0 : Int)) = false → conjP [(8 = 8 ∧ 16 = 16) ∧ (↑(l.getD i.toNat ((0 : Int), (0 : Int), (List.replicate 8 (0 : Int), ((0 : Int), (0 : Int), ([] : List Int)), List.replicate 16 ((0 : Int), (0 : Int))), ([] : List Int), (0 : Int))).2.2.1.2.1.2.2.length : Int) < (17592186044416 : Int)]]]) (
    .fork (!decide ((l.getD i.toNat ((0 : Int), (0 : Int), (List.replicate 8 (0 : Int), ((0 : Int), (0 : Int), ([] : List Int)), List.replicate 16 ((0 : Int), (0 : Int))), ([] : List Int), (0 : Int))).2.1 ≥ (0 : Int)) || (!decide ((l.getD i.toNat ((0 : Int), (0 : Int), (List.replicate 8 (0 : Int), ((0 : Int), (0 : Int), ([] : List Int)), List.replicate 16 ((0 : Int), (0 : Int))), ([] : List Int), (0 : Int))).2.1 < (8 : Int)) || ((l.getD i.toNat ((0 : Int), (0 : Int), (List.replicate 8 (0 : Int), ((0 : Int), (0 : Int), ([] : List Int)), List.replicate 16 ((0 : Int), (0 : Int))), ([] : List Int), (0 : Int))).2.1 == (0 : Int) || !Pl.mayR (tab 8 (l.getD i.toNat ((0 : Int), (0 : Int), (List.replicate 8 (0 : Int), ((0 : Int), (0 : Int), ([] : List Int)), List.replicate 16 ((0 : Int), (0 : Int))), ([] : List Int), (0 : Int))).2.2.1.1 (0 : Int), (l.getD i.toNat ((0 : Int), (0 : Int), (List.replicate 8 (0 : Int), ((0 : Int), (0 : Int), ([] : List Int)), List.replicate 16 ((0 : Int), (0 : Int))), ([] : List Int), (0 : Int))).2.2.1.2.1, tab 16 (l.getD i.toNat ((0 : Int), (0 : Int), (List.replicate 8 (0 : Int), ((0 : Int), (0 : Int), ([] : List Int)), List.replicate 16 ((0 : Int), (0 : Int))), ([] : List Int), (0 : Int))).2.2.1.2.2 ((0 : Int), (0 : Int)))))) (
     .req (((l.getD i.toNat ((0 : Int), (0 : Int), (List.replicate 8 (0 : Int), ((0 : Int), (0 : Int), ([] : List Int)), List.replicate 16 ((0 : Int), (0 : Int))), ([] : List Int), (0 : Int))).2.1 == n) = true → conjP [(8 = 8 ∧ 16 = 16) ∧ (↑(l.getD i.toNat ((0 : Int), (0 : Int), (List.replicate 8 (0 : Int), ((0 : Int), (0 : Int), ([] : List Int)), List.replicate 16 ((0 : Int), (0 : Int))), ([] : List Int), (0 : Int))).2.2.1.2.1.2.2.length : Int) < (17592186044416 : Int)]) (
      .fork ((l.getD i.toNat ((0 : Int), (0 : Int), (List.replicate 8 (0 : Int), ((0 : Int), (0 : Int), ([] : List Int)), List.replicate 16 ((0 : Int), (0 : Int))), ([] : List Int), (0 : Int))).2.1 == n && Pl.mayR (tab 8 (l.getD i.toNat ((0 : Int), (0 : Int), (List.replicate 8 (0 : Int), ((0 : Int), (0 : Int), ([] : List Int)), List.replicate 16 ((0 : Int), (0 : Int))), ([] : List Int), (0 : Int))).2.2.1.1 (0 : Int), (l.getD i.toNat ((0 : Int), (0 : Int), (List.replicate 8 (0 : Int), ((0 : Int), (0 : Int), ([] : List Int)), List.replicate 16 ((0 : Int), (0 : Int))), ([] : List Int), (0 : Int))).2.2.1.2.1, tab 16 (l.getD i.toNat ((0 : Int), (0 : Int), (List.replicate 8 (0 : Int), ((0 : Int), (0 : Int), ([] : List Int)), List.replicate 16 ((0 : Int), (0 : Int))), ([] : List Int), (0 : Int))).2.2.1.2.2 ((0 : Int), (0 : Int)))) (
       .req (True) (
        .req ((8 = 8 ∧ 16 = 16) ∧ (8 = 8 ∧ 16 = 16) ∧ (↑w.2.1.2.2.length : Int) < (17592186044416 : Int) ∧ (↑(l.getD i.toNat ((0 : Int), (0 : Int), (List.replicate 8 (0 : Int), ((0 : Int), (0 : Int), ([] : List Int)), List.replicate 16 ((0 : Int), (0 : Int))), ([] : List Int), (0 : Int))).2.2.1.2.1.2.2.length : Int) < (17592186044416 : Int)) (
         .lt [(Ty.rep 8 (Ty.int IntKind.i64)).cat
    (((Ty.int IntKind.i64).cat ((Ty.int IntKind.i64).cat (Ty.int IntKind.i64).slice)).cat
      (Ty.rep 16 ((Ty.int IntKind.i64).cat (Ty.int IntKind.i64))))] ((Pl.joinR (tab 8 w.1 (0 : Int), w.2.1, tab 16 w.2.2 ((0 : Int), (0 : Int))) (tab 8 (l.getD i.toNat ((0 : Int), (0 : Int), (List.replicate 8 (0 : Int), ((0 : Int), (0 : Int), ([] : List Int)), List.replicate 16 ((0 : Int), (0 : Int))), ([] : List Int), (0 : Int))).2.2.1.1 (0 : Int), (l.getD i.toNat ((0 : Int), (0 : Int), (List.replicate 8 (0 : Int), ((0 : Int), (0 : Int), ([] : List Int)), List.replicate 16 ((0 : Int), (0 : Int))), ([] : List Int), (0 : Int))).2.2.1.2.1, tab 16 (l.getD i.toNat ((0 : Int), (0 : Int), (List.replicate 8 (0 : Int), ((0 : Int), (0 : Int), ([] : List Int)), List.replicate 16 ((0 : Int), (0 : Int))), ([] : List Int), (0 : Int))).2.2.1.2.2 ((0 : Int), (0 : Int))), ())) (fun (y1 : (List Int × (Int × Int × List Int) × List (Int × Int)) × PUnit) => (
          .req (True) (
           .req (IntKind.i64.wrap (i + (1 : Int)) = IntKind.i64.wrap (i + (1 : Int)) ∧ (↑l.length : Int) = (↑l.length : Int) ∧ true = true ∧ n = n ∧ (tab 8 y1.1.1 (0 : Int), y1.1.2.1, tab 16 y1.1.2.2 ((0 : Int), (0 : Int))) = (tab 8 y1.1.1 (0 : Int), y1.1.2.1, tab 16 y1.1.2.2 ((0 : Int), (0 : Int))) ∧ k = k ∧ l = l) (
            .leaf (Option.some { l := l, n := n, i := IntKind.i64.wrap (i + (1 : Int)), b := true, w := (tab 8 y1.1.1 (0 : Int), y1.1.2.1, tab 16 y1.1.2.2 ((0 : Int), (0 : Int))), k := k })))))))) (
       .req (IntKind.i64.wrap (i + (1 : Int)) = IntKind.i64.wrap (i + (1 : Int)) ∧ (↑l.length : Int) = (↑l.length : Int) ∧ b = b ∧ n = n ∧ w = w ∧ k = k ∧ l = l) (
        .leaf (Option.some { l := l, n := n, i := IntKind.i64.wrap (i + (1 : Int)), b := b, w := w, k := k }))))) (
     .req ((decide ((l.getD i.toNat ((0 : Int), (0 : Int), (List.replicate 8 (0 : Int), ((0 : Int), (0 : Int), ([] : List Int)), List.replicate 16 ((0 : Int), (0 : Int))), ([] : List Int), (0 : Int))).2.1 ≥ (0 : Int)) = true → conjP [(!decide ((l.getD i.toNat ((0 : Int), (0 : Int), (List.replicate 8 (0 : Int), ((0 : Int), (0 : Int), ([] : List Int)), List.replicate 16 ((0 : Int), (0 : Int))), ([] : List Int), (0 : Int))).2.1 < (8 : Int))) = true → conjP ((k = k) :: ([] : List Prop)), (!decide ((l.getD i.toNat ((0 : Int), (0 : Int), (List.replicate 8 (0 : Int), ((0 : Int), (0 : Int), ([] : List Int)), List.replicate 16 ((0 : Int), (0 : Int))), ([] : List Int), (0 : Int))).2.1 < (8 : Int))) = false → conjP [(0 : Int) ≤ (l.getD i.toNat ((0 : Int), (0 : Int), (List.replicate 8 (0 : Int), ((0 : Int), (0 : Int), ([] : List Int)), List.replicate 16 ((0 : Int), (0 : Int))), ([] : List Int), (0 : Int))).2.1 ∧ (l.getD i.toNat ((0 : Int), (0 : Int), (List.replicate 8 (0 : Int), ((0 : Int), (0 : Int), ([] : List Int)), List.replicate 16 ((0 : Int), (0 : Int))), ([] : List Int), (0 : Int))).2.1 < (8 : Int), (0 : Int) ≤ (l.getD i.toNat ((0 : Int), (0 : Int), (List.replicate 8 (0 : Int), ((0 : Int), (0 : Int), ([] : List Int)), List.replicate 16 ((0 : Int), (0 : Int))), ([] : List Int), (0 : Int))).2.1 ∧ (l.getD i.toNat ((0 : Int), (0 : Int), (List.replicate 8 (0 : Int), ((0 : Int), (0 : Int), ([] : List Int)), List.replicate 16 ((0 : Int), (0 : Int))), ([] : List Int), (0 : Int))).2.1 < (8 : Int), (List.getD k (l.getD i.toNat ((0 : Int), (0 : Int), (List.replicate 8 (0 : Int), ((0 : Int), (0 : Int), ([] : List Int)), List.replicate 16 ((0 : Int), (0 : Int))), ([] : List Int), (0 : Int))).2.1.toNat Option.none).isNone = true → conjP ((k = k) :: ([] : List Prop)), (List.getD k (l.getD i.toNat ((0 : Int), (0 : Int), (List.replicate 8 (0 : Int), ((0 : Int), (0 : Int), ([] : List Int)), List.replicate 16 ((0 : Int), (0 : Int))), ([] : List Int), (0 : Int))).2.1.toNat Option.none).isNone = false → conjP [(0 : Int) ≤ (l.getD i.toNat ((0 : Int), (0 : Int), (List.replicate 8 (0 : Int), ((0 : Int), (0 : Int), ([] : List Int)), List.replicate 16 ((0 : Int), (0 : Int))), ([] : List Int), (0 : Int))).2.1 ∧ (l.getD i.toNat ((0 : Int), (0 : Int), (List.replicate 8 (0 : Int), ((0 : Int), (0 : Int), ([] : List Int)), List.replicate 16 ((0 : Int), (0 : Int))), ([] : List Int), (0 : Int))).2.1 < (8 : Int), (0 : Int) ≤ (l.getD i.toNat ((0 : Int), (0 : Int), (List.replicate 8 (0 : Int), ((0 : Int), (0 : Int), ([] : List Int)), List.replicate 16 ((0 : Int), (0 : Int))), ([] : List Int), (0 : Int))).2.1 ∧ (l.getD i.toNat ((0 : Int), (0 : Int), (List.replicate 8 (0 : Int), ((0 : Int), (0 : Int), ([] : List Int)), List.replicate 16 ((0 : Int), (0 : Int))), ([] : List Int), (0 : Int))).2.1 < (8 : Int), (List.getD k (l.getD i.toNat ((0 : Int), (0 : Int), (List.replicate 8 (0 : Int), ((0 : Int), (0 : Int), ([] : List Int)), List.replicate 16 ((0 : Int), (0 : Int))), ([] : List Int), (0 : Int))).2.1.toNat Option.none).isNone = false, (List.getD k (l.getD i.toNat ((0 : Int), (0 : Int), (List.replicate 8 (0 : Int), ((0 : Int), (0 : Int), ([] : List Int)), List.replicate 16 ((0 : Int), (0 : Int))), ([] : List Int), (0 : Int))).2.1.toNat Option.none).isSome = true, (8 = 8 ∧ 16 = 16) ∧ (8 = 8 ∧ 16 = 16) ∧ (↑((List.getD k (l.getD i.toNat ((0 : Int), (0 : Int), (List.replicate 8 (0 : Int), ((0 : Int), (0 : Int), ([] : List Int)), List.replicate 16 ((0 : Int), (0 : Int))), ([] : List Int), (0 : Int))).2.1.toNat Option.none).getD (List.replicate 8 (0 : Int), ((0 : Int), (0 : Int), ([] : List Int)), List.replicate 16 ((0 : Int), (0 : Int)))).2.1.2.2.length : Int) < (17592186044416 : Int) ∧ (↑((List.getD k (l.getD i.toNat ((0 : Int), (0 : Int), (List.replicate 8 (0 : Int), ((0 : Int), (0 : Int), ([] : List Int)), List.replicate 16 ((0 : Int), (0 : Int))), ([] : List Int), (0 : Int))).2.1.toNat Option.none).getD (List.replicate 8 (0 : Int), ((0 : Int), (0 : Int), ([] : List Int)), List.replicate 16 ((0 : Int), (0 : Int)))).2.1.2.2.length : Int) < (17592186044416 : Int), k = k]]]) ∧ (decide ((l.getD i.toNat ((0 : Int), (0 : Int), (List.replicate 8 (0 : Int), ((0 : Int), (0 : Int), ([] : List Int)), List.replicate 16 ((0 : Int), (0 : Int))), ([] : List Int), (0 : Int))).2.1 ≥ (0 : Int)) = false → conjP ((k = k) :: ([] : List Prop)))) (
      .lt [(Ty.rep 8 (Ty.int IntKind.i64)).cat
    (((Ty.int IntKind.i64).cat ((Ty.int IntKind.i64).cat (Ty.int IntKind.i64).slice)).cat
      (Ty.rep 16 ((Ty.int IntKind.i64).cat (Ty.int IntKind.i64)))),
  Ty.bool] (bif decide ((l.getD i.toNat ((0 : Int), (0 : Int), (List.replicate 8 (0 : Int), ((0 : Int), (0 : Int), ([] : List Int)), List.replicate 16 ((0 : Int), (0 : Int))), ([] : List Int), (0 : Int))).2.1 ≥ (0 : Int)) then bif !decide ((l.getD i.toNat ((0 : Int), (0 : Int), (List.replicate 8 (0 : Int), ((0 : Int), (0 : Int), ([] : List Int)), List.replicate 16 ((0 : Int), (0 : Int))), ([] : List Int), (0 : Int))).2.1 < (8 : Int)) then ((List.replicate 8 (0 : Int), ((0 : Int), (0 : Int), ([] : List Int)), List.replicate 16 ((0 : Int), (0 : Int))), false, ()) else bif (List.getD k (l.getD i.toNat ((0 : Int), (0 : Int), (List.replicate 8 (0 : Int), ((0 : Int), (0 : Int), ([] : List Int)), List.replicate 16 ((0 : Int), (0 : Int))), ([] : List Int), (0 : Int))).2.1.toNat Option.none).isNone then ((List.replicate 8 (0 : Int), ((0 : Int), (0 : Int), ([] : List Int)), List.replicate 16 ((0 : Int), (0 : Int))), false, ()) else ((tab 8 (Pl.joinR (tab 8 ((List.getD k (l.getD i.toNat ((0 : Int), (0 : Int), (List.replicate 8 (0 : Int), ((0 : Int), (0 : Int), ([] : List Int)), List.replicate 16 ((0 : Int), (0 : Int))), ([] : List Int), (0 : Int))).2.1.toNat Option.none).getD (List.replicate 8 (0 : Int), ((0 : Int), (0 : Int), ([] : List Int)), List.replicate 16 ((0 : Int), (0 : Int)))).1 (0 : Int), ((List.getD k (l.getD i.toNat ((0 : Int), (0 : Int), (List.replicate 8 (0 : Int), ((0 : Int), (0 : Int), ([] : List Int)), List.replicate 16 ((0 : Int), (0 : Int))), ([] : List Int), (0 : Int))).2.1.toNat Option.none).getD (List.replicate 8 (0 : Int), ((0 : Int), (0 : Int), ([] : List Int)), List.replicate 16 ((0 : Int), (0 : Int)))).2.1, tab 16 ((List.getD k (l.getD i.toNat ((0 : Int), (0 : Int), (List.replicate 8 (0 : Int), ((0 : Int), (0 : Int), ([] : List Int)), List.replicate 16 ((0 : Int), (0 : Int))), ([] : List Int), (0 : Int))).2.1.toNat Option.none).getD (List.replicate 8 (0 : Int), ((0 : Int), (0 : Int), ([] : List Int)), List.replicate 16 ((0 : Int), (0 : Int)))).2.2 ((0 : Int), (0 : Int))) (tab 8 ((List.getD k (l.getD i.toNat ((0 : Int), (0 : Int), (List.replicate 8 (0 : Int), ((0 : Int), (0 : Int), ([] : List Int)), List.replicate 16 ((0 : Int), (0 : Int))), ([] : List Int), (0 : Int))).2.1.toNat Option.none).getD (List.replicate 8 (0 : Int), ((0 : Int), (0 : Int), ([] : List Int)), List.replicate 16 ((0 : Int), (0 : Int)))).1 (0 : Int), ((List.getD k (l.getD i.toNat ((0 : Int), (0 : Int), (List.replicate 8 (0 : Int), ((0 : Int), (0 : Int), ([] : List Int)), List.replicate 16 ((0 : Int), (0 : Int))), ([] : List Int), (0 : Int))).2.1.toNat Option.none).getD (List.replicate 8 (0 : Int), ((0 : Int), (0 : Int), ([] : List Int)), List.replicate 16 ((0 : Int), (0 : Int)))).2.1, tab 16 ((List.getD k (l.getD i.toNat ((0 : Int), (0 : Int), (List.replicate 8 (0 : Int), ((0 : Int), (0 : Int), ([] : List Int)), List.replicate 16 ((0 : Int), (0 : Int))), ([] : List Int), (0 : Int))).2.1.toNat Option.none).getD (List.replicate 8 (0 : Int), ((0 : Int), (0 : Int), ([] : List Int)), List.replicate 16 ((0 : Int), (0 : Int)))).2.2 ((0 : Int), (0 : Int)))).1 (0 : Int), (Pl.joinR (tab 8 ((List.getD k (l.getD i.toNat ((0 : Int), (0 : Int), (List.replicate 8 (0 : Int), ((0 : Int), (0 : Int), ([] : List Int)), List.replicate 16 ((0 : Int), (0 : Int))), ([] : List Int), (0 : Int))).2.1.toNat Option.none).getD (List.replicate 8 (0 : Int), ((0 : Int), (0 : Int), ([] : List Int)), List.replicate 16 ((0 : Int), (0 : Int)))).1 (0 : Int), ((List.getD k (l.getD i.toNat ((0 : Int), (0 : Int), (List.replicate 8 (0 : Int), ((0 : Int), (0 : Int), ([] : List Int)), List.replicate 16 ((0 : Int), (0 : Int))), ([] : List Int), (0 : Int))).2.1.toNat Option.none).getD (List.replicate 8 (0 : Int), ((0 : Int), (0 : Int), ([] : List Int)), List.replicate 16 ((0 : Int), (0 : Int)))).2.1, tab 16 ((List.getD k (l.getD i.toNat ((0 : Int), (0 : Int), (List.replicate 8 (0 : Int), ((0 : Int), (0 : Int), ([] : List Int)), List.replicate 16 ((0 : Int), (0 : Int))), ([] : List Int), (0 : Int))).2.1.toNat Option.none).getD (List.replicate 8 (0 : Int), ((0 : Int), (0 : Int), ([] : List Int)), List.replicate 16 ((0 : Int), (0 : Int)))).2.2 ((0 : Int), (0 : Int))) (tab 8 ((List.getD k (l.getD i.toNat ((0 : Int), (0 : Int), (List.replicate 8 (0 : Int), ((0 : Int), (0 : Int), ([] : List Int)), List.replicate 16 ((0 : Int), (0 : Int))), ([] : List Int), (0 : Int))).2.1.toNat Option.none).getD (List.replicate 8 (0 : Int), ((0 : Int), (0 : Int), ([] : List Int)), List.replicate 16 ((0 : Int), (0 : Int)))).1 (0 : Int), ((List.getD k (l.getD i.toNat ((0 : Int), (0 : Int), (List.replicate 8 (0 : Int), ((0 : Int), (0 : Int), ([] : List Int)), List.replicate 16 ((0 : Int), (0 : Int))), ([] : List Int), (0 : Int))).2.1.toNat Option.none).getD (List.replicate 8 (0 : Int), ((0 : Int), (0 : Int), ([] : List Int)), List.replicate 16 ((0 : Int), (0 : Int)))).2.1, tab 16 ((List.getD k (l.getD i.toNat ((0 : Int), (0 : Int), (List.replicate 8 (0 : Int), ((0 : Int), (0 : Int), ([] : List Int)), List.replicate 16 ((0 : Int), (0 : Int))), ([] : List Int), (0 : Int))).2.1.toNat Option.none).getD (List.replicate 8 (0 : Int), ((0 : Int), (0 : Int), ([] : List Int)), List.replicate 16 ((0 : Int), (0 : Int)))).2.2 ((0 : Int), (0 : Int)))).2.1, tab 16 (Pl.joinR (tab 8 ((List.getD k (l.getD i.toNat ((0 : Int), (0 : Int), (List.replicate 8 (0 : Int), ((0 : Int), (0 : Int), ([] : List Int)), List.replicate 16 ((0 : Int), (0 : Int))), ([] : List Int), (0 : Int))).2.1.toNat Option.none).getD (List.replicate 8 (0 : Int), ((0 : Int), (0 : Int), ([] : List Int)), List.replicate 16 ((0 : Int), (0 : Int)))).1 (0 : Int), ((List.getD k (l.getD i.toNat ((0 : Int), (0 : Int), (List.replicate 8 (0 : Int), ((0 : Int), (0 : Int), ([] : List Int)), List.replicate 16 ((0 : Int), (0 : Int))), ([] : List Int), (0 : Int))).2.1.toNat Option.none).getD (List.replicate 8 (0 : Int), ((0 : Int), (0 : Int), ([] : List Int)), List.replicate 16 ((0 : Int), (0 : Int)))).2.1, tab 16 ((List.getD k (l.getD i.toNat ((0 : Int), (0 : Int), (List.replicate 8 (0 : Int), ((0 : Int), (0 : Int), ([] : List Int)), List.replicate 16 ((0 : Int), (0 : Int))), ([] : List Int), (0 : Int))).2.1.toNat Option.none).getD (List.replicate 8 (0 : Int), ((0 : Int), (0 : Int), ([] : List Int)), List.replicate 16 ((0 : Int), (0 : Int)))).2.2 ((0 : Int), (0 : Int))) (tab 8 ((List.getD k (l.getD i.toNat ((0 : Int), (0 : Int), (List.replicate 8 (0 : Int), ((0 : Int), (0 : Int), ([] : List Int)), List.replicate 16 ((0 : Int), (0 : Int))), ([] : List Int), (0 : Int))).2.1.toNat Option.none).getD (List.replicate 8 (0 : Int), ((0 : Int), (0 : Int), ([] : List Int)), List.replicate 16 ((0 : Int), (0 : Int)))).1 (0 : Int), ((List.getD k (l.getD i.toNat ((0 : Int), (0 : Int), (List.replicate 8 (0 : Int), ((0 : Int), (0 : Int), ([] : List Int)), List.replicate 16 ((0 : Int), (0 : Int))), ([] : List Int), (0 : Int))).2.1.toNat Option.none).getD (List.replicate 8 (0 : Int), ((0 : Int), (0 : Int), ([] : List Int)), List.replicate 16 ((0 : Int), (0 : Int)))).2.1, tab 16 ((List.getD k (l.getD i.toNat ((0 : Int), (0 : Int), (List.replicate 8 (0 : Int), ((0 : Int), (0 : Int), ([] : List Int)), List.replicate 16 ((0 : Int), (0 : Int))), ([] : List Int), (0 : Int))).2.1.toNat Option.none).getD (List.replicate 8 (0 : Int), ((0 : Int), (0 : Int), ([] : List Int)), List.replicate 16 ((0 : Int), (0 : Int)))).2.2 ((0 : Int), (0 : Int)))).2.2 ((0 : Int), (0 : Int))), true, ()) else ((List.replicate 8 (0 : Int), ((0 : Int), (0 : Int), ([] : List Int)), List.replicate 16 ((0 : Int), (0 : Int))), false, ())) (fun (y2 : (List Int × (Int × Int × List Int) × List (Int × Int)) × Bool × PUnit) => (
       .req ((8 = 8 ∧ 16 = 16) ∧ (8 = 8 ∧ 16 = 16) ∧ (↑y2.1.2.1.2.2.length : Int) < (17592186044416 : Int) ∧ (↑(l.getD i.toNat ((0 : Int), (0 : Int), (List.replicate 8 (0 : Int), ((0 : Int), (0 : Int), ([] : List Int)), List.replicate 16 ((0 : Int), (0 : Int))), ([] : List Int), (0 : Int))).2.2.1.2.1.2.2.length : Int) < (17592186044416 : Int)) (
        .lt [(Ty.rep 8 (Ty.int IntKind.i64)).cat
    (((Ty.int IntKind.i64).cat ((Ty.int IntKind.i64).cat (Ty.int IntKind.i64).slice)).cat
      (Ty.rep 16 ((Ty.int IntKind.i64).cat (Ty.int IntKind.i64))))] ((Pl.joinR (tab 8 y2.1.1 (0 : Int), y2.1.2.1, tab 16 y2.1.2.2 ((0 : Int), (0 : Int))) (tab 8 (l.getD i.toNat ((0 : Int), (0 : Int), (List.replicate 8 (0 : Int), ((0 : Int), (0 : Int), ([] : List Int)), List.replicate 16 ((0 : Int), (0 : Int))), ([] : List Int), (0 : Int))).2.2.1.1 (0 : Int), (l.getD i.toNat ((0 : Int), (0 : Int), (List.replicate 8 (0 : Int), ((0 : Int), (0 : Int), ([] : List Int)), List.replicate 16 ((0 : Int), (0 : Int))), ([] : List Int), (0 : Int))).2.2.1.2.1, tab 16 (l.getD i.toNat ((0 : Int), (0 : Int), (List.replicate 8 (0 : Int), ((0 : Int), (0 : Int), ([] : List Int)), List.replicate 16 ((0 : Int), (0 : Int))), ([] : List Int), (0 : Int))).2.2.1.2.2 ((0 : Int), (0 : Int))), ())) (fun (y3 : (List Int × (Int × Int × List Int) × List (Int × Int)) × PUnit) => (
         .req ((0 : Int) ≤ (l.getD i.toNat ((0 : Int), (0 : Int), (List.replicate 8 (0 : Int), ((0 : Int), (0 : Int), ([] : List Int)), List.replicate 16 ((0 : Int), (0 : Int))), ([] : List Int), (0 : Int))).2.1 ∧ (l.getD i.toNat ((0 : Int), (0 : Int), (List.replicate 8 (0 : Int), ((0 : Int), (0 : Int), ([] : List Int)), List.replicate 16 ((0 : Int), (0 : Int))), ([] : List Int), (0 : Int))).2.1 < (8 : Int)) (
          .req ((0 : Int) ≤ (l.getD i.toNat ((0 : Int), (0 : Int), (List.replicate 8 (0 : Int), ((0 : Int), (0 : Int), ([] : List Int)), List.replicate 16 ((0 : Int), (0 : Int))), ([] : List Int), (0 : Int))).2.1 ∧ (l.getD i.toNat ((0 : Int), (0 : Int), (List.replicate 8 (0 : Int), ((0 : Int), (0 : Int), ([] : List Int)), List.replicate 16 ((0 : Int), (0 : Int))), ([] : List Int), (0 : Int))).2.1 < (8 : Int)) (
           .req (((l.getD i.toNat ((0 : Int), (0 : Int), (List.replicate 8 (0 : Int), ((0 : Int), (0 : Int), ([] : List Int)), List.replicate 16 ((0 : Int), (0 : Int))), ([] : List Int), (0 : Int))).2.1 == n) = true → conjP [(8 = 8 ∧ 16 = 16) ∧ (↑(l.getD i.toNat ((0 : Int), (0 : Int), (List.replicate 8 (0 : Int), ((0 : Int), (0 : Int), ([] : List Int)), List.replicate 16 ((0 : Int), (0 : Int))), ([] : List Int), (0 : Int))).2.2.1.2.1.2.2.length : Int) < (17592186044416 : Int)]) (
            .fork ((l.getD i.toNat ((0 : Int), (0 : Int), (List.replicate 8 (0 : Int), ((0 : Int), (0 : Int), ([] : List Int)), List.replicate 16 ((0 : Int), (0 : Int))), ([] : List Int), (0 : Int))).2.1 == n && Pl.mayR (tab 8 (l.getD i.toNat ((0 : Int), (0 : Int), (List.replicate 8 (0 : Int), ((0 : Int), (0 : Int), ([] : List Int)), List.replicate 16 ((0 : Int), (0 : Int))), ([] : List Int), (0 : Int))).2.2.1.1 (0 : Int), (l.getD i.toNat ((0 : Int), (0 : Int), (List.replicate 8 (0 : Int), ((0 : Int), (0 : Int), ([] : List Int)), List.replicate 16 ((0 : Int), (0 : Int))), ([] : List Int), (0 : Int))).2.2.1.2.1, tab 16 (l.getD i.toNat ((0 : Int), (0 : Int), (List.replicate 8 (0 : Int), ((0 : Int), (0 : Int), ([] : List Int)), List.replicate 16 ((0 : Int), (0 : Int))), ([] : List Int), (0 : Int))).2.2.1.2.2 ((0 : Int), (0 : Int)))) (
             .req (True) (
              .req ((8 = 8 ∧ 16 = 16) ∧ (8 = 8 ∧ 16 = 16) ∧ (↑w.2.1.2.2.length : Int) < (17592186044416 : Int) ∧ (↑(l.getD i.toNat ((0 : Int), (0 : Int), (List.replicate 8 (0 : Int), ((0 : Int), (0 : Int), ([] : List Int)), List.replicate 16 ((0 : Int), (0 : Int))), ([] : List Int), (0 : Int))).2.2.1.2.1.2.2.length : Int) < (17592186044416 : Int)) (
               .lt [(Ty.rep 8 (Ty.int IntKind.i64)).cat
    (((Ty.int IntKind.i64).cat ((Ty.int IntKind.i64).cat (Ty.int IntKind.i64).slice)).cat
      (Ty.rep 16 ((Ty.int IntKind.i64).cat (Ty.int IntKind.i64))))] ((Pl.joinR (tab 8 w.1 (0 : Int), w.2.1, tab 16 w.2.2 ((0 : Int), (0 : Int))) (tab 8 (l.getD i.toNat ((0 : Int), (0 : Int), (List.replicate 8 (0 : Int), ((0 : Int), (0 : Int), ([] : List Int)), List.replicate 16 ((0 : Int), (0 : Int))), ([] : List Int), (0 : Int))).2.2.1.1 (0 : Int), (l.getD i.toNat ((0 : Int), (0 : Int), (List.replicate 8 (0 : Int), ((0 : Int), (0 : Int), ([] : List Int)), List.replicate 16 ((0 : Int), (0 : Int))), ([] : List Int), (0 : Int))).2.2.1.2.1, tab 16 (l.getD i.toNat ((0 : Int), (0 : Int), (List.replicate 8 (0 : Int), ((0 : Int), (0 : Int), ([] : List Int)), List.replicate 16 ((0 : Int), (0 : Int))), ([] : List Int), (0 : Int))).2.2.1.2.2 ((0 : Int), (0 : Int))), ())) (fun (y4 : (List Int × (Int × Int × List Int) × List (Int × Int)) × PUnit) => (
                .req (True) (
                 .req (IntKind.i64.wrap (i + (1 : Int)) = IntKind.i64.wrap (i + (1 : Int)) ∧ (↑l.length : Int) = (↑l.length : Int) ∧ true = true ∧ n = n ∧ (tab 8 y4.1.1 (0 : Int), y4.1.2.1, tab 16 y4.1.2.2 ((0 : Int), (0 : Int))) = (tab 8 y4.1.1 (0 : Int), y4.1.2.1, tab 16 y4.1.2.2 ((0 : Int), (0 : Int))) ∧ List.set k (l.getD i.toNat ((0 : Int), (0 : Int), (List.replicate 8 (0 : Int), ((0 : Int), (0 : Int), ([] : List Int)), List.replicate 16 ((0 : Int), (0 : Int))), ([] : List Int), (0 : Int))).2.1.toNat (Option.some (tab 8 y3.1.1 (0 : Int), y3.1.2.1, tab 16 y3.1.2.2 ((0 : Int), (0 : Int)))) = List.set k (l.getD i.toNat ((0 : Int), (0 : Int), (List.replicate 8 (0 : Int), ((0 : Int), (0 : Int), ([] : List Int)), List.replicate 16 ((0 : Int), (0 : Int))), ([] : List Int), (0 : Int))).2.1.toNat (Option.some (tab 8 y3.1.1 (0 : Int), y3.1.2.1, tab 16 y3.1.2.2 ((0 : Int), (0 : Int)))) ∧ l = l) (
                  .leaf (Option.some { l := l, n := n, i := IntKind.i64.wrap (i + (1 : Int)), b := true, w := (tab 8 y4.1.1 (0 : Int), y4.1.2.1, tab 16 y4.1.2.2 ((0 : Int), (0 : Int))), k := List.set k (l.getD i.toNat ((0 : Int), (0 : Int), (List.replicate 8 (0 : Int), ((0 : Int), (0 : Int), ([] : List Int)), List.replicate 16 ((0 : Int), (0 : Int))), ([] : List Int), (0 : Int))).2.1.toNat (Option.some (tab 8 y3.1.1 (0 : Int), y3.1.2.1, tab 16 y3.1.2.2 ((0 : Int), (0 : Int)))) })))))))) (
             .req (IntKind.i64.wrap (i + (1 : Int)) = IntKind.i64.wrap (i + (1 : Int)) ∧ (↑l.length : Int) = (↑l.length : Int) ∧ b = b ∧ n = n ∧ w = w ∧ List.set k (l.getD i.toNat ((0 : Int), (0 : Int), (List.replicate 8 (0 : Int), ((0 : Int), (0 : Int), ([] : List Int)), List.replicate 16 ((0 : Int), (0 : Int))), ([] : List Int), (0 : Int))).2.1.toNat (Option.some (tab 8 y3.1.1 (0 : Int), y3.1.2.1, tab 16 y3.1.2.2 ((0 : Int), (0 : Int)))) = List.set k (l.getD i.toNat ((0 : Int), (0 : Int), (List.replicate 8 (0 : Int), ((0 : Int), (0 : Int), ([] : List Int)), List.replicate 16 ((0 : Int), (0 : Int))), ([] : List Int), (0 : Int))).2.1.toNat (Option.some (tab 8 y3.1.1 (0 : Int), y3.1.2.1, tab 16 y3.1.2.2 ((0 : Int), (0 : Int)))) ∧ l = l) (
              .leaf (Option.some { l := l, n := n, i := IntKind.i64.wrap (i + (1 : Int)), b := b, w := w, k := List.set k (l.getD i.toNat ((0 : Int), (0 : Int), (List.replicate 8 (0 : Int), ((0 : Int), (0 : Int), ([] : List Int)), List.replicate 16 ((0 : Int), (0 : Int))), ([] : List Int), (0 : Int))).2.1.toNat (Option.some (tab 8 y3.1.1 (0 : Int), y3.1.2.1, tab 16 y3.1.2.2 ((0 : Int), (0 : Int)))) }))))))))))))))))) (
 .req (b = (List.foldl (Pl.stepL n) (k, w, b) (List.drop i.toNat l)).2.2 ∧ n = n ∧ w = (List.foldl (Pl.stepL n) (k, w, b) (List.drop i.toNat l)).2.1 ∧ k = (List.foldl (Pl.stepL n) (k, w, b) (List.drop i.toNat l)).1) (
  .leaf (Option.none))) : Tree (Option Pl.ALe)) := by kernel_rfl
theorem tLe (l : List CallD) (n : Int) : @Eq _
  (fnT g10 [(0, viaV 6 [.obj 5 2 knT, .obj 6 0 Ring] LLe.sp)] 100 Try.f6 [calls, i64] [.bool] (l, n, ()))
  (.req (True) (
 .fork (!Pl.lgF l (0 : Int)) (
  .req (True) (
   .leaf ((true, ())))) (
  .req ((7 : Int) ≠ (0 : Int)) (
   .req ((0 : Int) ≤ (0 : Int) ∧ (0 : Int) ≤ (↑l.length : Int) ∧ (↑l.length : Int) ≤ (60 : Int) ∧ (8 = 8 ∧ ∀ (x : Pl.RingD), Option.some x ∈ (List.replicate 8 Option.none : List (Option RingD)) → Pl.fineR x) ∧ ((8 = 8 ∧ 16 = 16) ∧ (0 : Int) ≤ (100 : Int)) ∧ ∀ (c : Pl.CallD), c ∈ l → Pl.fineR c.snd.snd.fst) (
    .req ((0 : Int) = (0 : Int) ∧ (↑l.length : Int) = (↑l.length : Int) ∧ false = false ∧ IntKind.i64.wrap ((1 : Int) + IntKind.i64.wrap ((IntKind.u64.wrap n).tmod (7 : Int))) = IntKind.i64.wrap ((1 : Int) + IntKind.i64.wrap ((IntKind.u64.wrap n).tmod (7 : Int))) ∧ (List.replicate 8 (0 : Int), ((0 : Int), (0 : Int), ([] : List Int)), List.replicate 16 ((0 : Int), (0 : Int))) = (List.replicate 8 (0 : Int), ((0 : Int), (0 : Int), ([] : List Int)), List.replicate 16 ((0 : Int), (0 : Int))) ∧ (List.replicate 8 Option.none : List (Option RingD)) = (List.replicate 8 Option.none : List (Option RingD)) ∧ l = l) (
     .req ((decide (IntKind.i64.wrap ((1 : Int) + IntKind.i64.wrap ((IntKind.u64.wrap n).tmod (7 : Int))) ≥ (0 : Int)) = true → conjP [(!decide (IntKind.i64.wrap ((1 : Int) + IntKind.i64.wrap ((IntKind.u64.wrap n).tmod (7 : Int))) < (8 : Int))) = true → conjP (((List.foldl (Pl.stepL (IntKind.i64.wrap ((1 : Int) + IntKind.i64.wrap ((IntKind.u64.wrap n).tmod (7 : Int))))) ((List.replicate 8 Option.none : List (Option RingD)), (List.replicate 8 (0 : Int), ((0 : Int), (0 : Int), ([] : List Int)), List.replicate 16 ((0 : Int), (0 : Int))), false) l).1 = (List.foldl (Pl.stepL (IntKind.i64.wrap ((1 : Int) + IntKind.i64.wrap ((IntKind.u64.wrap n).tmod (7 : Int))))) ((List.replicate 8 Option.none : List (Option RingD)), (List.replicate 8 (0 : Int), ((0 : Int), (0 : Int), ([] : List Int)), List.replicate 16 ((0 : Int), (0 : Int))), false) l).1) :: ([] : List Prop)), (!decide (IntKind.i64.wrap ((1 : Int) + IntKind.i64.wrap ((IntKind.u64.wrap n).tmod (7 : Int))) < (8 : Int))) = false → conjP [(0 : Int) ≤ IntKind.i64.wrap ((1 : Int) + IntKind.i64.wrap ((IntKind.u64.wrap n).tmod (7 : Int))) ∧ IntKind.i64.wrap ((1 : Int) + IntKind.i64.wrap ((IntKind.u64.wrap n).tmod (7 : Int))) < (8 : Int), (0 : Int) ≤ IntKind.i64.wrap ((1 : Int) + IntKind.i64.wrap ((IntKind.u64.wrap n).tmod (7 : Int))) ∧ IntKind.i64.wrap ((1 : Int) + IntKind.i64.wrap ((IntKind.u64.wrap n).tmod (7 : Int))) < (8 : Int), ((List.foldl (Pl.stepL (IntKind.i64.wrap ((1 : Int) + IntKind.i64.wrap ((IntKind.u64.wrap n).tmod (7 : Int))))) ((List.replicate 8 Option.none : List (Option RingD)), (List.replicate 8 (0 : Int), ((0 : Int), (0 : Int), ([] : List Int)), List.replicate 16 ((0 : Int), (0 : Int))), false) l).1.getD (IntKind.i64.wrap ((1 : Int) + IntKind.i64.wrap ((IntKind.u64.wrap n).tmod (7 : Int)))).toNat Option.none).isNone = true → conjP (((List.foldl (Pl.stepL (IntKind.i64.wrap ((1 : Int) + IntKind.i64.wrap ((IntKind.u64.wrap n).tmod (7 : Int))))) ((List.replicate 8 Option.none : List (Option RingD)), (List.replicate 8 (0 : Int), ((0 : Int), (0 : Int), ([] : List Int)), List.replicate 16 ((0 : Int), (0 : Int))), false) l).1 = (List.foldl (Pl.stepL (IntKind.i64.wrap ((1 : Int) + IntKind.i64.wrap ((IntKind.u64.wrap n).tmod (7 : Int))))) ((List.replicate 8 Option.none : List (Option RingD)), (List.replicate 8 (0 : Int), ((0 : Int), (0 : Int), ([] : List Int)), List.replicate 16 ((0 : Int), (0 : Int))), false) l).1) :: ([] : List Prop)), ((List.foldl (Pl.stepL (IntKind.i64.wrap ((1 : Int) + IntKind.i64.wrap ((IntKind.u64.wrap n).tmod (7 : Int))))) ((List.replicate 8 Option.none : List (Option RingD)), (List.replicate 8 (0 : Int), ((0 : Int), (0 : Int), ([] : List Int)), List.replicate 16 ((0 : Int), (0 : Int))), false) l).1.getD (IntKind.i64.wrap ((1 : Int) + IntKind.i64.wrap ((IntKind.u64.wrap n).tmod (7 : Int)))).toNat Option.none).isNone = false → conjP [(0 : Int) ≤ IntKind.i64.wrap ((1 : Int) + IntKind.i64.wrap ((IntKind.u64.wrap n).tmod (7 : Int))) ∧ IntKind.i64.wrap ((1 : Int) + IntKind.i64.wrap ((IntKind.u64.wrap n).tmod (7 : Int))) < (8 : Int), (0 : Int) ≤ IntKind.i64.wrap ((1 : Int) + IntKind.i64.wrap ((IntKind.u64.wrap n).tmod (7 : Int))) ∧ IntKind.i64.wrap ((1 : Int) + IntKind.i64.wrap ((IntKind.u64.wrap n).tmod (7 : Int))) < (8 : Int), ((List.foldl (Pl.stepL (IntKind.i64.wrap ((1 : Int) + IntKind.i64.wrap ((IntKind.u64.wrap n).tmod (7 : Int))))) ((List.replicate 8 Option.none : List (Option RingD)), (List.replicate 8 (0 : Int), ((0 : Int), (0 : Int), ([] : List Int)), List.replicate 16 ((0 : Int), (0 : Int))), false) l).1.getD (IntKind.i64.wrap ((1 : Int) + IntKind.i64.wrap ((IntKind.u64.wrap n).tmod (7 : Int)))).toNat Option.none).isNone = false, ((List.foldl (Pl.stepL (IntKind.i64.wrap ((1 : Int) + IntKind.i64.wrap ((IntKind.u64.wrap n).tmod (7 : Int))))) ((List.replicate 8 Option.none : List (Option RingD)), (List.replicate 8 (0 : Int), ((0 : Int), (0 : Int), ([] : List Int)), List.replicate 16 ((0 : Int), (0 : Int))), false) l).1.getD (IntKind.i64.wrap ((1 : Int) + IntKind.i64.wrap ((IntKind.u64.wrap n).tmod (7 : Int)))).toNat Option.none).isSome = true, (8 = 8 ∧ 16 = 16) ∧ (8 = 8 ∧ 16 = 16) ∧ (↑(((List.foldl (Pl.stepL (IntKind.i64.wrap ((1 : Int) + IntKind.i64.wrap ((IntKind.u64.wrap n).tmod (7 : Int))))) ((List.replicate 8 Option.none : List (Option RingD)), (List.replicate 8 (0 : Int), ((0 : Int), (0 : Int), ([] : List Int)), List.replicate 16 ((0 : Int), (0 : Int))), false) l).1.getD (IntKind.i64.wrap ((1 : Int) + IntKind.i64.wrap ((IntKind.u64.wrap n).tmod (7 : Int)))).toNat Option.none).getD (List.replicate 8 (0 : Int), ((0 : Int), (0 : Int), ([] : List Int)), List.replicate 16 ((0 : Int), (0 : Int)))).2.1.2.2.length : Int) < (17592186044416 : Int) ∧ (↑(((List.foldl (Pl.stepL (IntKind.i64.wrap ((1 : Int) + IntKind.i64.wrap ((IntKind.u64.wrap n).tmod (7 : Int))))) ((List.replicate 8 Option.none : List (Option RingD)), (List.replicate 8 (0 : Int), ((0 : Int), (0 : Int), ([] : List Int)), List.replicate 16 ((0 : Int), (0 : Int))), false) l).1.getD (IntKind.i64.wrap ((1 : Int) + IntKind.i64.wrap ((IntKind.u64.wrap n).tmod (7 : Int)))).toNat Option.none).getD (List.replicate 8 (0 : Int), ((0 : Int), (0 : Int), ([] : List Int)), List.replicate 16 ((0 : Int), (0 : Int)))).2.1.2.2.length : Int) < (17592186044416 : Int), (List.foldl (Pl.stepL (IntKind.i64.wrap ((1 : Int) + IntKind.i64.wrap ((IntKind.u64.wrap n).tmod (7 : Int))))) ((List.replicate 8 Option.none : List (Option RingD)), (List.replicate 8 (0 : Int), ((0 : Int), (0 : Int), ([] : List Int)), List.replicate 16 ((0 : Int), (0 : Int))), false) l).1 = (List.foldl (Pl.stepL (IntKind.i64.wrap ((1 : Int) + IntKind.i64.wrap ((IntKind.u64.wrap n).tmod (7 : Int))))) ((List.replicate 8 Option.none : List (Option RingD)), (List.replicate 8 (0 : Int), ((0 : Int), (0 : Int), ([] : List Int)), List.replicate 16 ((0 : Int), (0 : Int))), false) l).1]]]) ∧ (decide (IntKind.i64.wrap ((1 : Int) + IntKind.i64.wrap ((IntKind.u64.wrap n).tmod (7 : Int))) ≥ (0 : Int)) = false → conjP (((List.foldl (Pl.stepL (IntKind.i64.wrap ((1 : Int) + IntKind.i64.wrap ((IntKind.u64.wrap n).tmod (7 : Int))))) ((List.replicate 8 Option.none : List (Option RingD)), (List.replicate 8 (0 : Int), ((0 : Int), (0 : Int), ([] : List Int)), List.replicate 16 ((0 : Int), (0 : Int))), false) l).1 = (List.foldl (Pl.stepL (IntKind.i64.wrap ((1 : Int) + IntKind.i64.wrap ((IntKind.u64.wrap n).tmod (7 : Int))))) ((List.replicate 8 Option.none : List (Option RingD)), (List.replicate 8 (0 : Int), ((0 : Int), (0 : Int), ([] : List Int)), List.replicate 16 ((0 : Int), (0 : Int))), false) l).1) :: ([] : List Prop)))) (
      .lt [(Ty.rep 8 (Ty.int IntKind.i64)).cat
    (((Ty.int IntKind.i64).cat ((Ty.int IntKind.i64).cat (Ty.int IntKind.i64).slice)).cat
      (Ty.rep 16 ((Ty.int IntKind.i64).cat (Ty.int IntKind.i64)))),
  Ty.bool] (bif decide (IntKind.i64.wrap ((1 : Int) + IntKind.i64.wrap ((IntKind.u64.wrap n).tmod (7 : Int))) ≥ (0 : Int)) then bif !decide (IntKind.i64.wrap ((1 : Int) + IntKind.i64.wrap ((IntKind.u64.wrap n).tmod (7 : Int))) < (8 : Int)) then ((List.replicate 8 (0 : Int), ((0 : Int), (0 : Int), ([] : List Int)), List.replicate 16 ((0 : Int), (0 : Int))), false, ()) else bif ((List.foldl (Pl.stepL (IntKind.i64.wrap ((1 : Int) + IntKind.i64.wrap ((IntKind.u64.wrap n).tmod (7 : Int))))) ((List.replicate 8 Option.none : List (Option RingD)), (List.replicate 8 (0 : Int), ((0 : Int), (0 : Int), ([] : List Int)), List.replicate 16 ((0 : Int), (0 : Int))), false) l).1.getD (IntKind.i64.wrap ((1 : Int) + IntKind.i64.wrap ((IntKind.u64.wrap n).tmod (7 : Int)))).toNat Option.none).isNone then ((List.replicate 8 (0 : Int), ((0 : Int), (0 : Int), ([] : List Int)), List.replicate 16 ((0 : Int), (0 : Int))), false, ()) else ((tab 8 (Pl.joinR (tab 8 (((List.foldl (Pl.stepL (IntKind.i64.wrap ((1 : Int) + IntKind.i64.wrap ((IntKind.u64.wrap n).tmod (7 : Int))))) ((List.replicate 8 Option.none : List (Option RingD)), (List.replicate 8 (0 : Int), ((0 : Int), (0 : Int), ([] : List Int)), List.replicate 16 ((0 : Int), (0 : Int))), false) l).1.getD (IntKind.i64.wrap ((1 : Int) + IntKind.i64.wrap ((IntKind.u64.wrap n).tmod (7 : Int)))).toNat Option.none).getD (List.replicate 8 (0 : Int), ((0 : Int), (0 : Int), ([] : List Int)), List.replicate 16 ((0 : Int), (0 : Int)))).1 (0 : Int), (((List.foldl (Pl.stepL (IntKind.i64.wrap ((1 : Int) + IntKind.i64.wrap ((IntKind.u64.wrap n).tmod (7 : Int))))) ((List.replicate 8 Option.none : List (Option RingD)), (List.replicate 8 (0 : Int), ((0 : Int), (0 : Int), ([] : List Int)), List.replicate 16 ((0 : Int), (0 : Int))), false) l).1.getD (IntKind.i64.wrap ((1 : Int) + IntKind.i64.wrap ((IntKind.u64.wrap n).tmod (7 : Int)))).toNat Option.none).getD (List.replicate 8 (0 : Int), ((0 : Int), (0 : Int), ([] : List Int)), List.replicate 16 ((0 : Int), (0 : Int)))).2.1, tab 16 (((List.foldl (Pl.stepL (IntKind.i64.wrap ((1 : Int) + IntKind.i64.wrap ((IntKind.u64.wrap n).tmod (7 : Int))))) ((List.replicate 8 Option.none : List (Option RingD)), (List.replicate 8 (0 : Int), ((0 : Int), (0 : Int), ([] : List Int)), List.replicate 16 ((0 : Int), (0 : Int))), false) l).1.getD (IntKind.i64.wrap ((1 : Int) + IntKind.i64.wrap ((IntKind.u64.wrap n).tmod (7 : Int)))).toNat Option.none).getD (List.replicate 8 (0 : Int), ((0 : Int), (0 : Int), ([] : List Int)), List.replicate 16 ((0 : Int), (0 : Int)))).2.2 ((0 : Int), (0 : Int))) (tab 8 (((List.foldl (Pl.stepL (IntKind.i64.wrap ((1 : Int) + IntKind.i64.wrap ((IntKind.u64.wrap n).tmod (7 : Int))))) ((List.replicate 8 Option.none : List (Option RingD)), (List.replicate 8 (0 : Int), ((0 : Int), (0 : Int), ([] : List Int)), List.replicate 16 ((0 : Int), (0 : Int))), false) l).1.getD (IntKind.i64.wrap ((1 : Int) + IntKind.i64.wrap ((IntKind.u64.wrap n).tmod (7 : Int)))).toNat Option.none).getD (List.replicate 8 (0 : Int), ((0 : Int), (0 : Int), ([] : List Int)), List.replicate 16 ((0 : Int), (0 : Int)))).1 (0 : Int), (((List.foldl (Pl.stepL (IntKind.i64.wrap ((1 : Int) + IntKind.i64.wrap ((IntKind.u64.wrap n).tmod (7 : Int))))) ((List.replicate 8 Option.none : List (Option RingD)), (List.replicate 8 (0 : Int), ((0 : Int), (0 : Int), ([] : List Int)), List.replicate 16 ((0 : Int), (0 : Int))), false) l).1.getD (IntKind.i64.wrap ((1 : Int) + IntKind.i64.wrap ((IntKind.u64.wrap n).tmod (7 : Int)))).toNat Option.none).getD (List.replicate 8 (0 : Int), ((0 : Int), (0 : Int), ([] : List Int)), List.replicate 16 ((0 : Int), (0 : Int)))).2.1, tab 16 (((List.foldl (Pl.stepL (IntKind.i64.wrap ((1 : Int) + IntKind.i64.wrap ((IntKind.u64.wrap n).tmod (7 : Int))))) ((List.replicate 8 Option.none : List (Option RingD)), (List.replicate 8 (0 : Int), ((0 : Int), (0 : Int), ([] : List Int)), List.replicate 16 ((0 : Int), (0 : Int))), false) l).1.getD (IntKind.i64.wrap ((1 : Int) + IntKind.i64.wrap ((IntKind.u64.wrap n).tmod (7 : Int)))).toNat Option.none).getD (List.replicate 8 (0 : Int), ((0 : Int), (0 : Int), ([] : List Int)), List.replicate 16 ((0 : Int), (0 : Int)))).2.2 ((0 : Int), (0 : Int)))).1 (0 : Int), (Pl.joinR (tab 8 (((List.foldl (Pl.stepL (IntKind.i64.wrap ((1 : Int) + IntKind.i64.wrap ((IntKind.u64.wrap n).tmod (7 : Int))))) ((List.replicate 8 Option.none : List (Option RingD)), (List.replicate 8 (0 : Int), ((0 : Int), (0 : Int), ([] : List Int)), List.replicate 16 ((0 : Int), (0 : Int))), false) l).1.getD (IntKind.i64.wrap ((1 : Int) + IntKind.i64.wrap ((IntKind.u64.wrap n).tmod (7 : Int)))).toNat Option.none).getD (List.replicate 8 (0 : Int), ((0 : Int), (0 : Int), ([] : List Int)), List.replicate 16 ((0 : Int), (0 : Int)))).1 (0 : Int), (((List.foldl (Pl.stepL (IntKind.i64.wrap ((1 : Int) + IntKind.i64.wrap ((IntKind.u64.wrap n).tmod (7 : Int))))) ((List.replicate 8 Option.none : List (Option RingD)), (List.replicate 8 (0 : Int), ((0 : Int), (0 : Int), ([] : List Int)), List.replicate 16 ((0 : Int), (0 : Int))), false) l).1.getD (IntKind.i64.wrap ((1 : Int) + IntKind.i64.wrap ((IntKind.u64.wrap n).tmod (7 : Int)))).toNat Option.none).getD (List.replicate 8 (0 : Int), ((0 : Int), (0 : Int), ([] : List Int)), List.replicate 16 ((0 : Int), (0 : Int)))).2.1, tab 16 (((List.foldl (Pl.stepL (IntKind.i64.wrap ((1 : Int) + IntKind.i64.wrap ((IntKind.u64.wrap n).tmod (7 : Int))))) ((List.replicate 8 Option.none : List (Option RingD)), (List.replicate 8 (0 : Int), ((0 : Int), (0 : Int), ([] : List Int)), List.replicate 16 ((0 : Int), (0 : Int))), false) l).1.getD (IntKind.i64.wrap ((1 : Int) + IntKind.i64.wrap ((IntKind.u64.wrap n).tmod (7 : Int)))).toNat Option.none).getD (List.replicate 8 (0 : Int), ((0 : Int), (0 : Int), ([] : List Int)), List.replicate 16 ((0 : Int), (0 : Int)))).2.2 ((0 : Int), (0 : Int))) (tab 8 (((List.foldl (Pl.stepL (IntKind.i64.wrap ((1 : Int) + IntKind.i64.wrap ((IntKind.u64.wrap n).tmod (7 : Int))))) ((List.replicate 8 Option.none : List (Option RingD)), (List.replicate 8 (0 : Int), ((0 : Int), (0 : Int), ([] : List Int)), List.replicate 16 ((0 : Int), (0 : Int))), false) l).1.getD (IntKind.i64.wrap ((1 : Int) + IntKind.i64.wrap ((IntKind.u64.wrap n).tmod (7 : Int)))).toNat Option.none).getD (List.replicate 8 (0 : Int), ((0 : Int), (0 : Int), ([] : List Int)), List.replicate 16 ((0 : Int), (0 : Int)))).1 (0 : Int), (((List.foldl (Pl.stepL (IntKind.i64.wrap ((1 : Int) + IntKind.i64.wrap ((IntKind.u64.wrap n).tmod (7 : Int))))) ((List.replicate 8 Option.none : List (Option RingD)), (List.replicate 8 (0 : Int), ((0 : Int), (0 : Int), ([] : List Int)), List.replicate 16 ((0 : Int), (0 : Int))), false) l).1.getD (IntKind.i64.wrap ((1 : Int) + IntKind.i64.wrap ((IntKind.u64.wrap n).tmod (7 : Int)))).toNat Option.none).getD (List.replicate 8 (0 : Int), ((0 : Int), (0 : Int), ([] : List Int)), List.replicate 16 ((0 : Int), (0 : Int)))).2.1, tab 16 (((List.foldl (Pl.stepL (IntKind.i64.wrap ((1 : Int) + IntKind.i64.wrap ((IntKind.u64.wrap n).tmod (7 : Int))))) ((List.replicate 8 Option.none : List (Option RingD)), (List.replicate 8 (0 : Int), ((0 : Int), (0 : Int), ([] : List Int)), List.replicate 16 ((0 : Int), (0 : Int))), false) l).1.getD (IntKind.i64.wrap ((1 : Int) + IntKind.i64.wrap ((IntKind.u64.wrap n).tmod (7 : Int)))).toNat Option.none).getD (List.replicate 8 (0 : Int), ((0 : Int), (0 : Int), ([] : List Int)), List.replicate 16 ((0 : Int), (0 : Int)))).2.2 ((0 : Int), (0 : Int)))).2.1, tab 16 (Pl.joinR (tab 8 (((List.foldl (Pl.stepL (IntKind.i64.wrap ((1 : Int) + IntKind.i64.wrap ((IntKind.u64.wrap n).tmod (7 : Int))))) ((List.replicate 8 Option.none : List (Option RingD)), (List.replicate 8 (0 : Int), ((0 : Int), (0 : Int), ([] : List Int)), List.replicate 16 ((0 : Int), (0 : Int))), false) l).1.getD (IntKind.i64.wrap ((1 : Int) + IntKind.i64.wrap ((IntKind.u64.wrap n).tmod (7 : Int)))).toNat Option.none).getD (List.replicate 8 (0 : Int), ((0 : Int), (0 : Int), ([] : List Int)), List.replicate 16 ((0 : Int), (0 : Int)))).1 (0 : Int), (((List.foldl (Pl.stepL (IntKind.i64.wrap ((1 : Int) + IntKind.i64.wrap ((IntKind.u64.wrap n).tmod (7 : Int))))) ((List.replicate 8 Option.none : List (Option RingD)), (List.replicate 8 (0 : Int), ((0 : Int), (0 : Int), ([] : List Int)), List.replicate 16 ((0 : Int), (0 : Int))), false) l).1.getD (IntKind.i64.wrap ((1 : Int) + IntKind.i64.wrap ((IntKind.u64.wrap n).tmod (7 : Int)))).toNat Option.none).getD (List.replicate 8 (0 : Int), ((0 : Int), (0 : Int), ([] : List Int)), List.replicate 16 ((0 : Int), (0 : Int)))).2.1, tab 16 (((List.foldl (Pl.stepL (IntKind.i64.wrap ((1 : Int) + IntKind.i64.wrap ((IntKind.u64.wrap n).tmod (7 : Int))))) ((List.replicate 8 Option.none : List (Option RingD)), (List.replicate 8 (0 : Int), ((0 : Int), (0 : Int), ([] : List Int)), List.replicate 16 ((0 : Int), (0 : Int))), false) l).1.getD (IntKind.i64.wrap ((1 : Int) + IntKind.i64.wrap ((IntKind.u64.wrap n).tmod (7 : Int)))).toNat Option.none).getD (List.replicate 8 (0 : Int), ((0 : Int), (0 : Int), ([] : List Int)), List.replicate 16 ((0 : Int), (0 : Int)))).2.2 ((0 : Int), (0 : Int))) (tab 8 (((List.foldl (Pl.stepL (IntKind.i64.wrap ((1 : Int) + IntKind.i64.wrap ((IntKind.u64.wrap n).tmod (7 : Int))))) ((List.replicate 8 Option.none : List (Option RingD)), (List.replicate 8 (0 : Int), ((0 : Int), (0 : Int), ([] : List Int)), List.replicate 16 ((0 : Int), (0 : Int))), false) l).1.getD (IntKind.i64.wrap ((1 : Int) + IntKind.i64.wrap ((IntKind.u64.wrap n).tmod (7 : Int)))).toNat Option.none).getD (List.replicate 8 (0 : Int), ((0 : Int), (0 : Int), ([] : List Int)), List.replicate 16 ((0 : Int), (0 : Int)))).1 (0 : Int), (((List.foldl (Pl.stepL (IntKind.i64.wrap ((1 : Int) + IntKind.i64.wrap ((IntKind.u64.wrap n).tmod (7 : Int))))) ((List.replicate 8 Option.none : List (Option RingD)), (List.replicate 8 (0 : Int), ((0 : Int), (0 : Int), ([] : List Int)), List.replicate 16 ((0 : Int), (0 : Int))), false) l).1.getD (IntKind.i64.wrap ((1 : Int) + IntKind.i64.wrap ((IntKind.u64.wrap n).tmod (7 : Int)))).toNat Option.none).getD (List.replicate 8 (0 : Int), ((0 : Int), (0 : Int), ([] : List Int)), List.replicate 16 ((0 : Int), (0 : Int)))).2.1, tab 16 (((List.foldl (Pl.stepL (IntKind.i64.wrap ((1 : Int) + IntKind.i64.wrap ((IntKind.u64.wrap n).tmod (7 : Int))))) ((List.replicate 8 Option.none : List (Option RingD)), (List.replicate 8 (0 : Int), ((0 : Int), (0 : Int), ([] : List Int)), List.replicate 16 ((0 : Int), (0 : Int))), false) l).1.getD (IntKind.i64.wrap ((1 : Int) + IntKind.i64.wrap ((IntKind.u64.wrap n).tmod (7 : Int)))).toNat Option.none).getD (List.replicate 8 (0 : Int), ((0 : Int), (0 : Int), ([] : List Int)), List.replicate 16 ((0 : Int), (0 : Int)))).2.2 ((0 : Int), (0 : Int)))).2.2 ((0 : Int), (0 : Int))), true, ()) else ((List.replicate 8 (0 : Int), ((0 : Int), (0 : Int), ([] : List Int)), List.replicate 16 ((0 : Int), (0 : Int))), false, ())) (fun (y1 : (List Int × (Int × Int × List Int) × List (Int × Int)) × Bool × PUnit) => (
       .req (True ∧ (((List.foldl (Pl.stepL (IntKind.i64.wrap ((1 : Int) + IntKind.i64.wrap ((IntKind.u64.wrap n).tmod (7 : Int))))) ((List.replicate 8 Option.none : List (Option RingD)), (List.replicate 8 (0 : Int), ((0 : Int), (0 : Int), ([] : List Int)), List.replicate 16 ((0 : Int), (0 : Int))), false) l).1.getD 0 Option.none).isNone = true → conjP (((List.foldl (Pl.stepL (IntKind.i64.wrap ((1 : Int) + IntKind.i64.wrap ((IntKind.u64.wrap n).tmod (7 : Int))))) ((List.replicate 8 Option.none : List (Option RingD)), (List.replicate 8 (0 : Int), ((0 : Int), (0 : Int), ([] : List Int)), List.replicate 16 ((0 : Int), (0 : Int))), false) l).1 = (List.foldl (Pl.stepL (IntKind.i64.wrap ((1 : Int) + IntKind.i64.wrap ((IntKind.u64.wrap n).tmod (7 : Int))))) ((List.replicate 8 Option.none : List (Option RingD)), (List.replicate 8 (0 : Int), ((0 : Int), (0 : Int), ([] : List Int)), List.replicate 16 ((0 : Int), (0 : Int))), false) l).1) :: ([] : List Prop))) ∧ (((List.foldl (Pl.stepL (IntKind.i64.wrap ((1 : Int) + IntKind.i64.wrap ((IntKind.u64.wrap n).tmod (7 : Int))))) ((List.replicate 8 Option.none : List (Option RingD)), (List.replicate 8 (0 : Int), ((0 : Int), (0 : Int), ([] : List Int)), List.replicate 16 ((0 : Int), (0 : Int))), false) l).1.getD 0 Option.none).isNone = false → conjP [True, ((List.foldl (Pl.stepL (IntKind.i64.wrap ((1 : Int) + IntKind.i64.wrap ((IntKind.u64.wrap n).tmod (7 : Int))))) ((List.replicate 8 Option.none : List (Option RingD)), (List.replicate 8 (0 : Int), ((0 : Int), (0 : Int), ([] : List Int)), List.replicate 16 ((0 : Int), (0 : Int))), false) l).1.getD 0 Option.none).isNone = false, ((List.foldl (Pl.stepL (IntKind.i64.wrap ((1 : Int) + IntKind.i64.wrap ((IntKind.u64.wrap n).tmod (7 : Int))))) ((List.replicate 8 Option.none : List (Option RingD)), (List.replicate 8 (0 : Int), ((0 : Int), (0 : Int), ([] : List Int)), List.replicate 16 ((0 : Int), (0 : Int))), false) l).1.getD 0 Option.none).isSome = true, (8 = 8 ∧ 16 = 16) ∧ (8 = 8 ∧ 16 = 16) ∧ (↑(((List.foldl (Pl.stepL (IntKind.i64.wrap ((1 : Int) + IntKind.i64.wrap ((IntKind.u64.wrap n).tmod (7 : Int))))) ((List.replicate 8 Option.none : List (Option RingD)), (List.replicate 8 (0 : Int), ((0 : Int), (0 : Int), ([] : List Int)), List.replicate 16 ((0 : Int), (0 : Int))), false) l).1.getD 0 Option.none).getD (List.replicate 8 (0 : Int), ((0 : Int), (0 : Int), ([] : List Int)), List.replicate 16 ((0 : Int), (0 : Int)))).2.1.2.2.length : Int) < (17592186044416 : Int) ∧ (↑(((List.foldl (Pl.stepL (IntKind.i64.wrap ((1 : Int) + IntKind.i64.wrap ((IntKind.u64.wrap n).tmod (7 : Int))))) ((List.replicate 8 Option.none : List (Option RingD)), (List.replicate 8 (0 : Int), ((0 : Int), (0 : Int), ([] : List Int)), List.replicate 16 ((0 : Int), (0 : Int))), false) l).1.getD 0 Option.none).getD (List.replicate 8 (0 : Int), ((0 : Int), (0 : Int), ([] : List Int)), List.replicate 16 ((0 : Int), (0 : Int)))).2.1.2.2.length : Int) < (17592186044416 : Int), (List.foldl (Pl.stepL (IntKind.i64.wrap ((1 : Int) + IntKind.i64.wrap ((IntKind.u64.wrap n).tmod (7 : Int))))) ((List.replicate 8 Option.none : List (Option RingD)), (List.replicate 8 (0 : Int), ((0 : Int), (0 : Int), ([] : List Int)), List.replicate 16 ((0 : Int), (0 : Int))), false) l).1 = (List.foldl (Pl.stepL (IntKind.i64.wrap ((1 : Int) + IntKind.i64.wrap ((IntKind.u64.wrap n).tmod (7 : Int))))) ((List.replicate 8 Option.none : List (Option RingD)), (List.replicate 8 (0 : Int), ((0 : Int), (0 : Int), ([] : List Int)), List.replicate 16 ((0 : Int), (0 : Int))), false) l).1])) (
        .lt [(Ty.rep 8 (Ty.int IntKind.i64)).cat
    (((Ty.int IntKind.i64).cat ((Ty.int IntKind.i64).cat (Ty.int IntKind.i64).slice)).cat
      (Ty.rep 16 ((Ty.int IntKind.i64).cat (Ty.int IntKind.i64)))),
  Ty.bool] (bif ((List.foldl (Pl.stepL (IntKind.i64.wrap ((1 : Int) + IntKind.i64.wrap ((IntKind.u64.wrap n).tmod (7 : Int))))) ((List.replicate 8 Option.none : List (Option RingD)), (List.replicate 8 (0 : Int), ((0 : Int), (0 : Int), ([] : List Int)), List.replicate 16 ((0 : Int), (0 : Int))), false) l).1.getD 0 Option.none).isNone then ((List.replicate 8 (0 : Int), ((0 : Int), (0 : Int), ([] : List Int)), List.replicate 16 ((0 : Int), (0 : Int))), false, ()) else ((tab 8 (Pl.joinR (tab 8 (((List.foldl (Pl.stepL (IntKind.i64.wrap ((1 : Int) + IntKind.i64.wrap ((IntKind.u64.wrap n).tmod (7 : Int))))) ((List.replicate 8 Option.none : List (Option RingD)), (List.replicate 8 (0 : Int), ((0 : Int), (0 : Int), ([] : List Int)), List.replicate 16 ((0 : Int), (0 : Int))), false) l).1.getD 0 Option.none).getD (List.replicate 8 (0 : Int), ((0 : Int), (0 : Int), ([] : List Int)), List.replicate 16 ((0 : Int), (0 : Int)))).1 (0 : Int), (((List.foldl (Pl.stepL (IntKind.i64.wrap ((1 : Int) + IntKind.i64.wrap ((IntKind.u64.wrap n).tmod (7 : Int))))) ((List.replicate 8 Option.none : List (Option RingD)), (List.replicate 8 (0 : Int), ((0 : Int), (0 : Int), ([] : List Int)), List.replicate 16 ((0 : Int), (0 : Int))), false) l).1.getD 0 Option.none).getD (List.replicate 8 (0 : Int), ((0 : Int), (0 : Int), ([] : List Int)), List.replicate 16 ((0 : Int), (0 : Int)))).2.1, tab 16 (((List.foldl (Pl.stepL (IntKind.i64.wrap ((1 : Int) + IntKind.i64.wrap ((IntKind.u64.wrap n).tmod (7 : Int))))) ((List.replicate 8 Option.none : List (Option RingD)), (List.replicate 8 (0 : Int), ((0 : Int), (0 : Int), ([] : List Int)), List.replicate 16 ((0 : Int), (0 : Int))), false) l).1.getD 0 Option.none).getD (List.replicate 8 (0 : Int), ((0 : Int), (0 : Int), ([] : List Int)), List.replicate 16 ((0 : Int), (0 : Int)))).2.2 ((0 : Int), (0 : Int))) (tab 8 (((List.foldl (Pl.stepL (IntKind.i64.wrap ((1 : Int) + IntKind.i64.wrap ((IntKind.u64.wrap n).tmod (7 : Int))))) ((List.replicate 8 Option.none : List (Option RingD)), (List.replicate 8 (0 : Int), ((0 : Int), (0 : Int), ([] : List Int)), List.replicate 16 ((0 : Int), (0 : Int))), false) l).1.getD 0 Option.none).getD (List.replicate 8 (0 : Int), ((0 : Int), (0 : Int), ([] : List Int)), List.replicate 16 ((0 : Int), (0 : Int)))).1 (0 : Int), (((List.foldl (Pl.stepL (IntKind.i64.wrap ((1 : Int) + IntKind.i64.wrap ((IntKind.u64.wrap n).tmod (7 : Int))))) ((List.replicate 8 Option.none : List (Option RingD)), (List.replicate 8 (0 : Int), ((0 : Int), (0 : Int), ([] : List Int)), List.replicate 16 ((0 : Int), (0 : Int))), false) l).1.getD 0 Option.none).getD (List.replicate 8 (0 : Int), ((0 : Int), (0 : Int), ([] : List Int)), List.replicate 16 ((0 : Int), (0 : Int)))).2.1, tab 16 (((List.foldl (Pl.stepL (IntKind.i64.wrap ((1 : Int) + IntKind.i64.wrap ((IntKind.u64.wrap n).tmod (7 : Int))))) ((List.replicate 8 Option.none : List (Option RingD)), (List.replicate 8 (0 : Int), ((0 : Int), (0 : Int), ([] : List Int)), List.replicate 16 ((0 : Int), (0 : Int))), false) l).1.getD 0 Option.none).getD (List.replicate 8 (0 : Int), ((0 : Int), (0 : Int), ([] : List Int)), List.replicate 16 ((0 : Int), (0 : Int)))).2.2 ((0 : Int), (0 : Int)))).1 (0 : Int), (Pl.joinR (tab 8 (((List.foldl (Pl.stepL (IntKind.i64.wrap ((1 : Int) + IntKind.i64.wrap ((IntKind.u64.wrap n).tmod (7 : Int))))) ((List.replicate 8 Option.none : List (Option RingD)), (List.replicate 8 (0 : Int), ((0 : Int), (0 : Int), ([] : List Int)), List.replicate 16 ((0 : Int), (0 : Int))), false) l).1.getD 0 Option.none).getD (List.replicate 8 (0 : Int), ((0 : Int), (0 : Int), ([] : List Int)), List.replicate 16 ((0 : Int), (0 : Int)))).1 (0 : Int), (((List.foldl (Pl.stepL (IntKind.i64.wrap ((1 : Int) + IntKind.i64.wrap ((IntKind.u64.wrap n).tmod (7 : Int))))) ((List.replicate 8 Option.none : List (Option RingD)), (List.replicate 8 (0 : Int), ((0 : Int), (0 : Int), ([] : List Int)), List.replicate 16 ((0 : Int), (0 : Int))), false) l).1.getD 0 Option.none).getD (List.replicate 8 (0 : Int), ((0 : Int), (0 : Int), ([] : List Int)), List.replicate 16 ((0 : Int), (0 : Int)))).2.1, tab 16 (((List.foldl (Pl.stepL (IntKind.i64.wrap ((1 : Int) + IntKind.i64.wrap ((IntKind.u64.wrap n).tmod (7 : Int))))) ((List.replicate 8 Option.none : List (Option RingD)), (List.replicate 8 (0 : Int), ((0 : Int), (0 : Int), ([] : List Int)), List.replicate 16 ((0 : Int), (0 : Int))), false) l).1.getD 0 Option.none).getD (List.replicate 8 (0 : Int), ((0 : Int), (0 : Int), ([] : List Int)), List.replicate 16 ((0 : Int), (0 : Int)))).2.2 ((0 : Int), (0 : Int))) (tab 8 (((List.foldl (Pl.stepL (IntKind.i64.wrap ((1 : Int) + IntKind.i64.wrap ((IntKind.u64.wrap n).tmod (7 : Int))))) ((List.replicate 8 Option.none : List (Option RingD)), (List.replicate 8 (0 : Int), ((0 : Int), (0 : Int), ([] : List Int)), List.replicate 16 ((0 : Int), (0 : Int))), false) l).1.getD 0 Option.none).getD (List.replicate 8 (0 : Int), ((0 : Int), (0 : Int), ([] : List Int)), List.replicate 16 ((0 : Int), (0 : Int)))).1 (0 : Int), (((List.foldl (Pl.stepL (IntKind.i64.wrap ((1 : Int) + IntKind.i64.wrap ((IntKind.u64.wrap n).tmod (7 : Int))))) ((List.replicate 8 Option.none : List (Option RingD)), (List.replicate 8 (0 : Int), ((0 : Int), (0 : Int), ([] : List Int)), List.replicate 16 ((0 : Int), (0 : Int))), false) l).1.getD 0 Option.none).getD (List.replicate 8 (0 : Int), ((0 : Int), (0 : Int), ([] : List Int)), List.replicate 16 ((0 : Int), (0 : Int)))).2.1, tab 16 (((List.foldl (Pl.stepL (IntKind.i64.wrap ((1 : Int) + IntKind.i64.wrap ((IntKind.u64.wrap n).tmod (7 : Int))))) ((List.replicate 8 Option.none : List (Option RingD)), (List.replicate 8 (0 : Int), ((0 : Int), (0 : Int), ([] : List Int)), List.replicate 16 ((0 : Int), (0 : Int))), false) l).1.getD 0 Option.none).getD (List.replicate 8 (0 : Int), ((0 : Int), (0 : Int), ([] : List Int)), List.replicate 16 ((0 : Int), (0 : Int)))).2.2 ((0 : Int), (0 : Int)))).2.1, tab 16 (Pl.joinR (tab 8 (((List.foldl (Pl.stepL (IntKind.i64.wrap ((1 : Int) + IntKind.i64.wrap ((IntKind.u64.wrap n).tmod (7 : Int))))) ((List.replicate 8 Option.none : List (Option RingD)), (List.replicate 8 (0 : Int), ((0 : Int), (0 : Int), ([] : List Int)), List.replicate 16 ((0 : Int), (0 : Int))), false) l).1.getD 0 Option.none).getD (List.replicate 8 (0 : Int), ((0 : Int), (0 : Int), ([] : List Int)), List.replicate 16 ((0 : Int), (0 : Int)))).1 (0 : Int), (((List.foldl (Pl.stepL (IntKind.i64.wrap ((1 : Int) + IntKind.i64.wrap ((IntKind.u64.wrap n).tmod (7 : Int))))) ((List.replicate 8 Option.none : List (Option RingD)), (List.replicate 8 (0 : Int), ((0 : Int), (0 : Int), ([] : List Int)), List.replicate 16 ((0 : Int), (0 : Int))), false) l).1.getD 0 Option.none).getD (List.replicate 8 (0 : Int), ((0 : Int), (0 : Int), ([] : List Int)), List.replicate 16 ((0 : Int), (0 : Int)))).2.1, tab 16 (((List.foldl (Pl.stepL (IntKind.i64.wrap ((1 : Int) + IntKind.i64.wrap ((IntKind.u64.wrap n).tmod (7 : Int))))) ((List.replicate 8 Option.none : List (Option RingD)), (List.replicate 8 (0 : Int), ((0 : Int), (0 : Int), ([] : List Int)), List.replicate 16 ((0 : Int), (0 : Int))), false) l).1.getD 0 Option.none).getD (List.replicate 8 (0 : Int), ((0 : Int), (0 : Int), ([] : List Int)), List.replicate 16 ((0 : Int), (0 : Int)))).2.2 ((0 : Int), (0 : Int))) (tab 8 (((List.foldl (Pl.stepL (IntKind.i64.wrap ((1 : Int) + IntKind.i64.wrap ((IntKind.u64.wrap n).tmod (7 : Int))))) ((List.replicate 8 Option.none : List (Option RingD)), (List.replicate 8 (0 : Int), ((0 : Int), (0 : Int), ([] : List Int)), List.replicate 16 ((0 : Int), (0 : Int))), false) l).1.getD 0 Option.none).getD (List.replicate 8 (0 : Int), ((0 : Int), (0 : Int), ([] : List Int)), List.replicate 16 ((0 : Int), (0 : Int)))).1 (0 : Int), (((List.foldl (Pl.stepL (IntKind.i64.wrap ((1 : Int) + IntKind.i64.wrap ((IntKind.u64.wrap n).tmod (7 : Int))))) ((List.replicate 8 Option.none : List (Option RingD)), (List.replicate 8 (0 : Int), ((0 : Int), (0 : Int), ([] : List Int)), List.replicate 16 ((0 : Int), (0 : Int))), false) l).1.getD 0 Option.none).getD (List.replicate 8 (0 : Int), ((0 : Int), (0 : Int), ([] : List Int)), List.replicate 16 ((0 : Int), (0 : Int)))).2.1, tab 16 (((List.foldl (Pl.stepL (IntKind.i64.wrap ((1 : Int) + IntKind.i64.wrap ((IntKind.u64.wrap n).tmod (7 : Int))))) ((List.replicate 8 Option.none : List (Option RingD)), (List.replicate 8 (0 : Int), ((0 : Int), (0 : Int), ([] : List Int)), List.replicate 16 ((0 : Int), (0 : Int))), false) l).1.getD 0 Option.none).getD (List.replicate 8 (0 : Int), ((0 : Int), (0 : Int), ([] : List Int)), List.replicate 16 ((0 : Int), (0 : Int)))).2.2 ((0 : Int), (0 : Int)))).2.2 ((0 : Int), (0 : Int))), true, ())) (fun (y2 : (List Int × (Int × Int × List Int) × List (Int × Int)) × Bool × PUnit) => (
         .fork (y1.2.1 == (List.foldl (Pl.stepL (IntKind.i64.wrap ((1 : Int) + IntKind.i64.wrap ((IntKind.u64.wrap n).tmod (7 : Int))))) ((List.replicate 8 Option.none : List (Option RingD)), (List.replicate 8 (0 : Int), ((0 : Int), (0 : Int), ([] : List Int)), List.replicate 16 ((0 : Int), (0 : Int))), false) l).2.2) (
          .req (True) (
           .req ((8 = 8 ∧ 16 = 16) ∧ (8 = 8 ∧ 16 = 16) ∧ (↑y1.1.2.1.2.2.length : Int) < (17592186044416 : Int) ∧ (↑(List.foldl (Pl.stepL (IntKind.i64.wrap ((1 : Int) + IntKind.i64.wrap ((IntKind.u64.wrap n).tmod (7 : Int))))) ((List.replicate 8 Option.none : List (Option RingD)), (List.replicate 8 (0 : Int), ((0 : Int), (0 : Int), ([] : List Int)), List.replicate 16 ((0 : Int), (0 : Int))), false) l).2.1.2.1.2.2.length : Int) < (17592186044416 : Int)) (
            .fork (Pl.sameR (tab 8 y1.1.1 (0 : Int), y1.1.2.1, tab 16 y1.1.2.2 ((0 : Int), (0 : Int))) (tab 8 (List.foldl (Pl.stepL (IntKind.i64.wrap ((1 : Int) + IntKind.i64.wrap ((IntKind.u64.wrap n).tmod (7 : Int))))) ((List.replicate 8 Option.none : List (Option RingD)), (List.replicate 8 (0 : Int), ((0 : Int), (0 : Int), ([] : List Int)), List.replicate 16 ((0 : Int), (0 : Int))), false) l).2.1.1 (0 : Int), (List.foldl (Pl.stepL (IntKind.i64.wrap ((1 : Int) + IntKind.i64.wrap ((IntKind.u64.wrap n).tmod (7 : Int))))) ((List.replicate 8 Option.none : List (Option RingD)), (List.replicate 8 (0 : Int), ((0 : Int), (0 : Int), ([] : List Int)), List.replicate 16 ((0 : Int), (0 : Int))), false) l).2.1.2.1, tab 16 (List.foldl (Pl.stepL (IntKind.i64.wrap ((1 : Int) + IntKind.i64.wrap ((IntKind.u64.wrap n).tmod (7 : Int))))) ((List.replicate 8 Option.none : List (Option RingD)), (List.replicate 8 (0 : Int), ((0 : Int), (0 : Int), ([] : List Int)), List.replicate 16 ((0 : Int), (0 : Int))), false) l).2.1.2.2 ((0 : Int), (0 : Int)))) (
             .fork (!y2.2.1) (
              .req (True) (
               .leaf ((true, ())))) (
              .leaf ((false, ())))) (
             .leaf ((false, ())))))) (
          .leaf ((false, ())))))))))))))) : Tree (Bool × PUnit)) := by kernel_rfl
end Pl
namespace Pl
open Go Sx Go.Proofs Go.RowKit
theorem tabL_congr {α : Type} {n : Nat} {f g : Nat → α} (h : ∀ j, j < n → f j = g j) : tabL n f = tabL n g := by
  rw [tabL_eq, tabL_eq]
  exact List.map_congr_left fun j hj => h j (by simpa using hj)
theorem mxI_comm (x y : Int) : mxI x y = mxI y x := by unfold mxI; split <;> split <;> omega
theorem mxI_assoc (x y z : Int) : mxI (mxI x y) z = mxI x (mxI y z) := by unfold mxI; split <;> split <;> (try split) <;> (try split) <;> omega
theorem mxI_self (x : Int) : mxI x x = x := by unfold mxI; split <;> rfl
theorem joinE_def (a b : EntryD) : joinE a b = if b.1 > a.1 ∨ (b.1 = a.1 ∧ b.2 > a.2) then b else a := by
  obtain ⟨x, y⟩ := a
  obtain ⟨z, w⟩ := b
  simp only [joinE, cmpE, orL, cmpI]
  by_cases h1 : z < x
  · simp [h1]; intro h; exfalso; omega
  · by_cases h2 : x < z
    · simp [h1, h2]
    · have : z = x := by omega
      subst this
      by_cases h3 : w < y
      · simp [h3]; intro h; exfalso; omega
      · by_cases h4 : y < w
        · simp [h3, h4]
        · have : w = y := by omega
          subst this; simp
theorem joinE_comm (a b : EntryD) : joinE a b = joinE b a := by
  obtain ⟨x, y⟩ := a
  obtain ⟨z, w⟩ := b
  simp only [joinE_def]
  split <;> split <;> first | rfl | (simp only [Prod.mk.injEq]; omega)
theorem joinE_assoc (a b c : EntryD) : joinE (joinE a b) c = joinE a (joinE b c) := by
  obtain ⟨x, y⟩ := a
  obtain ⟨z, w⟩ := b
  obtain ⟨u, v⟩ := c
  rw [joinE_def (x, y) (z, w), joinE_def (z, w) (u, v)]
  simp only
  by_cases h1 : z > x ∨ (z = x ∧ w > y) <;> by_cases h2 : u > z ∨ (u = z ∧ v > w)
  · rw [if_pos h1, if_pos h2, joinE_def, joinE_def]; simp only; rw [if_pos h2, if_pos (by omega)]
  · rw [if_pos h1, if_neg h2, joinE_def, joinE_def]; simp only; rw [if_neg h2, if_pos h1]
  · rw [if_neg h1, if_pos h2]
  · rw [if_neg h1, if_neg h2, joinE_def, joinE_def]; simp only; rw [if_neg h1, if_neg (by omega)]
theorem joinE_self (a : EntryD) : joinE a a = a := by unfold joinE; split <;> rfl
theorem joinE_may {a b : EntryD} (h : mayE a = true) (k : mayE b = true) : mayE (joinE a b) = true := by
  unfold joinE; split <;> assumption
theorem joinP_may {a b : PlanD} (h : mayB a = true) (k : mayB b = true) : mayB (joinP a b) = true := by
  unfold joinP; split <;> assumption
theorem getS (a b : RingD) {j : Nat} (h : j < 8) : (joinR a b).1.getD j 0 = mxI (a.1.getD j 0) (b.1.getD j 0) := tabL_getD _ _ _ h
theorem getE (a b : RingD) {j : Nat} (h : j < 16) : (joinR a b).2.2.getD j (0, 0) = joinE (a.2.2.getD j (0, 0)) (b.2.2.getD j (0, 0)) := tabL_getD _ _ _ h
theorem joinR_comm (a b : RingD) : joinR a b = joinR b a := by
  unfold joinR
  rw [join_comm a.2.1 b.2.1]
  congr 1
  · exact tabL_congr fun j _ => mxI_comm _ _
  · congr 1; exact tabL_congr fun j _ => joinE_comm _ _
theorem joinR_assoc (a b c : RingD) : joinR (joinR a b) c = joinR a (joinR b c) := by
  show (tabL 8 (fun j => mxI ((joinR a b).1.getD j 0) (c.1.getD j 0)), joinP (joinP a.2.1 b.2.1) c.2.1, tabL 16 (fun j => joinE ((joinR a b).2.2.getD j (0, 0)) (c.2.2.getD j (0, 0)))) =
    (tabL 8 (fun j => mxI (a.1.getD j 0) ((joinR b c).1.getD j 0)), joinP a.2.1 (joinP b.2.1 c.2.1), tabL 16 (fun j => joinE (a.2.2.getD j (0, 0)) ((joinR b c).2.2.getD j (0, 0))))
  rw [join_assoc]
  congr 1
  · exact tabL_congr fun j hj => by rw [getS _ _ hj, getS _ _ hj, mxI_assoc]
  · congr 1; exact tabL_congr fun j hj => by rw [getE _ _ hj, getE _ _ hj, joinE_assoc]
theorem joinR_self {a : RingD} (h : okR a) : joinR a a = a := by
  obtain ⟨s, p, e⟩ := a
  show (tabL 8 (fun j => mxI (s.getD j 0) (s.getD j 0)), joinP p p, tabL 16 (fun j => joinE (e.getD j (0, 0)) (e.getD j (0, 0)))) = (s, p, e)
  simp only [mxI_self, joinE_self, join_self]
  rw [tabL_map (xs := s) (g := fun x => x) h.1, tabL_map (xs := e) (g := fun x => x) h.2]
  simp
theorem belowR_iff {a b : RingD} : belowR a b = true ↔ joinR a b = b := by simp [belowR, sameR]
theorem below_join (a b : RingD) (h : okR a) : belowR a (joinR a b) = true := by
  rw [belowR_iff, ← joinR_assoc, joinR_self h]
theorem below_join' (a b : RingD) (h : okR b) : belowR b (joinR a b) = true := by
  rw [joinR_comm]; exact below_join b a h
theorem below_trans {a b c : RingD} (h : belowR a b = true) (k : belowR b c = true) : belowR a c = true := by
  rw [belowR_iff] at *
  rw [← k, ← joinR_assoc, h]
theorem stB_mx {x y : Int} (h : stB x = true) (k : stB y = true) : stB (mxI x y) = true := by unfold mxI; split <;> assumption
theorem mayR_join {a b : RingD} (ha : okR a) (hb : okR b) (h : mayR a = true) (k : mayR b = true) : mayR (joinR a b) = true := by
  rw [mayR_iff ha] at h
  rw [mayR_iff hb] at k
  rw [mayR_iff (joinR_ok a b)]
  simp only [Bool.and_eq_true, List.all_eq_true] at *
  refine ⟨fun x hx => ?_, joinP_may h.2.1 k.2.1, fun x hx => ?_⟩
  · simp only [joinR] at hx
    rw [tabL_zip mxI ha.1 hb.1] at hx
    obtain ⟨i, hi, rfl⟩ := List.mem_iff_getElem.1 hx
    rw [List.getElem_zipWith]
    exact stB_mx (h.1 _ (List.getElem_mem _)) (k.1 _ (List.getElem_mem _))
  · simp only [joinR] at hx
    rw [tabL_zip joinE ha.2 hb.2] at hx
    obtain ⟨i, hi, rfl⟩ := List.mem_iff_getElem.1 hx
    rw [List.getElem_zipWith]
    exact joinE_may (h.2.2 _ (List.getElem_mem _)) (k.2.2 _ (List.getElem_mem _))
theorem sameR_self (a : RingD) : sameR a a = true := by simp [sameR]
theorem sameR_iff {a b : RingD} : sameR a b = true ↔ a = b := by simp [sameR]
theorem rise_cases (r : RingD) (n s : Int) : riseR r n s = (zeroR, 1) ∨ (riseR r n s = (zeroR, 8) ∧ nodeB n = true ∧ r.1.getD n.toNat 0 ≥ s) ∨
    (riseR r n s = ((r.1.set n.toNat s, r.2.1, r.2.2), 0) ∧ mayR r = true ∧ nodeB n = true ∧ stB s = true ∧ 1 ≤ s ∧ r.1.getD n.toNat 0 < s) := by
  unfold riseR
  split
  · rename_i h
    simp only [Bool.and_eq_true, Bool.not_eq_true', decide_eq_false_iff_not] at h
    split
    · rename_i h2; exact .inr (.inl ⟨rfl, h.2.1, of_decide_eq_true h2⟩)
    · rename_i h2
      have h3 : ¬ r.1.getD n.toNat 0 ≥ s := fun h => h2 (decide_eq_true h)
      refine .inr (.inr ⟨rfl, h.1, h.2.1, ?_, by omega, by omega⟩)
      have h4 : ¬ s < 0 := by omega
      simp [stB, h4]; omega
  · exact .inl rfl
theorem zeroR_ok : okR zeroR := ⟨rfl, rfl⟩
theorem zeroR_eq : (List.replicate 8 (0 : Int), ((0 : Int), (0 : Int), ([] : List Int)), List.replicate 16 ((0 : Int), (0 : Int))) = zeroR := rfl
theorem set_ok {r : RingD} (h : okR r) (k : Nat) (s : Int) : okR (r.1.set k s, r.2.1, r.2.2) := ⟨by simpa using h.1, h.2⟩
theorem getD_setR {xs : List Int} {k j : Nat} {s : Int} (h : k < xs.length) : (xs.set k s).getD j 0 = if k = j then s else xs.getD j 0 := by
  simp only [List.getD_eq_getElem?_getD, List.getElem?_set]
  split
  · rename_i e; subst e; simp [h]
  · rfl
theorem tabL_self {α : Type} {n : Nat} {xs : List α} {z : α} (h : xs.length = n) : tabL n (fun j => xs.getD j z) = xs := by
  have := tabL_map (xs := xs) (z := z) (g := fun x => x) h
  simpa using this
theorem rise_below {r : RingD} (h : okR r) {k : Nat} {s : Int} (hk : k < 8) (hs : r.1.getD k 0 < s) : joinR r (r.1.set k s, r.2.1, r.2.2) = (r.1.set k s, r.2.1, r.2.2) ∧ joinR (r.1.set k s, r.2.1, r.2.2) r ≠ r := by
  constructor
  · unfold joinR
    dsimp only
    rw [join_self]
    congr 1
    · rw [← tabL_self (n := 8) (xs := r.1.set k s) (z := 0) (by simpa using h.1)]
      refine tabL_congr fun j hj => ?_
      rw [tabL_self (n := 8) (by simpa using h.1), getD_setR (by rw [h.1]; exact hk)]
      split
      · rename_i e; subst e; unfold mxI; rw [if_pos (by omega)]
      · exact mxI_self _
    · congr 1
      simp only [joinE_self]
      exact tabL_self h.2
  · intro e
    have e1 := congrArg (fun q : RingD => q.1.getD k 0) e
    rw [getS _ _ hk] at e1
    dsimp only at e1
    rw [getD_setR (by rw [h.1]; exact hk), if_pos rfl] at e1
    unfold mxI at e1
    rw [if_neg (by omega)] at e1
    omega
theorem mayR_set {r : RingD} (h : okR r) (hm : mayR r = true) {k : Nat} {s : Int} (hs : stB s = true) : mayR (r.1.set k s, r.2.1, r.2.2) = true := by
  rw [mayR_iff h] at hm
  rw [mayR_iff (set_ok h k s)]
  simp only [Bool.and_eq_true, List.all_eq_true] at *
  refine ⟨fun x hx => ?_, hm.2⟩
  rcases List.mem_or_eq_of_mem_set hx with h1 | h1
  · exact hm.1 x h1
  · rw [h1]; exact hs
end Pl
namespace Pl
open Go Sx Go.Proofs Go.RowKit
abbrev etaR (x : RingD) : RingD := (tab 8 x.1 0, x.2.1, tab 16 x.2.2 (0, 0))
theorem eta_eq {x : RingD} (h : okR x) : etaR x = x := tab_r h
theorem fine_join {a b : RingD} (h : fineR a) (k : fineR b) : fineR (joinR a b) := by
  refine ⟨joinR_ok _ _, ?_⟩
  have : ((joinP a.2.1 b.2.1).2.2.length : Int) < 101 := joinP_small (by have := h.2; omega) (by have := k.2; omega)
  show ((joinP a.2.1 b.2.1).2.2.length : Int) ≤ 100
  omega
theorem fine_zero : fineR zeroR := ⟨⟨rfl, rfl⟩, by decide⟩
theorem kn_fine {k : KnD} (h : fineK k) (i : Int) : fineR (knF k i).1 := by
  unfold knF
  split
  · rename_i hi
    have hl : i.toNat < k.length := by rw [h.1]; omega
    cases he : k.getD i.toNat none with
    | none => exact fine_zero
    | some x =>
      refine h.2 x ?_
      rw [← he, List.getD, List.getElem?_eq_getElem hl]; exact List.getElem_mem hl
  · exact fine_zero
theorem fineK_set {k : KnD} (h : fineK k) (j : Nat) {x : RingD} (hx : fineR x) : fineK (k.set j (some x)) := by
  refine ⟨by rw [List.length_set]; exact h.1, fun y hy => ?_⟩
  rcases List.mem_or_eq_of_mem_set hy with h1 | h1
  · exact h.2 y h1
  · injection h1 with h1; subst h1; exact hx
theorem heardL_fine {self : Int} {k : KnD} {c : CallD} (h : fineK k) (hc : fineR c.2.2.1) : fineK (heardL self k c) := by
  unfold heardL
  split
  · exact fineK_set h _ (fine_join (kn_fine h _) hc)
  · exact h
theorem kn_some {k : KnD} {i : Int} (h : fineK k) (h0 : 0 ≤ i) (h1 : i < 8) {x : RingD} (he : k.getD i.toNat none = some x) : okR x := by
  have hl : i.toNat < k.length := by rw [h.1]; omega
  refine (h.2 x ?_).1
  rw [← he, List.getD, List.getElem?_eq_getElem hl]; exact List.getElem_mem hl

theorem kn_eq {k : KnD} {i : Int} (h : fineK k) : (bif decide (i ≥ 0) then bif !decide (i < 8) then (zeroR, false, ()) else bif (k.getD i.toNat none).isNone then (zeroR, false, ()) else (etaR (joinR (etaR ((k.getD i.toNat none).getD zeroR)) (etaR ((k.getD i.toNat none).getD zeroR))), true, ()) else (zeroR, false, ()) : RingD × Bool × Unit) = ((knF k i).1, (knF k i).2, ()) := by
  unfold knF
  by_cases h0 : i ≥ 0
  · by_cases h1 : i < 8
    · rw [if_pos ⟨h0, h1⟩]
      simp only [decide_eq_true h0, decide_eq_true h1, Bool.not_true, cond_true, cond_false]
      cases he : k.getD i.toNat none with
      | none => rfl
      | some x =>
        have hx := kn_some h h0 h1 he
        simp only [Option.isNone, cond_false, Option.getD_some]
        rw [eta_eq hx, joinR_self hx, eta_eq hx]
    · rw [if_neg (fun e => h1 e.2)]
      simp [decide_eq_true h0, decide_eq_false h1]
  · rw [if_neg (fun e => h0 e.1)]
    simp [decide_eq_false h0]
theorem getZ {k : KnD} {i : Int} (h : fineK k) (h0 : 0 ≤ i) (h1 : i < 8) : (((k.getD i.toNat none).getD zeroR).2.1.2.2.length : Int) < 17592186044416 := by
  cases he : k.getD i.toNat none with
  | none => decide
  | some x =>
    have hl : i.toNat < k.length := by rw [h.1]; omega
    have := (h.2 x (by rw [← he, List.getD, List.getElem?_eq_getElem hl]; exact List.getElem_mem hl)).2
    simp only [Option.getD_some]; omega

theorem kn_req {k : KnD} {i : Int} (h : fineK k) : (decide (i ≥ 0) = true → conjP [(!decide (i < 8)) = true → conjP [k = k], (!decide (i < 8)) = false → conjP [0 ≤ i ∧ i < 8, 0 ≤ i ∧ i < 8, (k.getD i.toNat none).isNone = true → conjP [k = k], (k.getD i.toNat none).isNone = false → conjP [0 ≤ i ∧ i < 8, 0 ≤ i ∧ i < 8, (k.getD i.toNat none).isNone = false, (k.getD i.toNat none).isSome = true, (8 = 8 ∧ 16 = 16) ∧ (8 = 8 ∧ 16 = 16) ∧ (((k.getD i.toNat none).getD zeroR).2.1.2.2.length : Int) < 17592186044416 ∧ (((k.getD i.toNat none).getD zeroR).2.1.2.2.length : Int) < 17592186044416, k = k]]]) ∧ (decide (i ≥ 0) = false → conjP [k = k]) := by
  refine ⟨fun a => ⟨fun _ => rfl, fun b => ?_⟩, fun _ => rfl⟩
  have a : i ≥ 0 := of_decide_eq_true a
  have b : i < 8 := by simpa using b
  exact ⟨⟨a, b⟩, ⟨a, b⟩, fun _ => rfl, fun c => ⟨⟨a, b⟩, ⟨a, b⟩, c, by cases he : k.getD i.toNat none <;> rw [he] at c <;> simp_all, ⟨⟨rfl, rfl⟩, ⟨rfl, rfl⟩, getZ h a b, getZ h a b⟩, rfl⟩⟩
theorem yesN {r : RingD} {a n : Int} (ho : etaR r = r) (e : (a == n && mayR (etaR r)) = true) : a = n ∧ mayR r = true := by
  rw [ho, Bool.and_eq_true] at e
  exact ⟨eq_of_beq e.1, e.2⟩
theorem noN {r : RingD} {a n : Int} (ho : etaR r = r) (e : (a == n && mayR (etaR r)) = false) : ¬ (a = n ∧ mayR r = true) := by
  rintro ⟨h1, h2⟩
  rw [ho, h1, h2] at e
  simp at e
theorem lLe : LpsOK Try.prog Try.f6 [(0, viaV 6 [.obj 5 2 knT, .obj 6 0 Ring] LLe.sp)] := by
  refine .cons (viaV_ok (LLe.sound g10_ok (lps := []) (n := 100) (inner rfl) (fun _ => rfl) ?_)) .nil
  rintro ⟨l, n, i, b, w, k⟩ ⟨h1, h2, h3, h4, h5, h6⟩
  simp only at h1 h2 h3 h4 h5 h6
  rw [rLe]
  refine ⟨fun c => ?_, fun c => ?_⟩
  · have c : i < (l.length : Int) := of_decide_eq_true c
    have hm := h6 _ (getD_mem (l := l) (0, 0, zeroR, [], 0) h1 c)
    have hd := drop_cons (l := l) (0, 0, zeroR, [], 0) h1 c
    simp only [zeroR] at hm hd
    generalize l.getD i.toNat (0, 0, (List.replicate 8 0, (0, 0, []), List.replicate 16 (0, 0)), [], 0) = C at *
    have ho := eta_eq hm.1
    have hs : (C.2.2.1.2.1.2.2.length : Int) < 17592186044416 := by have := hm.2; omega
    have hw : (w.2.1.2.2.length : Int) < 17592186044416 := by have := h5.2; omega
    have next : ∀ k' w' b', stepL n (k, w, b) C = (k', w', b') → fineK k' → fineR w' → LLe.Next ⟨l, n, i, b, w, k⟩ (some ⟨l, n, IntKind.i64.wrap (i + 1), b', w', k'⟩) := by
      intro k' w' b' e f1 f2
      rw [i64_inc (by omega) (by omega)]
      refine ⟨⟨by dsimp only; omega, by dsimp only; omega, h3, f1, f2, h6⟩, by simp only [LLe]; omega, ?_⟩
      simp only [LLe]
      rw [hd, List.foldl_cons, e]
    refine ⟨⟨h1, c⟩, ⟨h1, c⟩, fun _ _ _ => ⟨⟨rfl, rfl⟩, hs⟩, fun g => ?_, fun g => ?_⟩
    · have hk : heardL 0 k C = k := by
        unfold heardL
        rw [if_neg]
        rintro ⟨g1, g2, g3, g4⟩
        rw [show mayR (tab 8 C.2.2.1.1 0, C.2.2.1.2.1, tab 16 C.2.2.1.2.2 (0, 0)) = mayR C.2.2.1 from congrArg mayR ho, g4] at g
        simp [g1, g2, g3] at g
      refine ⟨fun _ => ⟨⟨rfl, rfl⟩, hs⟩, fun e => ⟨trivial, ⟨⟨rfl, rfl⟩, ⟨rfl, rfl⟩, hw, hs⟩, fun y hy => ?_⟩, fun e => ⟨by repeat' (first | exact trivial | rfl | apply And.intro), next _ _ _ ?_ h4 h5⟩⟩
      · subst hy
        have e' := yesN ho e
        refine ⟨trivial, by repeat' (first | exact trivial | rfl | apply And.intro), next _ _ _ ?_ h4 ?_⟩
        · show stepL n (k, w, b) C = (k, etaR (joinR (etaR w) (etaR C.2.2.1)), true)
          rw [ho, eta_eq h5.1, eta_eq (joinR_ok _ _)]
          unfold stepL
          rw [if_pos e', hk]
        · show fineR (etaR (joinR (etaR w) (etaR C.2.2.1)))
          rw [ho, eta_eq h5.1, eta_eq (joinR_ok _ _)]
          exact fine_join h5 hm
      · unfold stepL
        rw [if_neg (noN ho e), hk]
    · have g' : 0 ≤ C.2.1 ∧ C.2.1 < 8 ∧ C.2.1 ≠ 0 ∧ mayR C.2.2.1 = true := by
        rw [show mayR (tab 8 C.2.2.1.1 0, C.2.2.1.2.1, tab 16 C.2.2.1.2.2 (0, 0)) = mayR C.2.2.1 from congrArg mayR ho] at g
        simp only [Bool.or_eq_false_iff, Bool.not_eq_false', decide_eq_true_eq, beq_eq_false_iff_ne] at g
        exact ⟨g.1, g.2.1, g.2.2.1, g.2.2.2⟩
      have hk : heardL 0 k C = k.set C.2.1.toNat (some (joinR (knF k C.2.1).1 C.2.2.1)) := by
        unfold heardL
        rw [if_pos g']
      have hf := kn_fine h4 C.2.1
      refine ⟨kn_req h4, fun y hy => ?_⟩
      have hy := hy.trans (kn_eq h4)
      subst hy
      refine ⟨⟨⟨rfl, rfl⟩, ⟨rfl, rfl⟩, (by have := hf.2; show ((knF k C.2.1).1.2.1.2.2.length : Int) < _; omega), hs⟩, fun z hz => ?_⟩
      subst hz
      have hz : etaR (joinR (etaR (knF k C.2.1).1) (etaR C.2.2.1)) = joinR (knF k C.2.1).1 C.2.2.1 := by rw [ho, eta_eq hf.1, eta_eq (joinR_ok _ _)]
      have hfk : fineK (k.set C.2.1.toNat (some (joinR (knF k C.2.1).1 C.2.2.1))) := fineK_set h4 _ (fine_join hf hm)
      refine ⟨⟨g'.1, g'.2.1⟩, ⟨g'.1, g'.2.1⟩, fun _ => ⟨⟨rfl, rfl⟩, hs⟩, fun e => ⟨trivial, ⟨⟨rfl, rfl⟩, ⟨rfl, rfl⟩, hw, hs⟩, fun y hy => ?_⟩, fun e => ⟨by repeat' (first | exact trivial | rfl | apply And.intro), next _ _ _ ?_ ?_ h5⟩⟩
      · subst hy
        have e' := yesN ho e
        have hj : etaR (joinR (etaR w) (etaR C.2.2.1)) = joinR w C.2.2.1 := by rw [ho, eta_eq h5.1, eta_eq (joinR_ok _ _)]
        refine ⟨trivial, by repeat' (first | exact trivial | rfl | apply And.intro), next _ _ _ ?_ ?_ ?_⟩
        · show stepL n (k, w, b) C = (k.set C.2.1.toNat (some (etaR (joinR (etaR (knF k C.2.1).1) (etaR C.2.2.1)))), etaR (joinR (etaR w) (etaR C.2.2.1)), true)
          rw [hz, hj]
          unfold stepL
          rw [if_pos e', hk]
        · show fineK (k.set C.2.1.toNat (some (etaR (joinR (etaR (knF k C.2.1).1) (etaR C.2.2.1)))))
          rw [hz]; exact hfk
        · show fineR (etaR (joinR (etaR w) (etaR C.2.2.1)))
          rw [hj]; exact fine_join h5 hm
      · show stepL n (k, w, b) C = (k.set C.2.1.toNat (some (etaR (joinR (etaR (knF k C.2.1).1) (etaR C.2.2.1)))), w, b)
        rw [hz]
        unfold stepL
        rw [if_neg (noN ho e), hk]
      · show fineK (k.set C.2.1.toNat (some (etaR (joinR (etaR (knF k C.2.1).1) (etaR C.2.2.1)))))
        rw [hz]; exact hfk
  · have hd := drop_end (l := l) (i := i) (fun e => by simp [e] at c)
    rw [hd]
    exact ⟨by repeat' (first | exact trivial | rfl | apply And.intro), trivial⟩
end Pl
