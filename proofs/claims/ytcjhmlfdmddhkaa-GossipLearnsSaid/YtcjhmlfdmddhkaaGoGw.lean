import Derived.Test.YtcjhmlfdmddhkaaGoCa
import Derived.Test.YtcjhmlfdmddhkaaSx40
namespace Pl
open Go Sx Go.Proofs Go.RowKit
theorem idxF_ge (v : Int) : ∀ (l : List Int) (i : Int), 0 ≤ i → l.contains v = true → 0 ≤ idxF v l i ∧ i ≤ idxF v l i ∧ idxF v l i < i + l.length ∧ l.getD (idxF v l i - i).toNat 0 = v
  | [], i, h0, h => by simp at h
  | x :: r, i, h0, h => by
    simp only [idxF]
    split
    · rename_i e; simp [h0, e]; omega
    · rename_i e
      have : r.contains v = true := by simp at h ⊢; rcases h with h | h; exact absurd h.symm e; exact h
      obtain ⟨a, b, c, d⟩ := idxF_ge v r (i + 1) (by omega) this
      refine ⟨a, by omega, by simp; omega, ?_⟩
      rw [show (idxF v r (i + 1) - i).toNat = (idxF v r (i + 1) - (i + 1)).toNat + 1 by omega]
      exact d
theorem lIx : LpsOK Try.prog Try.f62 [(0, LIx.sp)] := by
  refine .cons (LIx.sound E0_ok (lps := []) (n := 100) (inner rfl) (fun _ => rfl) ?_) .nil
  rintro ⟨l, v, i⟩ ⟨h1, h2, h3⟩
  simp only at h1 h2 h3
  rw [rIx]
  simp only [Tree.all, true_and, and_true, LoopC.Next, decide_eq_true_eq, decide_eq_false_iff_not, beq_iff_eq, beq_eq_false_iff_ne, ne_eq]
  refine ⟨fun c => ⟨⟨h1, c⟩, ⟨h1, c⟩, fun d => ⟨fun e => ?_, fun e => ?_⟩, fun d => ?_⟩, fun c => ⟨fun e => ?_, fun _ => trivial⟩⟩
  · rw [drop_cons 0 h1 c, idxF, if_pos d.symm]
  · rw [drop_cons 0 h1 c] at e; simp [d] at e
  · rw [i64_inc (by omega) (by unfold big at h3; omega)]
    refine ⟨⟨by dsimp only; omega, by dsimp only; omega, h3⟩, by simp only [LIx]; omega, ?_⟩
    simp only [LIx]
    rw [drop_cons 0 h1 c, idxF, if_neg (fun e => d e.symm), List.contains_cons]
    have : (v == l.getD i.toNat 0) = false := by simpa using d
    rw [this]; simp
  · rw [drop_end c] at e; simp at e
def indexF (l : List Int) (v : Int) : Int := if l.contains v then idxF v l 0 else -1
theorem index_t (l : List Int) (v : Int) (h : (l.length : Int) < big) : (fnT E0 [(0, LIx.sp)] 100 Try.f62 [ints, i64] [i64] (l, v, ())).all fun y => y = (indexF l v, ()) := by
  rw [tIx]
  simp only [Tree.all, true_and, and_true]
  exact ⟨⟨by omega, by omega, h⟩, fun c => by rw [indexF, if_pos c], fun c => by rw [indexF, if_neg (by rw [c]; decide)]⟩
theorem index_ok : PureOK Try.prog 62 [ints, i64] [i64] (fun x => (List.length (α := Int) x.1 : Int) < big) (fun x => (indexF x.1 x.2.1, ())) :=
  fn_pure (E := E0) (n := 100) E0_ok Try.func62 bodyIx lIx fun x h => index_t x.1 x.2.1 h
abbrev KIx : Nat × Sx.Spec := (62, pureSp [ints, i64] [i64] (fun x => (List.length (α := Int) x.1 : Int) < big) (fun x => (indexF x.1 x.2.1, ())))
noncomputable abbrev C0 : Ex := mkEx Try.prog [KIx]
theorem C0_ok : C0.Sound := mkEx_sound ⟨pureSp_ok index_ok, trivial⟩
theorem tCt (l : List Int) (v : Int) : @Eq _
  (fnT C0 [] 100 Try.f44 [ints, i64] [.bool] (l, v, ()))
  (.req ((↑l.length : Int) < (4611686018427387904 : Int)) (
 .leaf ((decide ((if l.contains v = true then Pl.idxF v l (0 : Int) else (-1 : Int)) ≥ (0 : Int)), ()))) : Tree (Bool × PUnit)) := by kernel_rfl
theorem contains_t (l : List Int) (v : Int) (h : (l.length : Int) < big) : (fnT C0 [] 100 Try.f44 [ints, i64] [.bool] (l, v, ())).all fun y => y = (l.contains v, ()) := by
  rw [tCt]
  simp only [Tree.all]
  refine ⟨h, ?_⟩
  cases hc : l.contains v with
  | true => have := (idxF_ge v l 0 (by omega) hc).1; rw [if_pos rfl]; simp [this]
  | false => rw [if_neg (by decide)]; simp
theorem contains_ok : PureOK Try.prog 44 [ints, i64] [.bool] (fun x => (List.length (α := Int) x.1 : Int) < big) (fun x => (List.contains (α := Int) x.1 x.2.1, ())) :=
  fn_pure (E := C0) (n := 100) C0_ok Try.func44 bodyCt .nil fun x h => contains_t x.1 x.2.1 h
def hasL (l : List Int) (v : Int) : Int := cntB (fun p => atL l (p : Int) == v) 16 0
def memL (l : List Int) : List Int := fltB (fun n => l.contains (n : Int)) 8 0
def movL (l m : List Int) : Int := cntB (fun p => !(atL l (p : Int) == atL m (p : Int))) 16 0
end Pl
namespace Pl
open Go Sx Go.Proofs Go.RowKit
abbrev KCt : Nat × Sx.Spec := (44, pureSp [ints, i64] [.bool] (fun x => (List.length (α := Int) x.1 : Int) < big) (fun x => (List.contains (α := Int) x.1 x.2.1, ())))
noncomputable abbrev h1 : Ex := mkExM Try.prog [KCt]
theorem h1_ok : h1.Sound := mkExM_sound ⟨pureSp_ok contains_ok, trivial⟩
abbrev OrdT : Ty := .cat i64 ints
noncomputable abbrev h2 : Ex := mkExM Try.prog [(17, fnI E0 [] 100 Try.f17), KClo]
theorem h2_ok : h2.Sound := mkExM_sound ⟨fnI_ok (E := E0) E0_ok Try.func17 gbNd .nil, ownSp_ok bclo, trivial⟩
def shX (x : Int) : Int := IntKind.u64.wrap (IntKind.u64.wrap (x * 6364136223846793005) + 1442695040888963407)
def shK (n x : Int) : Int := IntKind.i64.wrap (((shX x).fdiv 8589934592).tmod (IntKind.u64.wrap (IntKind.i64.wrap (n + 1))))
def shL : Nat → List Int → Int → List Int
  | 0, l, _ => l
  | n + 1, l, x => shL n ((l.set (n + 1) (l.getD (shK (n + 1 : Nat) x).toNat 0)).set (shK (n + 1 : Nat) x).toNat (l.getD (n + 1) 0)) (shX x)
def shF (l : List Int) (d : Int) : List Int := shL ((l.take 64).length - 1) (l.take 64) d
structure ASh where
  l : List Int
  n : Int
  x : Int
def LSh : LoopC ASh where
  n0 := 3
  det st := match rowS st 5 i64, intS st 7, intS st 6 with | some l0, some n1, some i2 => some ⟨l0, n1, i2⟩ | _, _, _ => none
  rows := [(2, .slot 5)]
  inv a := ⟨[(7, iv a.n), (6, .one (.int IntKind.u64 a.x)), (5, .one (.row 2))],
    [(2, .own i64 a.l)], 3⟩
  ok a := -1 ≤ a.n ∧ a.n < 64 ∧ (a.n < a.l.length ∨ a.n = -1) ∧ a.l.length ≤ 64
  mu a := a.n.toNat
  fin a := .leaf ⟨2, ⟨[(5, .one (.row 2))],
    [(2, .own i64 (shL a.n.toNat a.l a.x))], 3⟩⟩
theorem rSh (l : List Int) (n x : Int) : @Eq _
  (LSh.round h2 [] 100 Try.f48 0 ⟨l, n, x⟩)
  (.fork (decide (n > (0 : Int))) (
 .req ((0 : Int) ≤ (33 : Int)) (
  .req (IntKind.u64.wrap (IntKind.i64.wrap (n + (1 : Int))) ≠ (0 : Int)) (
   .req ((0 : Int) ≤ IntKind.i64.wrap (((IntKind.u64.wrap (IntKind.u64.wrap (x * (6364136223846793005 : Int)) + (1442695040888963407 : Int))).fdiv (8589934592 : Int)).tmod (IntKind.u64.wrap (IntKind.i64.wrap (n + (1 : Int))))) ∧ IntKind.i64.wrap (((IntKind.u64.wrap (IntKind.u64.wrap (x * (6364136223846793005 : Int)) + (1442695040888963407 : Int))).fdiv (8589934592 : Int)).tmod (IntKind.u64.wrap (IntKind.i64.wrap (n + (1 : Int))))) < (↑l.length : Int)) (
    .req ((0 : Int) ≤ IntKind.i64.wrap (((IntKind.u64.wrap (IntKind.u64.wrap (x * (6364136223846793005 : Int)) + (1442695040888963407 : Int))).fdiv (8589934592 : Int)).tmod (IntKind.u64.wrap (IntKind.i64.wrap (n + (1 : Int))))) ∧ IntKind.i64.wrap (((IntKind.u64.wrap (IntKind.u64.wrap (x * (6364136223846793005 : Int)) + (1442695040888963407 : Int))).fdiv (8589934592 : Int)).tmod (IntKind.u64.wrap (IntKind.i64.wrap (n + (1 : Int))))) < (↑l.length : Int)) (
     .req ((0 : Int) ≤ n ∧ n < (↑l.length : Int)) (
      .req ((0 : Int) ≤ n ∧ n < (↑l.length : Int)) (
       .req ((0 : Int) ≤ n ∧ n < (↑l.length : Int)) (
        .req ((0 : Int) ≤ n ∧ n < (↑l.length : Int)) (
         .req ((0 : Int) ≤ IntKind.i64.wrap (((IntKind.u64.wrap (IntKind.u64.wrap (x * (6364136223846793005 : Int)) + (1442695040888963407 : Int))).fdiv (8589934592 : Int)).tmod (IntKind.u64.wrap (IntKind.i64.wrap (n + (1 : Int))))) ∧ IntKind.i64.wrap (((IntKind.u64.wrap (IntKind.u64.wrap (x * (6364136223846793005 : Int)) + (1442695040888963407 : Int))).fdiv (8589934592 : Int)).tmod (IntKind.u64.wrap (IntKind.i64.wrap (n + (1 : Int))))) < (↑l.length : Int)) (
          .req ((0 : Int) ≤ IntKind.i64.wrap (((IntKind.u64.wrap (IntKind.u64.wrap (x * (6364136223846793005 : Int)) + (1442695040888963407 : Int))).fdiv (8589934592 : Int)).tmod (IntKind.u64.wrap (IntKind.i64.wrap (n + (1 : Int))))) ∧ IntKind.i64.wrap (((IntKind.u64.wrap (IntKind.u64.wrap (x * (6364136223846793005 : Int)) + (1442695040888963407 : Int))).fdiv (8589934592 : Int)).tmod (IntKind.u64.wrap (IntKind.i64.wrap (n + (1 : Int))))) < (↑(l.set n.toNat (l.getD (IntKind.i64.wrap (((IntKind.u64.wrap (IntKind.u64.wrap (x * (6364136223846793005 : Int)) + (1442695040888963407 : Int))).fdiv (8589934592 : Int)).tmod (IntKind.u64.wrap (IntKind.i64.wrap (n + (1 : Int)))))).toNat (0 : Int))).length : Int)) (
           .req (IntKind.i64.wrap (n - (1 : Int)) = IntKind.i64.wrap (n - (1 : Int)) ∧ IntKind.u64.wrap (IntKind.u64.wrap (x * (6364136223846793005 : Int)) + (1442695040888963407 : Int)) = IntKind.u64.wrap (IntKind.u64.wrap (x * (6364136223846793005 : Int)) + (1442695040888963407 : Int)) ∧ (l.set n.toNat (l.getD (IntKind.i64.wrap (((IntKind.u64.wrap (IntKind.u64.wrap (x * (6364136223846793005 : Int)) + (1442695040888963407 : Int))).fdiv (8589934592 : Int)).tmod (IntKind.u64.wrap (IntKind.i64.wrap (n + (1 : Int)))))).toNat (0 : Int))).set (IntKind.i64.wrap (((IntKind.u64.wrap (IntKind.u64.wrap (x * (6364136223846793005 : Int)) + (1442695040888963407 : Int))).fdiv (8589934592 : Int)).tmod (IntKind.u64.wrap (IntKind.i64.wrap (n + (1 : Int)))))).toNat (l.getD n.toNat (0 : Int)) = (l.set n.toNat (l.getD (IntKind.i64.wrap (((IntKind.u64.wrap (IntKind.u64.wrap (x * (6364136223846793005 : Int)) + (1442695040888963407 : Int))).fdiv (8589934592 : Int)).tmod (IntKind.u64.wrap (IntKind.i64.wrap (n + (1 : Int)))))).toNat (0 : Int))).set (IntKind.i64.wrap (((IntKind.u64.wrap (IntKind.u64.wrap (x * (6364136223846793005 : Int)) + (1442695040888963407 : Int))).fdiv (8589934592 : Int)).tmod (IntKind.u64.wrap (IntKind.i64.wrap (n + (1 : Int)))))).toNat (l.getD n.toNat (0 : Int))) (
            .leaf (Option.some { l := (l.set n.toNat (l.getD (IntKind.i64.wrap (((IntKind.u64.wrap (IntKind.u64.wrap (x * (6364136223846793005 : Int)) + (1442695040888963407 : Int))).fdiv (8589934592 : Int)).tmod (IntKind.u64.wrap (IntKind.i64.wrap (n + (1 : Int)))))).toNat (0 : Int))).set (IntKind.i64.wrap (((IntKind.u64.wrap (IntKind.u64.wrap (x * (6364136223846793005 : Int)) + (1442695040888963407 : Int))).fdiv (8589934592 : Int)).tmod (IntKind.u64.wrap (IntKind.i64.wrap (n + (1 : Int)))))).toNat (l.getD n.toNat (0 : Int)), n := IntKind.i64.wrap (n - (1 : Int)), x := IntKind.u64.wrap (IntKind.u64.wrap (x * (6364136223846793005 : Int)) + (1442695040888963407 : Int)) }))))))))))))) (
 .req (l = Pl.shL n.toNat l x) (
  .leaf (Option.none))) : Tree (Option Pl.ASh)) := by kernel_rfl
theorem rSp (l : List Int) (n x : Int) : @Eq _
  (LSh.round h2 [] 100 Try.f45 0 ⟨l, n, x⟩)
  (.fork (decide (n > (0 : Int))) (
 .req ((0 : Int) ≤ (33 : Int)) (
  .req (IntKind.u64.wrap (IntKind.i64.wrap (n + (1 : Int))) ≠ (0 : Int)) (
   .req ((0 : Int) ≤ IntKind.i64.wrap (((IntKind.u64.wrap (IntKind.u64.wrap ((6364136223846793005 : Int) * x) + (1442695040888963407 : Int))).fdiv (8589934592 : Int)).tmod (IntKind.u64.wrap (IntKind.i64.wrap (n + (1 : Int))))) ∧ IntKind.i64.wrap (((IntKind.u64.wrap (IntKind.u64.wrap ((6364136223846793005 : Int) * x) + (1442695040888963407 : Int))).fdiv (8589934592 : Int)).tmod (IntKind.u64.wrap (IntKind.i64.wrap (n + (1 : Int))))) < (↑l.length : Int)) (
    .req ((0 : Int) ≤ IntKind.i64.wrap (((IntKind.u64.wrap (IntKind.u64.wrap ((6364136223846793005 : Int) * x) + (1442695040888963407 : Int))).fdiv (8589934592 : Int)).tmod (IntKind.u64.wrap (IntKind.i64.wrap (n + (1 : Int))))) ∧ IntKind.i64.wrap (((IntKind.u64.wrap (IntKind.u64.wrap ((6364136223846793005 : Int) * x) + (1442695040888963407 : Int))).fdiv (8589934592 : Int)).tmod (IntKind.u64.wrap (IntKind.i64.wrap (n + (1 : Int))))) < (↑l.length : Int)) (
     .req ((0 : Int) ≤ n ∧ n < (↑l.length : Int)) (
      .req ((0 : Int) ≤ n ∧ n < (↑l.length : Int)) (
       .req ((0 : Int) ≤ n ∧ n < (↑l.length : Int)) (
        .req ((0 : Int) ≤ n ∧ n < (↑l.length : Int)) (
         .req ((0 : Int) ≤ IntKind.i64.wrap (((IntKind.u64.wrap (IntKind.u64.wrap ((6364136223846793005 : Int) * x) + (1442695040888963407 : Int))).fdiv (8589934592 : Int)).tmod (IntKind.u64.wrap (IntKind.i64.wrap (n + (1 : Int))))) ∧ IntKind.i64.wrap (((IntKind.u64.wrap (IntKind.u64.wrap ((6364136223846793005 : Int) * x) + (1442695040888963407 : Int))).fdiv (8589934592 : Int)).tmod (IntKind.u64.wrap (IntKind.i64.wrap (n + (1 : Int))))) < (↑l.length : Int)) (
          .req ((0 : Int) ≤ IntKind.i64.wrap (((IntKind.u64.wrap (IntKind.u64.wrap ((6364136223846793005 : Int) * x) + (1442695040888963407 : Int))).fdiv (8589934592 : Int)).tmod (IntKind.u64.wrap (IntKind.i64.wrap (n + (1 : Int))))) ∧ IntKind.i64.wrap (((IntKind.u64.wrap (IntKind.u64.wrap ((6364136223846793005 : Int) * x) + (1442695040888963407 : Int))).fdiv (8589934592 : Int)).tmod (IntKind.u64.wrap (IntKind.i64.wrap (n + (1 : Int))))) < (↑(l.set n.toNat (l.getD (IntKind.i64.wrap (((IntKind.u64.wrap (IntKind.u64.wrap ((6364136223846793005 : Int) * x) + (1442695040888963407 : Int))).fdiv (8589934592 : Int)).tmod (IntKind.u64.wrap (IntKind.i64.wrap (n + (1 : Int)))))).toNat (0 : Int))).length : Int)) (
           .req (IntKind.i64.wrap (n - (1 : Int)) = IntKind.i64.wrap (n - (1 : Int)) ∧ IntKind.u64.wrap (IntKind.u64.wrap ((6364136223846793005 : Int) * x) + (1442695040888963407 : Int)) = IntKind.u64.wrap (IntKind.u64.wrap ((6364136223846793005 : Int) * x) + (1442695040888963407 : Int)) ∧ (l.set n.toNat (l.getD (IntKind.i64.wrap (((IntKind.u64.wrap (IntKind.u64.wrap ((6364136223846793005 : Int) * x) + (1442695040888963407 : Int))).fdiv (8589934592 : Int)).tmod (IntKind.u64.wrap (IntKind.i64.wrap (n + (1 : Int)))))).toNat (0 : Int))).set (IntKind.i64.wrap (((IntKind.u64.wrap (IntKind.u64.wrap ((6364136223846793005 : Int) * x) + (1442695040888963407 : Int))).fdiv (8589934592 : Int)).tmod (IntKind.u64.wrap (IntKind.i64.wrap (n + (1 : Int)))))).toNat (l.getD n.toNat (0 : Int)) = (l.set n.toNat (l.getD (IntKind.i64.wrap (((IntKind.u64.wrap (IntKind.u64.wrap ((6364136223846793005 : Int) * x) + (1442695040888963407 : Int))).fdiv (8589934592 : Int)).tmod (IntKind.u64.wrap (IntKind.i64.wrap (n + (1 : Int)))))).toNat (0 : Int))).set (IntKind.i64.wrap (((IntKind.u64.wrap (IntKind.u64.wrap ((6364136223846793005 : Int) * x) + (1442695040888963407 : Int))).fdiv (8589934592 : Int)).tmod (IntKind.u64.wrap (IntKind.i64.wrap (n + (1 : Int)))))).toNat (l.getD n.toNat (0 : Int))) (
            .leaf (Option.some { l := (l.set n.toNat (l.getD (IntKind.i64.wrap (((IntKind.u64.wrap (IntKind.u64.wrap ((6364136223846793005 : Int) * x) + (1442695040888963407 : Int))).fdiv (8589934592 : Int)).tmod (IntKind.u64.wrap (IntKind.i64.wrap (n + (1 : Int)))))).toNat (0 : Int))).set (IntKind.i64.wrap (((IntKind.u64.wrap (IntKind.u64.wrap ((6364136223846793005 : Int) * x) + (1442695040888963407 : Int))).fdiv (8589934592 : Int)).tmod (IntKind.u64.wrap (IntKind.i64.wrap (n + (1 : Int)))))).toNat (l.getD n.toNat (0 : Int)), n := IntKind.i64.wrap (n - (1 : Int)), x := IntKind.u64.wrap (IntKind.u64.wrap ((6364136223846793005 : Int) * x) + (1442695040888963407 : Int)) }))))))))))))) (
 .req (l = Pl.shL n.toNat l x) (
  .leaf (Option.none))) : Tree (Option Pl.ASh)) := by kernel_rfl
theorem tSh (l : List Int) (d : Int) : @Eq _
  (fnO h2 [(0, LSh.sp)] 100 Try.f48 [ints, .int .u64] [ints] (l, d, ()))
  (.req ((0 : Int) ≤ (0 : Int) ∧ ((0 : Int) ≤ if (64 : Int) < (↑l.length : Int) then (64 : Int) else (↑l.length : Int)) ∧ (if (64 : Int) < (↑l.length : Int) then (64 : Int) else (↑l.length : Int)) ≤ (↑l.length : Int)) (
 .req ((0 + (List.take ((if (64 : Int) < (↑l.length : Int) then (64 : Int) else (↑l.length : Int)).toNat - 0) l).length) * 9 ≤ 70368744177664) (
  .req ((-1 : Int) ≤ IntKind.i64.wrap ((↑(([] : List Int) ++ List.take ((if (64 : Int) < (↑l.length : Int) then (64 : Int) else (↑l.length : Int)).toNat - 0) l).length : Int) - (1 : Int)) ∧ IntKind.i64.wrap ((↑(([] : List Int) ++ List.take ((if (64 : Int) < (↑l.length : Int) then (64 : Int) else (↑l.length : Int)).toNat - 0) l).length : Int) - (1 : Int)) < (64 : Int) ∧ (IntKind.i64.wrap ((↑(([] : List Int) ++ List.take ((if (64 : Int) < (↑l.length : Int) then (64 : Int) else (↑l.length : Int)).toNat - 0) l).length : Int) - (1 : Int)) < (↑(([] : List Int) ++ List.take ((if (64 : Int) < (↑l.length : Int) then (64 : Int) else (↑l.length : Int)).toNat - 0) l).length : Int) ∨ IntKind.i64.wrap ((↑(([] : List Int) ++ List.take ((if (64 : Int) < (↑l.length : Int) then (64 : Int) else (↑l.length : Int)).toNat - 0) l).length : Int) - (1 : Int)) = (-1 : Int)) ∧ (([] : List Int) ++ List.take ((if (64 : Int) < (↑l.length : Int) then (64 : Int) else (↑l.length : Int)).toNat - 0) l).length ≤ 64) (
   .req (IntKind.i64.wrap ((↑(([] : List Int) ++ List.take ((if (64 : Int) < (↑l.length : Int) then (64 : Int) else (↑l.length : Int)).toNat - 0) l).length : Int) - (1 : Int)) = IntKind.i64.wrap ((↑(([] : List Int) ++ List.take ((if (64 : Int) < (↑l.length : Int) then (64 : Int) else (↑l.length : Int)).toNat - 0) l).length : Int) - (1 : Int)) ∧ d = d ∧ ([] : List Int) ++ List.take ((if (64 : Int) < (↑l.length : Int) then (64 : Int) else (↑l.length : Int)).toNat - 0) l = ([] : List Int) ++ List.take ((if (64 : Int) < (↑l.length : Int) then (64 : Int) else (↑l.length : Int)).toNat - 0) l) (
    .leaf ((Pl.shL (IntKind.i64.wrap ((↑(([] : List Int) ++ List.take ((if (64 : Int) < (↑l.length : Int) then (64 : Int) else (↑l.length : Int)).toNat - 0) l).length : Int) - (1 : Int))).toNat (([] : List Int) ++ List.take ((if (64 : Int) < (↑l.length : Int) then (64 : Int) else (↑l.length : Int)).toNat - 0) l) d, ())))))) : Tree (List Int × PUnit)) := by kernel_rfl
theorem tSp (l : List Int) (d : Int) : @Eq _
  (fnO h2 [(0, LSh.sp)] 100 Try.f45 [ints, .int .u64] [ints] (l, d, ()))
  (.req ((0 : Int) ≤ (0 : Int) ∧ ((0 : Int) ≤ if (64 : Int) < (↑l.length : Int) then (64 : Int) else (↑l.length : Int)) ∧ (if (64 : Int) < (↑l.length : Int) then (64 : Int) else (↑l.length : Int)) ≤ (↑l.length : Int)) (
 .req ((↑(List.take ((if (64 : Int) < (↑l.length : Int) then (64 : Int) else (↑l.length : Int)).toNat - 0) l).length : Int) < (17592186044416 : Int)) (
  .req ((-1 : Int) ≤ IntKind.i64.wrap ((↑(List.take ((if (64 : Int) < (↑l.length : Int) then (64 : Int) else (↑l.length : Int)).toNat - 0) l).length : Int) - (1 : Int)) ∧ IntKind.i64.wrap ((↑(List.take ((if (64 : Int) < (↑l.length : Int) then (64 : Int) else (↑l.length : Int)).toNat - 0) l).length : Int) - (1 : Int)) < (64 : Int) ∧ (IntKind.i64.wrap ((↑(List.take ((if (64 : Int) < (↑l.length : Int) then (64 : Int) else (↑l.length : Int)).toNat - 0) l).length : Int) - (1 : Int)) < (↑(List.take ((if (64 : Int) < (↑l.length : Int) then (64 : Int) else (↑l.length : Int)).toNat - 0) l).length : Int) ∨ IntKind.i64.wrap ((↑(List.take ((if (64 : Int) < (↑l.length : Int) then (64 : Int) else (↑l.length : Int)).toNat - 0) l).length : Int) - (1 : Int)) = (-1 : Int)) ∧ (List.take ((if (64 : Int) < (↑l.length : Int) then (64 : Int) else (↑l.length : Int)).toNat - 0) l).length ≤ 64) (
   .req (IntKind.i64.wrap ((↑(List.take ((if (64 : Int) < (↑l.length : Int) then (64 : Int) else (↑l.length : Int)).toNat - 0) l).length : Int) - (1 : Int)) = IntKind.i64.wrap ((↑(List.take ((if (64 : Int) < (↑l.length : Int) then (64 : Int) else (↑l.length : Int)).toNat - 0) l).length : Int) - (1 : Int)) ∧ d = d ∧ List.take ((if (64 : Int) < (↑l.length : Int) then (64 : Int) else (↑l.length : Int)).toNat - 0) l = List.take ((if (64 : Int) < (↑l.length : Int) then (64 : Int) else (↑l.length : Int)).toNat - 0) l) (
    .leaf ((Pl.shL (IntKind.i64.wrap ((↑(List.take ((if (64 : Int) < (↑l.length : Int) then (64 : Int) else (↑l.length : Int)).toNat - 0) l).length : Int) - (1 : Int))).toNat (List.take ((if (64 : Int) < (↑l.length : Int) then (64 : Int) else (↑l.length : Int)).toNat - 0) l) d, ())))))) : Tree (List Int × PUnit)) := by kernel_rfl
structure ABr where
  s : Int
  r : List Int
  l : List Int
  i : Int
  o : List Int
def LBr : LoopC ABr where
  n0 := 3
  det st := match intG st 0 0, rowC st 0 1 i64, rowS st 1 i64, intS st 7, rowS st 5 i64 with | some s, some r, some l, some i0, some l1 => some ⟨s, r, l, i0, l1⟩ | _, _, _, _, _ => none
  rows := [(3, .slot 5)]
  inv a := ⟨[(7, iv a.i), (5, .one (.row 3)), (0, .one (.ptr 0 0)), (1, .one (.row 2))],
    [(0, .rob [.int .i64 a.s, .row 1]), (1, .ro i64 a.r), (2, .ro i64 a.l), (3, .own i64 a.o)], 4⟩
  ok a := 0 ≤ a.i ∧ a.i ≤ 8 ∧ (a.o.length : Int) ≤ a.i ∧ (a.l.length : Int) < big
  mu a := 8 - a.i.toNat
  fin a := .leaf ⟨2, ⟨[(5, .one (.row 3))],
    [(3, .own i64 (a.o ++ fltB (fun j => !((j : Int) == a.s) && a.l.contains (j : Int)) (8 - a.i.toNat) a.i.toNat))], 4⟩⟩
theorem rBr (s : Int) (r l : List Int) (i : Int) (o : List Int) : @Eq _
  (LBr.round h1 [] 100 Try.f41 0 ⟨s, r, l, i, o⟩)
  (.fork (decide (i < (8 : Int))) (
 .req ((i != s) = true → conjP [(↑l.length : Int) < (4611686018427387904 : Int)]) (
  .fork (i != s && l.contains i) (
   .req ((o.length + 1) * 9 ≤ 70368744177664) (
    .req (IntKind.i64.wrap (i + (1 : Int)) = IntKind.i64.wrap (i + (1 : Int)) ∧ s = s ∧ r = r ∧ l = l ∧ o ++ [i] = o ++ [i]) (
     .leaf (Option.some { s := s, r := r, l := l, i := IntKind.i64.wrap (i + (1 : Int)), o := o ++ [i] })))) (
   .req (IntKind.i64.wrap (i + (1 : Int)) = IntKind.i64.wrap (i + (1 : Int)) ∧ s = s ∧ r = r ∧ l = l ∧ o = o) (
    .leaf (Option.some { s := s, r := r, l := l, i := IntKind.i64.wrap (i + (1 : Int)), o := o }))))) (
 .req (o = o ++ fltB (fun j => !(↑j : Int) == s && l.contains (↑j : Int)) (8 - i.toNat) i.toNat) (
  .leaf (Option.none))) : Tree (Option Pl.ABr)) := by kernel_rfl
theorem tBr (s : Int) (r l : List Int) : @Eq _
  (fnO h1 [(0, LBr.sp)] 100 Try.f41 [.ptr OrdT, ints] [ints] ((s, r), l, ()))
  (.req ((0 : Int) ≤ (0 : Int) ∧ (0 : Int) ≤ (8 : Int) ∧ (0 : Int) ≤ (0 : Int) ∧ (↑l.length : Int) < (4611686018427387904 : Int)) (
 .req ((0 : Int) = (0 : Int) ∧ s = s ∧ r = r ∧ l = l ∧ ([] : List Int) = ([] : List Int)) (
  .leaf ((([] : List Int) ++ fltB (fun j => !(↑j : Int) == s && l.contains (↑j : Int)) 8 0, ())))) : Tree (List Int × PUnit)) := by kernel_rfl
structure AHx where
  l : List Int
  v : Int
  i : Int
def LHx : LoopC AHx where
  n0 := 1
  det st := match rowS st 7 i64, intS st 1, intS st 9 with | some l, some s, some i0 => some ⟨l, s, i0⟩ | _, _, _ => none
  inv a := ⟨[(9, iv a.i), (8, iv (↑a.l.length : Int)), (7, .one (.row 0)), (1, iv a.v)],
    [(0, .ro i64 a.l)], 1⟩
  ok a := 0 ≤ a.i ∧ a.i ≤ a.l.length ∧ (a.l.length : Int) < big
  mu a := a.l.length - a.i.toNat
  fin a := .fork ((a.l.drop a.i.toNat).contains a.v) (.leaf ⟨1, ⟨[(4, .one (.cbool true))], [], 1⟩⟩) (.leaf ⟨2, ⟨[], [], 1⟩⟩)
theorem rHx (l : List Int) (v i : Int) : @Eq _
  (LHx.round h1 [] 100 Try.f47 0 ⟨l, v, i⟩)
  (.fork (decide (i < (↑l.length : Int))) (
 .req ((0 : Int) ≤ i ∧ i < (↑l.length : Int)) (
  .req ((0 : Int) ≤ i ∧ i < (↑l.length : Int)) (
   .fork (l.getD i.toNat (0 : Int) == v) (
    .fork ((List.drop i.toNat l).contains v) (
     .req (True) (
      .leaf (Option.none))) (
     .req (False) (
      .leaf (Option.none)))) (
    .req (IntKind.i64.wrap (i + (1 : Int)) = IntKind.i64.wrap (i + (1 : Int)) ∧ (↑l.length : Int) = (↑l.length : Int) ∧ v = v ∧ l = l) (
     .leaf (Option.some { l := l, v := v, i := IntKind.i64.wrap (i + (1 : Int)) })))))) (
 .fork ((List.drop i.toNat l).contains v) (
  .req (False) (
   .leaf (Option.none))) (
  .req (True) (
   .leaf (Option.none)))) : Tree (Option Pl.AHx)) := by kernel_rfl
theorem tHx (l : List Int) (v : Int) : @Eq _
  (fnT h1 [(0, LHx.sp)] 100 Try.f47 [ints, i64] [.bool] (l, v, ()))
  (.req ((0 : Int) ≤ (0 : Int) ∧ (0 : Int) ≤ (↑l.length : Int) ∧ (↑l.length : Int) < (4611686018427387904 : Int)) (
 .req ((0 : Int) = (0 : Int) ∧ (↑l.length : Int) = (↑l.length : Int) ∧ v = v ∧ l = l) (
  .fork (l.contains v) (
   .leaf ((true, ()))) (
   .leaf ((false, ()))))) : Tree (Bool × PUnit)) := by kernel_rfl
structure APe where
  l : List Int
  s : Int
  i : Int
  b : List Bool
def pe1 (s : Int) : List Int → List Bool → List Bool
  | [], b => b
  | x :: r, b => pe1 s r (if 0 ≤ x ∧ x < 8 ∧ x ≠ s then b.set x.toNat true else b)
abbrev b8 : Ty := .rep 8 .bool
def LPe : LoopC APe where
  n0 := 2
  det st := match rowS st 11 i64, intS st 1, intS st 13, datO st 1 b8 with | some l, some s, some i0, some b => some ⟨l, s, i0, b⟩ | _, _, _, _ => none
  inv a := ⟨[(13, iv a.i), (12, iv (↑a.l.length : Int)), (11, .one (.row 0)), (5, .one (.ptr 1 0)), (1, iv a.s)],
    [(1, .obj [] b8 a.b), (0, .ro i64 a.l)], 2⟩
  ok a := 0 ≤ a.i ∧ a.i ≤ a.l.length ∧ (a.l.length : Int) < big ∧ a.b.length = 8
  mu a := a.l.length - a.i.toNat
  fin a := .leaf ⟨2, ⟨[(5, .one (.ptr 1 0))],
    [(1, .obj [] b8 (pe1 a.s (a.l.drop a.i.toNat) a.b))], 2⟩⟩
theorem rPe (l : List Int) (s i : Int) (b : List Bool) : @Eq _
  (LPe.round h2 [] 100 Try.f46 0 ⟨l, s, i, b⟩)
  (.fork (decide (i < (↑l.length : Int))) (
 .req ((0 : Int) ≤ i ∧ i < (↑l.length : Int)) (
  .req ((0 : Int) ≤ i ∧ i < (↑l.length : Int)) (
   .req (True) (
    .fork (decide (l.getD i.toNat (0 : Int) ≥ (0 : Int)) && (decide (l.getD i.toNat (0 : Int) < (8 : Int)) && l.getD i.toNat (0 : Int) != s)) (
     .req ((0 : Int) ≤ l.getD i.toNat (0 : Int) ∧ l.getD i.toNat (0 : Int) < (8 : Int)) (
      .req ((0 : Int) ≤ l.getD i.toNat (0 : Int) ∧ l.getD i.toNat (0 : Int) < (8 : Int)) (
       .req (IntKind.i64.wrap (i + (1 : Int)) = IntKind.i64.wrap (i + (1 : Int)) ∧ (↑l.length : Int) = (↑l.length : Int) ∧ s = s ∧ b.set (l.getD i.toNat (0 : Int)).toNat true = b.set (l.getD i.toNat (0 : Int)).toNat true ∧ l = l) (
        .leaf (Option.some { l := l, s := s, i := IntKind.i64.wrap (i + (1 : Int)), b := b.set (l.getD i.toNat (0 : Int)).toNat true }))))) (
     .req (IntKind.i64.wrap (i + (1 : Int)) = IntKind.i64.wrap (i + (1 : Int)) ∧ (↑l.length : Int) = (↑l.length : Int) ∧ s = s ∧ b = b ∧ l = l) (
      .leaf (Option.some { l := l, s := s, i := IntKind.i64.wrap (i + (1 : Int)), b := b }))))))) (
 .req (b = Pl.pe1 s (List.drop i.toNat l) b) (
  .leaf (Option.none))) : Tree (Option Pl.APe)) := by kernel_rfl
noncomputable abbrev peP : Nat × (St → Tree Out) := (0, viaV 2 [.obj 5 0 b8] LPe.sp)
structure APf where
  b : List Bool
  i : Int
  o : List Int
def LPf : LoopC APf where
  n0 := 2
  det st := match datA st 27 b8, intS st 28, rowS st 8 i64 with | some b, some i8, some l9 => some ⟨b, i8, l9⟩ | _, _, _ => none
  rows := [(2, .slot 8)]
  inv a := ⟨[(28, iv a.i), (27, Tv.agg [SV.bool (a.b.getD 0 false), SV.bool (a.b.getD 1 false), SV.bool (a.b.getD 2 false), SV.bool (a.b.getD 3 false), SV.bool (a.b.getD 4 false), SV.bool (a.b.getD 5 false), SV.bool (a.b.getD 6 false), SV.bool (a.b.getD 7 false)]), (8, .one (.row 2))],
    [(2, .own i64 a.o)], 3⟩
  ok a := 0 ≤ a.i ∧ a.i ≤ 8 ∧ (a.o.length : Int) ≤ a.i ∧ a.b.length = 8
  mu a := 8 - a.i.toNat
  fin a := .leaf ⟨4, ⟨[(8, .one (.row 2))],
    [(2, .own i64 (a.o ++ fltB (fun j => a.b.getD j false) (8 - a.i.toNat) a.i.toNat))], 3⟩⟩
theorem rPf (b : List Bool) (i : Int) (o : List Int) : @Eq _
  (LPf.round h2 [] 100 Try.f46 1 ⟨b, i, o⟩)
  (.fork (decide (i < (8 : Int))) (
 .req ((0 : Int) ≤ i ∧ i < (8 : Int)) (
  .fork ((tab 8 b false).getD i.toNat false) (
   .req ((o.length + 1) * 9 ≤ 70368744177664) (
    .req (IntKind.i64.wrap (i + (1 : Int)) = IntKind.i64.wrap (i + (1 : Int)) ∧ b.getD 0 false = (tab 8 b false).getD 0 false ∧ b.getD 1 false = (tab 8 b false).getD 1 false ∧ b.getD 2 false = (tab 8 b false).getD 2 false ∧ b.getD 3 false = (tab 8 b false).getD 3 false ∧ b.getD 4 false = (tab 8 b false).getD 4 false ∧ b.getD 5 false = (tab 8 b false).getD 5 false ∧ b.getD 6 false = (tab 8 b false).getD 6 false ∧ b.getD 7 false = (tab 8 b false).getD 7 false ∧ o ++ [i] = o ++ [i]) (
     .leaf (Option.some { b := tab 8 b false, i := IntKind.i64.wrap (i + (1 : Int)), o := o ++ [i] })))) (
   .req (IntKind.i64.wrap (i + (1 : Int)) = IntKind.i64.wrap (i + (1 : Int)) ∧ b.getD 0 false = (tab 8 b false).getD 0 false ∧ b.getD 1 false = (tab 8 b false).getD 1 false ∧ b.getD 2 false = (tab 8 b false).getD 2 false ∧ b.getD 3 false = (tab 8 b false).getD 3 false ∧ b.getD 4 false = (tab 8 b false).getD 4 false ∧ b.getD 5 false = (tab 8 b false).getD 5 false ∧ b.getD 6 false = (tab 8 b false).getD 6 false ∧ b.getD 7 false = (tab 8 b false).getD 7 false ∧ o = o) (
    .leaf (Option.some { b := tab 8 b false, i := IntKind.i64.wrap (i + (1 : Int)), o := o }))))) (
 .req (o = o ++ fltB (fun j => b.getD j false) (8 - i.toNat) i.toNat) (
  .leaf (Option.none))) : Tree (Option Pl.APf)) := by kernel_rfl
theorem tPe (l : List Int) (s : Int) : @Eq _
  (fnO h2 [peP, (1, LPf.sp)] 100 Try.f46 [ints, i64] [ints] (l, s, ()))
  (.req ((0 : Int) ≤ (0 : Int) ∧ (0 : Int) ≤ (↑l.length : Int) ∧ (↑l.length : Int) < (4611686018427387904 : Int) ∧ 8 = 8) (
 .req ((0 : Int) = (0 : Int) ∧ (↑l.length : Int) = (↑l.length : Int) ∧ s = s ∧ List.replicate 8 false = List.replicate 8 false ∧ l = l) (
  .req (True) (
   .req ((0 : Int) ≤ (0 : Int) ∧ (0 : Int) ≤ (8 : Int) ∧ (0 : Int) ≤ (0 : Int) ∧ 8 = 8) (
    .req ((0 : Int) = (0 : Int) ∧ (Pl.pe1 s l (List.replicate 8 false)).getD 0 false = (tab 8 (Pl.pe1 s l (List.replicate 8 false)) false).getD 0 false ∧ (Pl.pe1 s l (List.replicate 8 false)).getD 1 false = (tab 8 (Pl.pe1 s l (List.replicate 8 false)) false).getD 1 false ∧ (Pl.pe1 s l (List.replicate 8 false)).getD 2 false = (tab 8 (Pl.pe1 s l (List.replicate 8 false)) false).getD 2 false ∧ (Pl.pe1 s l (List.replicate 8 false)).getD 3 false = (tab 8 (Pl.pe1 s l (List.replicate 8 false)) false).getD 3 false ∧ (Pl.pe1 s l (List.replicate 8 false)).getD 4 false = (tab 8 (Pl.pe1 s l (List.replicate 8 false)) false).getD 4 false ∧ (Pl.pe1 s l (List.replicate 8 false)).getD 5 false = (tab 8 (Pl.pe1 s l (List.replicate 8 false)) false).getD 5 false ∧ (Pl.pe1 s l (List.replicate 8 false)).getD 6 false = (tab 8 (Pl.pe1 s l (List.replicate 8 false)) false).getD 6 false ∧ (Pl.pe1 s l (List.replicate 8 false)).getD 7 false = (tab 8 (Pl.pe1 s l (List.replicate 8 false)) false).getD 7 false ∧ ([] : List Int) = ([] : List Int)) (
     .leaf ((([] : List Int) ++ fltB (fun j => (tab 8 (Pl.pe1 s l (List.replicate 8 false)) false).getD j false) 8 0, ()))))))) : Tree (List Int × PUnit)) := by kernel_rfl
end Pl
namespace Pl
open Go Sx Go.Proofs Go.RowKit
theorem shK_in {n x : Int} (h0 : 0 ≤ n) (h1 : n < 64) : 0 ≤ shK n x ∧ shK n x ≤ n := by
  have hx := u64_range (IntKind.u64.wrap (x * 6364136223846793005) + 1442695040888963407)
  have e1 : IntKind.u64.wrap (IntKind.i64.wrap (n + 1)) = n + 1 := by rw [IntWalk.i64_in _ (by omega), IntWalk.u64_in _ (by omega)]
  unfold shK
  rw [e1]
  have h2 : 0 ≤ (shX x).fdiv 8589934592 := Int.fdiv_nonneg hx.1 (by omega)
  have h3 : 0 ≤ ((shX x).fdiv 8589934592).tmod (n + 1) := Int.tmod_nonneg _ h2
  have h4 : ((shX x).fdiv 8589934592).tmod (n + 1) < n + 1 := Int.tmod_lt_of_pos _ (by omega)
  rw [IntWalk.i64_in _ (by omega)]
  omega
theorem shL_len : ∀ (n : Nat) (l : List Int) (x : Int), (shL n l x).length = l.length
  | 0, _, _ => rfl
  | n + 1, l, x => by rw [shL, shL_len]; simp
theorem sh_step {l : List Int} {n x : Int} (h0 : n > 0) : shL n.toNat l x = shL (n - 1).toNat ((l.set n.toNat (l.getD (shK n x).toNat 0)).set (shK n x).toNat (l.getD n.toNat 0)) (shX x) := by
  obtain ⟨m, rfl⟩ : ∃ m : Nat, n = ((m + 1 : Nat) : Int) := ⟨n.toNat - 1, by omega⟩
  rw [show (((m + 1 : Nat) : Int) - 1).toNat = m by omega, show (((m + 1 : Nat) : Int)).toNat = m + 1 by omega]
  rfl
theorem sh_body {l : List Int} {n x : Int} (h1 : -1 ≤ n) (h2 : n < 64) (h3 : n < l.length ∨ n = -1) (h4 : l.length ≤ 64) (c : n > 0) :
    LSh.Next ⟨l, n, x⟩ (some ⟨(l.set n.toNat (l.getD (shK n x).toNat 0)).set (shK n x).toNat (l.getD n.toNat 0), IntKind.i64.wrap (n - 1), shX x⟩) := by
  rw [IntWalk.i64_in _ (by omega)]
  refine ⟨⟨by dsimp only; omega, by dsimp only; omega, .inl (by simp only [List.length_set]; omega), by simp only [List.length_set]; exact h4⟩, by simp only [LSh]; omega, ?_⟩
  simp only [LSh]
  rw [sh_step c]
theorem lSh : LpsOK Try.prog Try.f48 [(0, LSh.sp)] := by
  refine .cons (LSh.sound h2_ok (lps := []) (n := 100) (inner rfl) (fun _ => rfl) ?_) .nil
  rintro ⟨l, n, x⟩ ⟨h1, h2, h3, h4⟩
  simp only at h1 h2 h3 h4
  rw [rSh]
  refine ⟨fun c => ?_, fun c => ?_⟩
  · have c : n > 0 := of_decide_eq_true c
    have hk := shK_in (n := n) (x := x) (by omega) h2
    have hn : 0 ≤ n ∧ n < (l.length : Int) := by omega
    have hkk : 0 ≤ shK n x ∧ shK n x < (l.length : Int) := by omega
    have hz : IntKind.u64.wrap (IntKind.i64.wrap (n + 1)) ≠ 0 := by rw [IntWalk.i64_in _ (by omega), IntWalk.u64_in _ (by omega)]; omega
    exact ⟨by omega, hz, hkk, hkk, hn, hn, hn, hn, hkk, ⟨hkk.1, by rw [List.length_set]; exact hkk.2⟩, by repeat' (first | exact trivial | rfl | apply And.intro), sh_body h1 h2 h3 h4 c⟩
  · have c : ¬ n > 0 := fun e => by simp [e] at c
    have : n.toNat = 0 := by omega
    rw [this]
    exact ⟨rfl, trivial⟩
theorem lSp : LpsOK Try.prog Try.f45 [(0, LSh.sp)] := by
  refine .cons (LSh.sound h2_ok (lps := []) (n := 100) (inner rfl) (fun _ => rfl) ?_) .nil
  rintro ⟨l, n, x⟩ ⟨h1, h2, h3, h4⟩
  simp only at h1 h2 h3 h4
  rw [rSp, Int.mul_comm 6364136223846793005 x]
  refine ⟨fun c => ?_, fun c => ?_⟩
  · have c : n > 0 := of_decide_eq_true c
    have hk := shK_in (n := n) (x := x) (by omega) h2
    have hn : 0 ≤ n ∧ n < (l.length : Int) := by omega
    have hkk : 0 ≤ shK n x ∧ shK n x < (l.length : Int) := by omega
    have hz : IntKind.u64.wrap (IntKind.i64.wrap (n + 1)) ≠ 0 := by rw [IntWalk.i64_in _ (by omega), IntWalk.u64_in _ (by omega)]; omega
    exact ⟨by omega, hz, hkk, hkk, hn, hn, hn, hn, hkk, ⟨hkk.1, by rw [List.length_set]; exact hkk.2⟩, by repeat' (first | exact trivial | rfl | apply And.intro), sh_body h1 h2 h3 h4 c⟩
  · have c : ¬ n > 0 := fun e => by simp [e] at c
    have : n.toNat = 0 := by omega
    rw [this]
    exact ⟨rfl, trivial⟩
theorem take64 (l : List Int) : List.take ((if (64 : Int) < (l.length : Int) then (64 : Int) else (l.length : Int)).toNat - 0) l = l.take 64 := by
  split
  · rfl
  · rw [List.take_of_length_le (by omega), List.take_of_length_le (by omega)]
theorem shF_len {l : List Int} {d : Int} : (shF l d).length = (l.take 64).length := shL_len _ _ _
theorem rshuf_ok : PureOwnOK Try.prog 48 [ints, .int .u64] [ints] (fun _ => True) (fun x => (shF x.1 x.2.1, ())) :=
  fn_own (E := h2) (n := 100) h2_ok Try.func48 (by kernel_rfl) lSh fun x _ => by
    obtain ⟨l, d, _⟩ : List Int × Int × Unit := x
    refine Tree.all_eq (tSh l d) ?_
    rw [take64]
    have hl : (l.take 64).length ≤ 64 := by simp; omega
    simp only [List.nil_append]
    rw [IntWalk.i64_in _ (by omega)]
    refine ⟨⟨by omega, by split <;> omega, by split <;> omega⟩, by omega, ⟨by omega, by omega, by omega, hl⟩, by repeat' (first | exact trivial | rfl | apply And.intro), ?_⟩
    show (_, ()) = _
    unfold shF
    rw [show (((l.take 64).length : Int) - 1).toNat = (l.take 64).length - 1 by omega]
theorem pshuf_ok : PureOwnOK Try.prog 45 [ints, .int .u64] [ints] (fun _ => True) (fun x => (shF x.1 x.2.1, ())) :=
  fn_own (E := h2) (n := 100) h2_ok Try.func45 (by kernel_rfl) lSp fun x _ => by
    obtain ⟨l, d, _⟩ : List Int × Int × Unit := x
    refine Tree.all_eq (tSp l d) ?_
    rw [take64]
    have hl : (l.take 64).length ≤ 64 := by simp; omega
    rw [IntWalk.i64_in _ (by omega)]
    refine ⟨⟨by omega, by split <;> omega, by split <;> omega⟩, by omega, ⟨by omega, by omega, by omega, hl⟩, by repeat' (first | exact trivial | rfl | apply And.intro), ?_⟩
    show (_, ()) = _
    unfold shF
    rw [show (((l.take 64).length : Int) - 1).toNat = (l.take 64).length - 1 by omega]
def brF (s : Int) (l : List Int) : List Int := fltB (fun j => !((j : Int) == s) && l.contains (j : Int)) 8 0
theorem lBr : LpsOK Try.prog Try.f41 [(0, LBr.sp)] := by
  refine .cons (LBr.sound h1_ok (lps := []) (n := 100) (inner rfl) (fun _ => rfl) ?_) .nil
  rintro ⟨s, r, l, i, o⟩ ⟨h1, h2, h3, h4⟩
  simp only at h1 h2 h3 h4
  rw [rBr]
  have next : ∀ o', (o' ++ fltB (fun j => !((j : Int) == s) && l.contains (j : Int)) (8 - (i + 1).toNat) (i + 1).toNat = o ++ fltB (fun j => !((j : Int) == s) && l.contains (j : Int)) (8 - i.toNat) i.toNat) → (o'.length : Int) ≤ i + 1 → i < 8 → LBr.Next ⟨s, r, l, i, o⟩ (some ⟨s, r, l, IntKind.i64.wrap (i + 1), o'⟩) := by
    intro o' e k c
    rw [i64_inc (by omega) (by omega)]
    refine ⟨⟨by dsimp only; omega, by dsimp only; omega, k, h4⟩, by simp only [LBr]; omega, ?_⟩
    simp only [LBr]
    rw [e]
  refine ⟨fun c => ⟨fun _ => h4, fun d => ⟨by omega, by repeat' (first | exact trivial | rfl | apply And.intro), ?_⟩, fun d => ⟨by repeat' (first | exact trivial | rfl | apply And.intro), ?_⟩⟩, fun c => ?_⟩
  · have c : i < 8 := of_decide_eq_true c
    have d' : (!(((i.toNat : Nat) : Int) == s) && l.contains ((i.toNat : Nat) : Int)) = true := by rw [show ((i.toNat : Nat) : Int) = i by omega]; exact d
    refine next _ ?_ (by simp; omega) c
    rw [fltB_step (N := 8) _ h1 c, d']
    simp
  · have c : i < 8 := of_decide_eq_true c
    have d' : (!(((i.toNat : Nat) : Int) == s) && l.contains ((i.toNat : Nat) : Int)) = false := by rw [show ((i.toNat : Nat) : Int) = i by omega]; exact d
    refine next _ ?_ (by omega) c
    rw [fltB_step (N := 8) _ h1 c, d']
    simp
  · have c : ¬ i < (8 : Nat) := fun e => by simp at c; omega
    rw [fltB_end _ c]
    exact ⟨(List.append_nil _).symm, trivial⟩
theorem brought_ok : PureOwnOK Try.prog 41 [.ptr OrdT, ints] [ints] (fun x => (List.length (α := Int) x.2.1 : Int) < big) (fun x => (brF x.1.1 x.2.1, ())) :=
  fn_own (E := h1) (n := 100) h1_ok Try.func41 (by kernel_rfl) lBr fun x hx => by
    obtain ⟨⟨s, r⟩, l, _⟩ : (Int × List Int) × List Int × Unit := x
    refine Tree.all_eq (tBr s r l) ?_
    exact ⟨⟨by omega, by omega, by omega, hx⟩, by repeat' (first | exact trivial | rfl | apply And.intro), rfl⟩
end Pl
namespace Pl
open Go Sx Go.Proofs Go.RowKit
theorem lHx : LpsOK Try.prog Try.f47 [(0, LHx.sp)] := by
  refine .cons (LHx.sound h1_ok (lps := []) (n := 100) (inner rfl) (fun _ => rfl) ?_) .nil
  rintro ⟨l, v, i⟩ ⟨h1, h2, h3⟩
  simp only at h1 h2 h3
  rw [rHx]
  refine ⟨fun c => ?_, fun c => ⟨fun e => ?_, fun e => ⟨trivial, trivial⟩⟩⟩
  · have c : i < l.length := of_decide_eq_true c
    refine ⟨⟨h1, c⟩, ⟨h1, c⟩, fun d => ⟨fun e => ⟨trivial, trivial⟩, fun e => ?_⟩, fun d => ⟨by repeat' (first | exact trivial | rfl | apply And.intro), ?_⟩⟩
    · rw [drop_cons 0 h1 c] at e
      have d : l.getD i.toNat 0 = v := eq_of_beq d
      rw [d, List.contains_cons, beq_self_eq_true] at e; exact absurd e (by simp)
    · rw [i64_inc (by omega) (by unfold big at h3; omega)]
      refine ⟨⟨by dsimp only; omega, by dsimp only; omega, h3⟩, by simp only [LHx]; omega, ?_⟩
      simp only [LHx]
      have d : ¬ l.getD i.toNat 0 = v := by simpa using d
      rw [drop_cons 0 h1 c, List.contains_cons]
      have : (v == l.getD i.toNat 0) = false := by simpa using fun e => d e.symm
      rw [this]; simp
  · have c : ¬ i < l.length := fun e => by simp [e] at c
    rw [drop_end c] at e; simp at e
theorem rhas_ok : PureOK Try.prog 47 [ints, i64] [.bool] (fun x => (List.length (α := Int) x.1 : Int) < big) (fun x => (List.contains (α := Int) x.1 x.2.1, ())) :=
  fn_pure (E := h1) (n := 100) h1_ok Try.func47 (by kernel_rfl) lHx fun x h => by
    obtain ⟨l, v, _⟩ : List Int × Int × Unit := x
    refine Tree.all_eq (tHx l v) ?_
    refine ⟨⟨by omega, by omega, h⟩, by repeat' (first | exact trivial | rfl | apply And.intro), fun c => ?_, fun c => ?_⟩
    · show (true, ()) = (_, ()); rw [c]
    · show (false, ()) = (_, ()); rw [c]
theorem pe1_len (s : Int) : ∀ (l : List Int) (b : List Bool), (pe1 s l b).length = b.length
  | [], _ => rfl
  | x :: r, b => by rw [pe1, pe1_len]; split <;> simp
theorem pe1_get (s : Int) (j : Nat) (hj : j < 8) : ∀ (l : List Int) (b : List Bool), b.length = 8 → (pe1 s l b).getD j false = (b.getD j false || (!((j : Int) == s) && l.contains (j : Int)))
  | [], b, h => by simp [pe1]
  | x :: r, b, h => by
    rw [pe1, pe1_get s j hj r _ (by split <;> simp [h])]
    rw [List.contains_cons]
    by_cases e : x = (j : Int)
    · subst e
      by_cases d : (j : Int) = s
      · have : ¬ (0 ≤ (j : Int) ∧ (j : Int) < 8 ∧ (j : Int) ≠ s) := fun q => q.2.2 d
        rw [if_neg this]
        simp [d]
      · rw [if_pos ⟨by omega, by omega, d⟩]
        have d' : ((j : Int) == s) = false := by simpa using d
        rw [d']
        simp [List.getD_eq_getElem?_getD, h, hj]
    · have e' : ((j : Int) == x) = false := by simpa using fun q => e q.symm
      rw [e', Bool.false_or]
      have : (if 0 ≤ x ∧ x < 8 ∧ x ≠ s then b.set x.toNat true else b).getD j false = b.getD j false := by
        split
        · simp only [List.getD_eq_getElem?_getD]
          rw [List.getElem?_set_ne (by omega)]
        · rfl
      rw [this]
theorem lPe : LpsOK Try.prog Try.f46 [(0, LPe.sp)] := by
  refine .cons (LPe.sound h2_ok (lps := []) (n := 100) (inner rfl) (fun _ => rfl) ?_) .nil
  rintro ⟨l, s, i, b⟩ ⟨h1, h2, h3, h4⟩
  simp only at h1 h2 h3 h4
  rw [rPe]
  refine ⟨fun c => ?_, fun c => ?_⟩
  · have c : i < l.length := of_decide_eq_true c
    have hg : pe1 s (l.drop i.toNat) b = pe1 s (l.drop (i + 1).toNat) (if 0 ≤ l.getD i.toNat 0 ∧ l.getD i.toNat 0 < 8 ∧ l.getD i.toNat 0 ≠ s then b.set (l.getD i.toNat 0).toNat true else b) := by
      rw [drop_cons 0 h1 c, pe1]
    have next : ∀ b', b' = (if 0 ≤ l.getD i.toNat 0 ∧ l.getD i.toNat 0 < 8 ∧ l.getD i.toNat 0 ≠ s then b.set (l.getD i.toNat 0).toNat true else b) → LPe.Next ⟨l, s, i, b⟩ (some ⟨l, s, IntKind.i64.wrap (i + 1), b'⟩) := by
      rintro _ rfl
      rw [i64_inc (by omega) (by unfold big at h3; omega)]
      refine ⟨⟨by dsimp only; omega, by dsimp only; omega, h3, by dsimp only; split <;> simp [h4]⟩, by simp only [LPe]; omega, ?_⟩
      simp only [LPe]
      rw [hg]
    refine ⟨⟨h1, c⟩, ⟨h1, c⟩, trivial, fun d => ?_, fun d => ?_⟩
    · simp only [Bool.and_eq_true, decide_eq_true_eq, bne_iff_ne, ne_eq] at d
      refine ⟨⟨d.1, d.2.1⟩, ⟨d.1, d.2.1⟩, by repeat' (first | exact trivial | rfl | apply And.intro), next _ ?_⟩
      rw [if_pos ⟨d.1, d.2.1, d.2.2⟩]
    · refine ⟨by repeat' (first | exact trivial | rfl | apply And.intro), next _ ?_⟩
      rw [if_neg]
      rintro ⟨q1, q2, q3⟩
      rw [decide_eq_true q1, decide_eq_true q2, bne_iff_ne.2 q3] at d
      exact absurd d (by decide)
  · have c : ¬ i < l.length := fun e => by simp [e] at c
    rw [drop_end c]
    exact ⟨rfl, trivial⟩
theorem lPf : LpsOK Try.prog Try.f46 [peP, (1, LPf.sp)] := by
  refine .cons ?_ (.cons (LPf.sound h2_ok (lps := []) (n := 100) (inner rfl) (fun _ => rfl) ?_) .nil)
  · exact fun st out h => viaV_ok (fun st out h => lPe 0 LPe.sp rfl st out h) st out h
  rintro ⟨b, i, o⟩ ⟨h1, h2, h3, h4⟩
  simp only at h1 h2 h3 h4
  rw [rPf, tab_eq h4]
  have next : ∀ o', (o' ++ fltB (fun j => b.getD j false) (8 - (i + 1).toNat) (i + 1).toNat = o ++ fltB (fun j => b.getD j false) (8 - i.toNat) i.toNat) → (o'.length : Int) ≤ i + 1 → i < 8 → LPf.Next ⟨b, i, o⟩ (some ⟨b, IntKind.i64.wrap (i + 1), o'⟩) := by
    intro o' e k c
    rw [i64_inc (by omega) (by omega)]
    refine ⟨⟨by dsimp only; omega, by dsimp only; omega, k, h4⟩, by simp only [LPf]; omega, ?_⟩
    simp only [LPf]
    rw [e]
  refine ⟨fun c => ?_, fun c => ?_⟩
  · have c : i < 8 := of_decide_eq_true c
    refine ⟨⟨h1, c⟩, fun d => ⟨by omega, by repeat' (first | exact trivial | rfl | apply And.intro), next _ ?_ (by simp; omega) c⟩, fun d => ⟨by repeat' (first | exact trivial | rfl | apply And.intro), next _ ?_ (by omega) c⟩⟩
    · rw [fltB_step (N := 8) _ h1 c, d]; simp
    · rw [fltB_step (N := 8) _ h1 c, d]; simp
  · have c : ¬ i < (8 : Nat) := fun e => by simp at c; omega
    rw [fltB_end _ c]
    exact ⟨(List.append_nil _).symm, trivial⟩
theorem fltB_cong (f g : Nat → Bool) : ∀ (c j : Nat), (∀ k, j ≤ k → k < j + c → f k = g k) → fltB f c j = fltB g c j
  | 0, _, _ => rfl
  | c + 1, j, h => by
    simp only [fltB]
    rw [h j (by omega) (by omega), fltB_cong f g c (j + 1) (fun k a b => h k (by omega) (by omega))]
theorem rpeers_ok : PureOwnOK Try.prog 46 [ints, i64] [ints] (fun x => (List.length (α := Int) x.1 : Int) < big) (fun x => (brF x.2.1 x.1, ())) :=
  fn_own (E := h2) (n := 100) h2_ok Try.func46 (by kernel_rfl) lPf fun x h => by
    obtain ⟨l, s, _⟩ : List Int × Int × Unit := x
    refine Tree.all_eq (tPe l s) ?_
    have hl : (pe1 s l (List.replicate 8 false)).length = 8 := by rw [pe1_len]; rfl
    rw [tab_eq hl]
    refine ⟨⟨by omega, by omega, h, by simp⟩, by repeat' (first | exact trivial | rfl | apply And.intro), trivial, ⟨by omega, by omega, by simp, by simp⟩, by repeat' (first | exact trivial | rfl | apply And.intro), ?_⟩
    show (_, ()) = (_, ())
    congr 1
    rw [List.nil_append]
    refine fltB_cong _ _ _ _ fun j h0 hj => ?_
    rw [pe1_get s j (by omega) l _ rfl]
    have : (List.replicate 8 false).getD j false = false := by
      simp only [List.getD_eq_getElem?_getD, List.getElem?_replicate]; split <;> rfl
    rw [this, Bool.false_or]
end Pl
namespace Pl
open Go Sx Go.Proofs Go.RowKit
noncomputable abbrev h3 : Ex := mkExM Try.prog [(43, fnI h1 [] 100 Try.f43)]
theorem h3_ok : h3.Sound := mkExM_sound ⟨fnI_ok (E := h1) h1_ok Try.func43 (by kernel_rfl) .nil, trivial⟩
abbrev CloN : Ty := .clo 43 ints
def idxD (r : List Int) : List Int → Int → Int
  | [], _ => -1
  | x :: l, i => if r.contains x then idxD r l (i + 1) else i
structure AIn where
  l : List Int
  r : List Int
  i : Int
def LIn : LoopC AIn where
  n0 := 3
  det st := match rowS st 6 i64, rowC st 1 0 i64, intS st 8 with | some l, some r, some i0 => some ⟨l, r, i0⟩ | _, _, _ => none
  inv a := ⟨[(8, iv a.i), (7, iv (↑a.l.length : Int)), (6, .one (.row 0)), (0, .one (.row 0)), (1, .one (.fn 43 [] [(1, 0)]))],
    [(2, .ro i64 a.r), (1, .rob [.row 2]), (0, .ro i64 a.l)], 3⟩
  ok a := 0 ≤ a.i ∧ a.i ≤ a.l.length ∧ (a.l.length : Int) < big ∧ (a.r.length : Int) < big
  mu a := a.l.length - a.i.toNat
  fin a := .fork (decide (idxD a.r (a.l.drop a.i.toNat) a.i = -1)) (.leaf ⟨2, ⟨[], [], 3⟩⟩) (.leaf ⟨1, ⟨[(4, iv (idxD a.r (a.l.drop a.i.toNat) a.i))], [], 3⟩⟩)
theorem rIn (l r : List Int) (i : Int) : @Eq _
  (LIn.round h3 [] 100 Try.f61 0 ⟨l, r, i⟩)
  (.fork (decide (i < (↑l.length : Int))) (
 .req ((0 : Int) ≤ i ∧ i < (↑l.length : Int)) (
  .req ((0 : Int) ≤ i ∧ i < (↑l.length : Int)) (
   .req ((↑r.length : Int) < (4611686018427387904 : Int)) (
    .fork (!r.contains (l.getD i.toNat (0 : Int))) (
     .fork (decide (Pl.idxD r (List.drop i.toNat l) i = (-1 : Int))) (
      .req (False) (
       .leaf (Option.none))) (
      .req (i = Pl.idxD r (List.drop i.toNat l) i) (
       .leaf (Option.none)))) (
     .req (IntKind.i64.wrap (i + (1 : Int)) = IntKind.i64.wrap (i + (1 : Int)) ∧ (↑l.length : Int) = (↑l.length : Int) ∧ r = r ∧ l = l) (
      .leaf (Option.some { l := l, r := r, i := IntKind.i64.wrap (i + (1 : Int)) }))))))) (
 .fork (decide (Pl.idxD r (List.drop i.toNat l) i = (-1 : Int))) (
  .req (True) (
   .leaf (Option.none))) (
  .req (False) (
   .leaf (Option.none)))) : Tree (Option Pl.AIn)) := by kernel_rfl
theorem tIn (l r : List Int) : @Eq _
  (fnT h3 [(0, LIn.sp)] 100 Try.f61 [ints, CloN] [i64] (l, r, ()))
  (.req ((0 : Int) ≤ (0 : Int) ∧ (0 : Int) ≤ (↑l.length : Int) ∧ (↑l.length : Int) < (4611686018427387904 : Int) ∧ (↑r.length : Int) < (4611686018427387904 : Int)) (
 .req ((0 : Int) = (0 : Int) ∧ (↑l.length : Int) = (↑l.length : Int) ∧ r = r ∧ l = l) (
  .fork (decide (Pl.idxD r l (0 : Int) = (-1 : Int))) (
   .leaf (((-1 : Int), ()))) (
   .leaf ((Pl.idxD r l (0 : Int), ()))))) : Tree (Int × PUnit)) := by kernel_rfl
theorem idxD_spec (r : List Int) : ∀ (l : List Int) (i : Int), 0 ≤ i → (idxD r l i = -1 ∧ ∀ x ∈ l, r.contains x = true) ∨ (∃ k : Nat, idxD r l i = i + k ∧ k < l.length ∧ (∀ x ∈ l.take k, r.contains x = true) ∧ r.contains (l.getD k 0) = false)
  | [], i, _ => .inl ⟨rfl, by simp⟩
  | x :: l, i, h => by
    rw [idxD]
    cases c : r.contains x with
    | false =>
      rw [if_neg (by decide)]
      exact .inr ⟨0, by simp, by simp, by simp, by simpa using c⟩
    | true =>
      rw [if_pos rfl]
      rcases idxD_spec r l (i + 1) (by omega) with ⟨e, q⟩ | ⟨k, e, k1, k2, k3⟩
      · refine .inl ⟨e, ?_⟩
        intro y hy
        rcases List.mem_cons.1 hy with rfl | hy
        · exact c
        · exact q y hy
      · refine .inr ⟨k + 1, by rw [e]; push_cast; omega, by simp; omega, ?_, ?_⟩
        · intro y hy
          rw [List.take_succ_cons] at hy
          rcases List.mem_cons.1 hy with rfl | hy
          · exact c
          · exact k2 y hy
        · simpa using k3
theorem idxD_ge (r l : List Int) (i : Int) (h : 0 ≤ i) (hn : ¬ idxD r l i = -1) : i ≤ idxD r l i := by
  rcases idxD_spec r l i h with ⟨e, _⟩ | ⟨k, e, _⟩
  · exact absurd e hn
  · omega
theorem lIn : LpsOK Try.prog Try.f61 [(0, LIn.sp)] := by
  refine .cons (LIn.sound h3_ok (lps := []) (n := 100) (inner rfl) (fun _ => rfl) ?_) .nil
  rintro ⟨l, r, i⟩ ⟨h1, h2, h3, h4⟩
  simp only at h1 h2 h3 h4
  rw [rIn]
  refine ⟨fun c => ?_, fun c => ⟨fun e => ⟨trivial, trivial⟩, fun e => ?_⟩⟩
  · have c : i < l.length := of_decide_eq_true c
    have hd := drop_cons 0 h1 c
    refine ⟨⟨h1, c⟩, ⟨h1, c⟩, h4, fun d => ⟨fun e => ?_, fun e => ⟨?_, trivial⟩⟩, fun d => ⟨by repeat' (first | exact trivial | rfl | apply And.intro), ?_⟩⟩
    · have d : r.contains (l.getD i.toNat 0) = false := by simpa using d
      have e := of_decide_eq_true e
      rw [hd, idxD, d, if_neg (by decide)] at e
      omega
    · have d : r.contains (l.getD i.toNat 0) = false := by simpa using d
      rw [hd, idxD, d, if_neg (by decide)]
    · rw [i64_inc (by omega) (by unfold big at h3; omega)]
      refine ⟨⟨by dsimp only; omega, by dsimp only; omega, h3, h4⟩, by simp only [LIn]; omega, ?_⟩
      simp only [LIn]
      have d : r.contains (l.getD i.toNat 0) = true := by simpa using d
      rw [hd, idxD, d, if_pos rfl]
  · have c : ¬ i < l.length := fun e => by simp [e] at c
    rw [drop_end c] at e; simp [idxD] at e
theorem indexN_ok : PureOK Try.prog 61 [ints, CloN] [i64] (fun x => (List.length (α := Int) x.1 : Int) < big ∧ (List.length (α := Int) x.2.1 : Int) < big) (fun x => (idxD x.2.1 x.1 0, ())) :=
  fn_pure (E := h3) (n := 100) h3_ok Try.func61 (by kernel_rfl) lIn fun x h => by
    obtain ⟨l, r, _⟩ : List Int × List Int × Unit := x
    refine Tree.all_eq (tIn l r) ?_
    refine ⟨⟨by omega, by omega, h.1, h.2⟩, by repeat' (first | exact trivial | rfl | apply And.intro), fun c => ?_, fun c => rfl⟩
    have c := of_decide_eq_true c
    show (-1, ()) = (_, ()); rw [c]
end Pl
namespace Pl
open Go Sx Go.Proofs Go.RowKit
noncomputable abbrev h4 : Ex := mkExW Try.prog [(43, fnI h1 [] 100 Try.f43), (61, pureSp [ints, CloN] [i64] (fun x => (List.length (α := Int) x.1 : Int) < big ∧ (List.length (α := Int) x.2.1 : Int) < big) (fun x => (idxD x.2.1 x.1 0, ())))]
theorem h4_ok : h4.Sound := mkExW_sound ⟨fnI_ok (E := h1) h1_ok Try.func43 (by kernel_rfl) .nil, pureSp_ok indexN_ok, trivial⟩
def delL (r : List Int) : Nat → List Int → Int → Int → List Int × Int
  | 0, xs, i, _ => (xs, i)
  | n + 1, xs, i, j => if r.contains (xs.getD j.toNat 0) then delL r n (xs.set i.toNat (xs.getD j.toNat 0)) (i + 1) (j + 1) else delL r n xs i (j + 1)
structure ADf where
  l : List Int
  r : List Int
  i : Int
  j : Int
def LDf : LoopC ADf where
  n0 := 4
  det st := match rowS st 0 i64, rowC st 2 0 i64, intS st 5, intS st 6 with | some l, some r, some i0, some j0 => some ⟨l, r, i0, j0⟩ | _, _, _, _ => none
  inv a := ⟨[(6, iv a.j), (5, iv a.i), (0, .one (.row 1)), (1, .one (.fn 43 [] [(2, 0)]))],
    [(3, .ro i64 a.r), (2, .rob [.row 3]), (1, .own i64 a.l)], 4⟩
  ok a := 0 ≤ a.i ∧ a.i < a.j ∧ a.j ≤ a.l.length ∧ (a.l.length : Int) < big ∧ (a.r.length : Int) < big
  mu a := a.l.length - a.j.toNat
  fin a := .leaf ⟨2, ⟨[(5, iv (delL a.r (a.l.length - a.j.toNat) a.l a.i a.j).2), (0, .one (.row 1))], [(1, .own i64 (delL a.r (a.l.length - a.j.toNat) a.l a.i a.j).1)], 4⟩⟩
theorem rDf (l r : List Int) (i j : Int) : @Eq _
  (LDf.round h4 [] 100 Try.f42 0 ⟨l, r, i, j⟩)
  (.fork (decide (j < (↑l.length : Int))) (
 .req ((0 : Int) ≤ j ∧ j < (↑l.length : Int)) (
  .req ((0 : Int) ≤ j ∧ j < (↑l.length : Int)) (
   .req ((↑r.length : Int) < (4611686018427387904 : Int)) (
    .fork (!!r.contains (l.getD j.toNat (0 : Int))) (
     .req ((0 : Int) ≤ i ∧ i < (↑l.length : Int)) (
      .req ((0 : Int) ≤ i ∧ i < (↑l.length : Int)) (
       .req (IntKind.i64.wrap (j + (1 : Int)) = IntKind.i64.wrap (j + (1 : Int)) ∧ IntKind.i64.wrap (i + (1 : Int)) = IntKind.i64.wrap (i + (1 : Int)) ∧ r = r ∧ l.set i.toNat (l.getD j.toNat (0 : Int)) = l.set i.toNat (l.getD j.toNat (0 : Int))) (
        .leaf (Option.some { l := l.set i.toNat (l.getD j.toNat (0 : Int)), r := r, i := IntKind.i64.wrap (i + (1 : Int)), j := IntKind.i64.wrap (j + (1 : Int)) }))))) (
     .req (IntKind.i64.wrap (j + (1 : Int)) = IntKind.i64.wrap (j + (1 : Int)) ∧ i = i ∧ r = r ∧ l = l) (
      .leaf (Option.some { l := l, r := r, i := i, j := IntKind.i64.wrap (j + (1 : Int)) }))))))) (
 .req (i = (Pl.delL r (l.length - j.toNat) l i j).2 ∧ l = (Pl.delL r (l.length - j.toNat) l i j).1) (
  .leaf (Option.none))) : Tree (Option Pl.ADf)) := by kernel_rfl
theorem tDf (l r : List Int) : @Eq _
  (fnM false h4 [(0, LDf.sp)] 100 Try.f42 (.row i64) [CloN] [] l (r, ()))
  (.req ((↑l.length : Int) < (4611686018427387904 : Int) ∧ (↑r.length : Int) < (4611686018427387904 : Int)) (
 .fork (Pl.idxD r l (0 : Int) == (-1 : Int)) (
  .leaf ((l, ()))) (
  .req ((0 : Int) ≤ Pl.idxD r l (0 : Int) ∧ Pl.idxD r l (0 : Int) < IntKind.i64.wrap (Pl.idxD r l (0 : Int) + (1 : Int)) ∧ IntKind.i64.wrap (Pl.idxD r l (0 : Int) + (1 : Int)) ≤ (↑l.length : Int) ∧ (↑l.length : Int) < (4611686018427387904 : Int) ∧ (↑r.length : Int) < (4611686018427387904 : Int)) (
   .req (IntKind.i64.wrap (Pl.idxD r l (0 : Int) + (1 : Int)) = IntKind.i64.wrap (Pl.idxD r l (0 : Int) + (1 : Int)) ∧ Pl.idxD r l (0 : Int) = Pl.idxD r l (0 : Int) ∧ r = r ∧ l = l) (
    .req ((0 : Int) ≤ (Pl.delL r (l.length - (IntKind.i64.wrap (Pl.idxD r l (0 : Int) + (1 : Int))).toNat) l (Pl.idxD r l (0 : Int)) (IntKind.i64.wrap (Pl.idxD r l (0 : Int) + (1 : Int)))).2 ∧ (Pl.delL r (l.length - (IntKind.i64.wrap (Pl.idxD r l (0 : Int) + (1 : Int))).toNat) l (Pl.idxD r l (0 : Int)) (IntKind.i64.wrap (Pl.idxD r l (0 : Int) + (1 : Int)))).2 ≤ (↑(Pl.delL r (l.length - (IntKind.i64.wrap (Pl.idxD r l (0 : Int) + (1 : Int))).toNat) l (Pl.idxD r l (0 : Int)) (IntKind.i64.wrap (Pl.idxD r l (0 : Int) + (1 : Int)))).1.length : Int) ∧ (↑(Pl.delL r (l.length - (IntKind.i64.wrap (Pl.idxD r l (0 : Int) + (1 : Int))).toNat) l (Pl.idxD r l (0 : Int)) (IntKind.i64.wrap (Pl.idxD r l (0 : Int) + (1 : Int)))).1.length : Int) ≤ (↑(Pl.delL r (l.length - (IntKind.i64.wrap (Pl.idxD r l (0 : Int) + (1 : Int))).toNat) l (Pl.idxD r l (0 : Int)) (IntKind.i64.wrap (Pl.idxD r l (0 : Int) + (1 : Int)))).1.length : Int)) (
     .req ((Pl.delL r (l.length - (IntKind.i64.wrap (Pl.idxD r l (0 : Int) + (1 : Int))).toNat) l (Pl.idxD r l (0 : Int)) (IntKind.i64.wrap (Pl.idxD r l (0 : Int) + (1 : Int)))).2.toNat + ((↑(Pl.delL r (l.length - (IntKind.i64.wrap (Pl.idxD r l (0 : Int) + (1 : Int))).toNat) l (Pl.idxD r l (0 : Int)) (IntKind.i64.wrap (Pl.idxD r l (0 : Int) + (1 : Int)))).1.length : Int).toNat - (Pl.delL r (l.length - (IntKind.i64.wrap (Pl.idxD r l (0 : Int) + (1 : Int))).toNat) l (Pl.idxD r l (0 : Int)) (IntKind.i64.wrap (Pl.idxD r l (0 : Int) + (1 : Int)))).2.toNat) ≤ (Pl.delL r (l.length - (IntKind.i64.wrap (Pl.idxD r l (0 : Int) + (1 : Int))).toNat) l (Pl.idxD r l (0 : Int)) (IntKind.i64.wrap (Pl.idxD r l (0 : Int) + (1 : Int)))).1.length) (
      .req ((0 : Int) ≤ (0 : Int) ∧ (0 : Int) ≤ (Pl.delL r (l.length - (IntKind.i64.wrap (Pl.idxD r l (0 : Int) + (1 : Int))).toNat) l (Pl.idxD r l (0 : Int)) (IntKind.i64.wrap (Pl.idxD r l (0 : Int) + (1 : Int)))).2 ∧ (Pl.delL r (l.length - (IntKind.i64.wrap (Pl.idxD r l (0 : Int) + (1 : Int))).toNat) l (Pl.idxD r l (0 : Int)) (IntKind.i64.wrap (Pl.idxD r l (0 : Int) + (1 : Int)))).2 ≤ (↑(List.take (Pl.delL r (l.length - (IntKind.i64.wrap (Pl.idxD r l (0 : Int) + (1 : Int))).toNat) l (Pl.idxD r l (0 : Int)) (IntKind.i64.wrap (Pl.idxD r l (0 : Int) + (1 : Int)))).2.toNat (Pl.delL r (l.length - (IntKind.i64.wrap (Pl.idxD r l (0 : Int) + (1 : Int))).toNat) l (Pl.idxD r l (0 : Int)) (IntKind.i64.wrap (Pl.idxD r l (0 : Int) + (1 : Int)))).1 ++ List.replicate ((↑(Pl.delL r (l.length - (IntKind.i64.wrap (Pl.idxD r l (0 : Int) + (1 : Int))).toNat) l (Pl.idxD r l (0 : Int)) (IntKind.i64.wrap (Pl.idxD r l (0 : Int) + (1 : Int)))).1.length : Int).toNat - (Pl.delL r (l.length - (IntKind.i64.wrap (Pl.idxD r l (0 : Int) + (1 : Int))).toNat) l (Pl.idxD r l (0 : Int)) (IntKind.i64.wrap (Pl.idxD r l (0 : Int) + (1 : Int)))).2.toNat) (0 : Int) ++ List.drop ((Pl.delL r (l.length - (IntKind.i64.wrap (Pl.idxD r l (0 : Int) + (1 : Int))).toNat) l (Pl.idxD r l (0 : Int)) (IntKind.i64.wrap (Pl.idxD r l (0 : Int) + (1 : Int)))).2.toNat + ((↑(Pl.delL r (l.length - (IntKind.i64.wrap (Pl.idxD r l (0 : Int) + (1 : Int))).toNat) l (Pl.idxD r l (0 : Int)) (IntKind.i64.wrap (Pl.idxD r l (0 : Int) + (1 : Int)))).1.length : Int).toNat - (Pl.delL r (l.length - (IntKind.i64.wrap (Pl.idxD r l (0 : Int) + (1 : Int))).toNat) l (Pl.idxD r l (0 : Int)) (IntKind.i64.wrap (Pl.idxD r l (0 : Int) + (1 : Int)))).2.toNat)) (Pl.delL r (l.length - (IntKind.i64.wrap (Pl.idxD r l (0 : Int) + (1 : Int))).toNat) l (Pl.idxD r l (0 : Int)) (IntKind.i64.wrap (Pl.idxD r l (0 : Int) + (1 : Int)))).1).length : Int)) (
       .leaf ((List.take ((Pl.delL r (l.length - (IntKind.i64.wrap (Pl.idxD r l (0 : Int) + (1 : Int))).toNat) l (Pl.idxD r l (0 : Int)) (IntKind.i64.wrap (Pl.idxD r l (0 : Int) + (1 : Int)))).2.toNat - 0) (List.drop 0 (List.take (Pl.delL r (l.length - (IntKind.i64.wrap (Pl.idxD r l (0 : Int) + (1 : Int))).toNat) l (Pl.idxD r l (0 : Int)) (IntKind.i64.wrap (Pl.idxD r l (0 : Int) + (1 : Int)))).2.toNat (Pl.delL r (l.length - (IntKind.i64.wrap (Pl.idxD r l (0 : Int) + (1 : Int))).toNat) l (Pl.idxD r l (0 : Int)) (IntKind.i64.wrap (Pl.idxD r l (0 : Int) + (1 : Int)))).1 ++ List.replicate ((↑(Pl.delL r (l.length - (IntKind.i64.wrap (Pl.idxD r l (0 : Int) + (1 : Int))).toNat) l (Pl.idxD r l (0 : Int)) (IntKind.i64.wrap (Pl.idxD r l (0 : Int) + (1 : Int)))).1.length : Int).toNat - (Pl.delL r (l.length - (IntKind.i64.wrap (Pl.idxD r l (0 : Int) + (1 : Int))).toNat) l (Pl.idxD r l (0 : Int)) (IntKind.i64.wrap (Pl.idxD r l (0 : Int) + (1 : Int)))).2.toNat) (0 : Int) ++ List.drop ((Pl.delL r (l.length - (IntKind.i64.wrap (Pl.idxD r l (0 : Int) + (1 : Int))).toNat) l (Pl.idxD r l (0 : Int)) (IntKind.i64.wrap (Pl.idxD r l (0 : Int) + (1 : Int)))).2.toNat + ((↑(Pl.delL r (l.length - (IntKind.i64.wrap (Pl.idxD r l (0 : Int) + (1 : Int))).toNat) l (Pl.idxD r l (0 : Int)) (IntKind.i64.wrap (Pl.idxD r l (0 : Int) + (1 : Int)))).1.length : Int).toNat - (Pl.delL r (l.length - (IntKind.i64.wrap (Pl.idxD r l (0 : Int) + (1 : Int))).toNat) l (Pl.idxD r l (0 : Int)) (IntKind.i64.wrap (Pl.idxD r l (0 : Int) + (1 : Int)))).2.toNat)) (Pl.delL r (l.length - (IntKind.i64.wrap (Pl.idxD r l (0 : Int) + (1 : Int))).toNat) l (Pl.idxD r l (0 : Int)) (IntKind.i64.wrap (Pl.idxD r l (0 : Int) + (1 : Int)))).1)), ()))))))))) : Tree (List Int × PUnit)) := by kernel_rfl
theorem delL_spec (r : List Int) : ∀ (n : Nat) (xs : List Int) (i j : Nat), i ≤ j → j + n = xs.length →
    (delL r n xs i j).1.length = xs.length ∧ (i : Int) ≤ (delL r n xs i j).2 ∧ (delL r n xs i j).2 ≤ (j + n : Nat) ∧
    (delL r n xs i j).1.take (delL r n xs i j).2.toNat = xs.take i ++ (xs.drop j).filter (fun x => r.contains x)
  | 0, xs, i, j, h, hl => by
    refine ⟨rfl, by simp [delL], by simp only [delL]; omega, ?_⟩
    rw [List.drop_of_length_le (by omega)]
    simp [delL]
  | n + 1, xs, i, j, h, hl => by
    have hd : xs.drop j = xs.getD j 0 :: xs.drop (j + 1) := by
      rw [List.drop_eq_getElem_cons (by omega)]
      congr 1
      simp [List.getD_eq_getElem?_getD, show j < xs.length by omega]
    rw [delL, show ((j : Int)).toNat = j by omega, show ((i : Int)).toNat = i by omega]
    cases c : r.contains (xs.getD j 0) with
    | true =>
      rw [if_pos rfl]
      have ih := delL_spec r n (xs.set i (xs.getD j 0)) (i + 1) (j + 1) (by omega) (by simp; omega)
      push_cast at ih
      refine ⟨by rw [ih.1]; simp, by omega, by have := ih.2.2.1; push_cast; omega, ?_⟩
      rw [ih.2.2.2, hd, List.filter_cons, if_pos c]
      rw [List.drop_set_of_lt (by omega), List.take_add_one, List.take_set_of_le (by omega)]
      simp [show i < xs.length by omega]
    | false =>
      rw [if_neg (by decide)]
      have ih := delL_spec r n xs i (j + 1) (by omega) (by omega)
      push_cast at ih
      refine ⟨ih.1, by omega, by have := ih.2.2.1; push_cast; omega, ?_⟩
      rw [ih.2.2.2, hd, List.filter_cons, if_neg (by rw [c]; decide)]
theorem lDf : LpsOK Try.prog Try.f42 [(0, LDf.sp)] := by
  refine .cons (LDf.sound h4_ok (lps := []) (n := 100) (inner rfl) (fun _ => rfl) ?_) .nil
  rintro ⟨l, r, i, j⟩ ⟨h1, h2, h3, h4, h5⟩
  simp only at h1 h2 h3 h4 h5
  rw [rDf]
  refine ⟨fun c => ?_, fun c => ?_⟩
  · have c : j < l.length := of_decide_eq_true c
    have hj : 0 ≤ j := by omega
    have hn : l.length - j.toNat = (l.length - (j + 1).toNat) + 1 := by omega
    refine ⟨⟨hj, c⟩, ⟨hj, c⟩, h5, fun d => ⟨⟨h1, by omega⟩, ⟨h1, by omega⟩, by repeat' (first | exact trivial | rfl | apply And.intro), ?_⟩, fun d => ⟨by repeat' (first | exact trivial | rfl | apply And.intro), ?_⟩⟩
    · rw [i64_inc (by omega) (by unfold big at h4; omega), i64_inc (by omega) (by unfold big at h4; omega)]
      refine ⟨⟨by dsimp only; omega, by dsimp only; omega, by dsimp only; rw [List.length_set]; omega, by dsimp only; rw [List.length_set]; exact h4, h5⟩, by simp only [LDf, List.length_set]; omega, ?_⟩
      simp only [LDf, List.length_set]
      have d : r.contains (l.getD j.toNat 0) = true := by simpa using d
      rw [hn, delL, if_pos d]
    · rw [i64_inc (by omega) (by unfold big at h4; omega)]
      refine ⟨⟨h1, by dsimp only; omega, by dsimp only; omega, h4, h5⟩, by simp only [LDf]; omega, ?_⟩
      simp only [LDf]
      have d : r.contains (l.getD j.toNat 0) = false := by simpa using d
      rw [hn, delL, if_neg (by rw [d]; decide)]
  · have c : ¬ j < l.length := fun e => by simp [e] at c
    rw [show l.length - j.toNat = 0 by omega]
    exact ⟨⟨rfl, rfl⟩, trivial⟩
theorem delF_ok : MutOK false Try.prog 42 (.row i64) [CloN] [] (fun x => (List.length (α := Int) x.1 : Int) < big ∧ (List.length (α := Int) x.2.1 : Int) < big) (fun x => (List.filter (α := Int) (fun y => List.contains (α := Int) x.2.1 y) x.1, ())) :=
  fn_mut (E := h4) (n := 100) h4_ok Try.func42 (by kernel_rfl) lDf fun l x h => by
    obtain ⟨r, _⟩ : List Int × Unit := x
    refine Tree.all_eq (tDf l r) ?_
    obtain ⟨h1, h2⟩ : (l.length : Int) < big ∧ (r.length : Int) < big := h
    refine ⟨⟨h1, h2⟩, fun c => ?_, fun c => ?_⟩
    · have c : idxD r l 0 = -1 := by simpa using c
      rcases idxD_spec r l 0 (by omega) with ⟨_, q⟩ | ⟨k, e, _⟩
      · show (l, ()) = (_, ())
        congr 1
        exact (List.filter_eq_self.2 q).symm
      · omega
    · have c : ¬ idxD r l 0 = -1 := by simpa using c
      rcases idxD_spec r l 0 (by omega) with ⟨e, _⟩ | ⟨k, e, k1, k2, k3⟩
      · exact absurd e c
      · have e1 : idxD r l 0 = (k : Int) := by omega
        rw [e1, i64_inc (by omega) (by unfold big at h1; omega)]
        have sp := delL_spec r (l.length - (k + 1)) l k (k + 1) (by omega) (by omega)
        push_cast at sp
        rw [show ((k : Int) + 1).toNat = k + 1 by omega]
        generalize delL r (l.length - (k + 1)) l k (k + 1) = q at sp ⊢
        obtain ⟨s1, s2, s3, s4⟩ := sp
        have hk : l.take k ++ (l.drop (k + 1)).filter (fun x => r.contains x) = l.filter (fun x => r.contains x) := by
          conv => rhs; rw [← List.take_append_drop k l, List.filter_append]
          rw [List.filter_eq_self.2 k2]
          congr 1
          have hd : l.drop k = l.getD k 0 :: l.drop (k + 1) := by
            rw [List.drop_eq_getElem_cons k1]
            congr 1
            simp [List.getD_eq_getElem?_getD, k1]
          rw [hd, List.filter_cons, if_neg (by rw [k3]; decide)]
        have hq : q.2 ≤ (q.1.length : Int) := by rw [s1]; omega
        refine ⟨⟨by omega, by omega, by omega, h1, h2⟩, by repeat' (first | exact trivial | rfl | apply And.intro), ⟨by omega, hq, Int.le_refl _⟩, by omega, ?_, ?_⟩
        · simp; omega
        · show (_, ()) = (_, ())
          congr 1
          rw [← hk, ← s4]
          simp only [Nat.sub_zero, List.drop_zero]
          rw [List.append_assoc, List.take_left' (by rw [List.length_take]; omega)]
end Pl
namespace Pl
open Go Sx Go.Proofs Go.RowKit
abbrev OrdP : OTy := .cat (.dat i64) (.row i64)
abbrev OrdS : OTy := .cat (.dat i64) (.dat ints)
abbrev KBr : Nat × Sx.Spec := (41, ownSp [.ptr OrdT, ints] [ints] (fun x => (List.length (α := Int) x.2.1 : Int) < big) (fun x => (brF x.1.1 x.2.1, ())))
abbrev KDl : Nat × Sx.Spec := (42, mutSp false (.row i64) [CloN] [] (fun x => (List.length (α := Int) x.1 : Int) < big ∧ (List.length (α := Int) x.2.1 : Int) < big) (fun x => (List.filter (α := Int) (fun y => List.contains (α := Int) x.2.1 y) x.1, ())))
abbrev KPs : Nat × Sx.Spec := (45, ownSp [ints, .int .u64] [ints] (fun _ => True) (fun x => (shF x.1 x.2.1, ())))
noncomputable abbrev h5 : Ex := mkExW Try.prog [KBr, KDl, KPs]
theorem h5_ok : h5.Sound := mkExW_sound ⟨ownSp_ok brought_ok, mutSp_ok delF_ok, ownSp_ok pshuf_ok, trivial⟩
def ordF (x : Int × List Int) (p : List Int) (d : Int) : (Int × List Int) × Int :=
  if (brF x.1 p).length = 0 then (x, -1) else
  if (x.2.filter (fun n => (brF x.1 p).contains n)).length = 0 then ((x.1, (shF (brF x.1 p) d).drop 1), (shF (brF x.1 p) d).getD 0 0) else
  ((x.1, (x.2.filter (fun n => (brF x.1 p).contains n)).drop 1), (x.2.filter (fun n => (brF x.1 p).contains n)).getD 0 0)
theorem brF_len (s : Int) (l : List Int) : (brF s l).length ≤ 8 := fltB_len _ _ _
theorem shF_brF (s : Int) (l : List Int) (d : Int) : (shF (brF s l) d).length = (brF s l).length := by
  rw [shF_len, List.length_take, Nat.min_eq_right (by have := brF_len s l; omega)]
theorem tNx (s : Int) (r p : List Int) (d : Int) : @Eq _
  (fnM true h5 [] 100 Try.f27 OrdP [ints, .int .u64] [i64] (s, r) (p, d, ()))
  (.req ((↑p.length : Int) < (4611686018427387904 : Int)) (
 .fork ((↑(Pl.brF s p).length : Int) == (0 : Int)) (
  .leaf (((s, r), (-1 : Int), ()))) (
  .req ((↑r.length : Int) < (4611686018427387904 : Int) ∧ (↑(Pl.brF s p).length : Int) < (4611686018427387904 : Int)) (
   .fork ((↑(List.filter (fun y => (Pl.brF s p).contains y) r).length : Int) == (0 : Int)) (
    .req (True) (
     .req ((0 : Int) ≤ (0 : Int) ∧ (0 : Int) < (↑(Pl.shF (Pl.brF s p) d).length : Int)) (
      .req ((0 : Int) ≤ (0 : Int) ∧ (0 : Int) < (↑(Pl.shF (Pl.brF s p) d).length : Int)) (
       .req ((0 : Int) ≤ (1 : Int) ∧ (1 : Int) ≤ (↑(Pl.shF (Pl.brF s p) d).length : Int) ∧ (↑(Pl.shF (Pl.brF s p) d).length : Int) ≤ (↑(Pl.shF (Pl.brF s p) d).length : Int)) (
        .leaf (((s, List.take ((↑(Pl.shF (Pl.brF s p) d).length : Int).toNat - 1) (List.drop 1 (Pl.shF (Pl.brF s p) d))), (Pl.shF (Pl.brF s p) d).getD 0 (0 : Int), ()))))))) (
    .req ((0 : Int) ≤ (0 : Int) ∧ (0 : Int) < (↑(List.filter (fun y => (Pl.brF s p).contains y) r).length : Int)) (
     .req ((0 : Int) ≤ (0 : Int) ∧ (0 : Int) < (↑(List.filter (fun y => (Pl.brF s p).contains y) r).length : Int)) (
      .req ((0 : Int) ≤ (1 : Int) ∧ (1 : Int) ≤ (↑(List.filter (fun y => (Pl.brF s p).contains y) r).length : Int) ∧ (↑(List.filter (fun y => (Pl.brF s p).contains y) r).length : Int) ≤ (↑(List.filter (fun y => (Pl.brF s p).contains y) r).length : Int)) (
       .leaf (((s, List.take ((↑(List.filter (fun y => (Pl.brF s p).contains y) r).length : Int).toNat - 1) (List.drop 1 (List.filter (fun y => (Pl.brF s p).contains y) r))), (List.filter (fun y => (Pl.brF s p).contains y) r).getD 0 (0 : Int), ()))))))))) : Tree ((Int × List Int) × Int × PUnit)) := by kernel_rfl
theorem onext_ok : MutOK true Try.prog 27 OrdP [ints, .int .u64] [i64] (fun x => (List.length (α := Int) x.1.2 : Int) < 1000000 ∧ (List.length (α := Int) x.2.1 : Int) < big) (fun x => ((ordF x.1 x.2.1 x.2.2.1).1, (ordF x.1 x.2.1 x.2.2.1).2, ())) :=
  fn_mut (E := h5) (n := 100) h5_ok Try.func27 (by kernel_rfl) .nil fun x y h => by
    obtain ⟨s, r⟩ : Int × List Int := x
    obtain ⟨p, d, _⟩ : List Int × Int × Unit := y
    obtain ⟨h1, h2⟩ : (r.length : Int) < 1000000 ∧ (p.length : Int) < big := h
    refine Tree.all_eq (tNx s r p d) ?_
    have hb := brF_len s p
    have hs := shF_brF s p d
    show Tree.all _ fun y => y = ((ordF (s, r) p d).1, (ordF (s, r) p d).2, ())
    unfold ordF
    generalize brF s p = l at *
    refine ⟨h2, fun c => ?_, fun c => ⟨⟨by omega, by omega⟩, fun e => ?_, fun e => ?_⟩⟩
    · have c : l.length = 0 := by simpa using c
      rw [if_pos c]; rfl
    · have c : ¬ l.length = 0 := by simpa using c
      have e : (r.filter (fun n => l.contains n)).length = 0 := by simpa using e
      rw [if_neg c, if_pos e]
      refine ⟨trivial, by omega, by omega, by omega, ?_⟩
      show ((s, List.take _ _), _, ()) = ((s, _), _, ())
      rw [List.take_of_length_le (by rw [List.length_drop]; omega)]
    · have c : ¬ l.length = 0 := by simpa using c
      have e : ¬ (r.filter (fun n => l.contains n)).length = 0 := by intro q; rw [q] at e; exact absurd e (by decide)
      rw [if_neg c, if_neg e]
      refine ⟨by omega, by omega, by omega, ?_⟩
      show ((s, List.take _ _), _, ()) = ((s, _), _, ())
      rw [List.take_of_length_le (by rw [List.length_drop]; omega)]
abbrev KPr : Nat × Sx.Spec := (46, ownSp [ints, i64] [ints] (fun x => (List.length (α := Int) x.1 : Int) < big) (fun x => (brF x.2.1 x.1, ())))
abbrev KHs : Nat × Sx.Spec := (47, pureSp [ints, i64] [.bool] (fun x => (List.length (α := Int) x.1 : Int) < big) (fun x => (List.contains (α := Int) x.1 x.2.1, ())))
abbrev KRs : Nat × Sx.Spec := (48, ownSp [ints, .int .u64] [ints] (fun _ => True) (fun x => (shF x.1 x.2.1, ())))
noncomputable abbrev h6 : Ex := mkExM Try.prog [KPr, KHs, KRs]
theorem h6_ok : h6.Sound := mkExM_sound ⟨ownSp_ok rpeers_ok, pureSp_ok rhas_ok, ownSp_ok rshuf_ok, trivial⟩
structure ANx where
  s : Int
  d : Int
  l : List Int
  r : List Int
  i : Int
  o : List Int
def LNx : LoopC ANx where
  n0 := 4
  det st := match intG st 0 0, intS st 2, rowS st 23 i64, rowS st 7 i64, intS st 25, rowS st 8 i64 with | some s, some d, some r, some l, some i0, some o => some ⟨s, d, l, r, i0, o⟩ | _, _, _, _, _, _ => none
  rows := [(4, .slot 8)]
  inv a := ⟨[(25, iv a.i), (24, iv (↑a.r.length : Int)), (23, .one (.row 1)), (8, .one (.row 4)), (7, .one (.row 3)), (0, .one (.ptr 0 0)), (2, .one (.int IntKind.u64 a.d))],
    [(4, .own i64 a.o), (3, .own i64 a.l), (0, .blk [.int .i64 a.s, .row 1]), (1, .ro i64 a.r)], 5⟩
  ok a := 0 ≤ a.i ∧ a.i ≤ a.r.length ∧ (a.r.length : Int) < 1000000 ∧ (a.l.length : Int) < big ∧ (a.o.length : Int) ≤ a.i
  mu a := a.r.length - a.i.toNat
  fin a := .leaf ⟨2, ⟨[(7, .one (.row 3)), (8, .one (.row 4)), (0, .one (.ptr 0 0)), (2, .one (.int IntKind.u64 a.d))],
    [(4, .own i64 (a.o ++ (a.r.drop a.i.toNat).filter (fun n => a.l.contains n))), (3, .own i64 a.l), (0, .blk [.int .i64 a.s, .row 1]), (1, .ro i64 a.r)], 5⟩⟩
theorem rNr (s d : Int) (l r : List Int) (i : Int) (o : List Int) : @Eq _
  (LNx.round h6 [] 100 Try.f28 0 ⟨s, d, l, r, i, o⟩)
  (.fork (decide (i < (↑r.length : Int))) (
 .req ((0 : Int) ≤ i ∧ i < (↑r.length : Int)) (
  .req ((0 : Int) ≤ i ∧ i < (↑r.length : Int)) (
   .req ((↑l.length : Int) < (4611686018427387904 : Int)) (
    .fork (l.contains (r.getD i.toNat (0 : Int))) (
     .req ((o.length + 1) * 9 ≤ 70368744177664) (
      .req (IntKind.i64.wrap (i + (1 : Int)) = IntKind.i64.wrap (i + (1 : Int)) ∧ (↑r.length : Int) = (↑r.length : Int) ∧ d = d ∧ o ++ [r.getD i.toNat (0 : Int)] = o ++ [r.getD i.toNat (0 : Int)] ∧ l = l ∧ s = s ∧ r = r) (
       .leaf (Option.some { s := s, d := d, l := l, r := r, i := IntKind.i64.wrap (i + (1 : Int)), o := o ++ [r.getD i.toNat (0 : Int)] })))) (
     .req (IntKind.i64.wrap (i + (1 : Int)) = IntKind.i64.wrap (i + (1 : Int)) ∧ (↑r.length : Int) = (↑r.length : Int) ∧ d = d ∧ o = o ∧ l = l ∧ s = s ∧ r = r) (
      .leaf (Option.some { s := s, d := d, l := l, r := r, i := IntKind.i64.wrap (i + (1 : Int)), o := o }))))))) (
 .req (d = d ∧ o = o ++ List.filter (fun n => l.contains n) (List.drop i.toNat r) ∧ l = l ∧ s = s ∧ r = r) (
  .leaf (Option.none))) : Tree (Option Pl.ANx)) := by kernel_rfl
theorem tNr (s : Int) (r p : List Int) (d : Int) : @Eq _
  (fnM true h6 [(0, LNx.sp)] 100 Try.f28 OrdS [ints, .int .u64] [i64] (s, r) (p, d, ()))
  (.req ((↑p.length : Int) < (4611686018427387904 : Int)) (
 .fork ((↑(Pl.brF s p).length : Int) == (0 : Int)) (
  .leaf (((s, r), (-1 : Int), ()))) (
  .req ((0 : Int) ≤ (0 : Int) ∧ (0 : Int) ≤ (↑r.length : Int) ∧ (↑r.length : Int) < (1000000 : Int) ∧ (↑(Pl.brF s p).length : Int) < (4611686018427387904 : Int) ∧ (0 : Int) ≤ (0 : Int)) (
   .req ((0 : Int) = (0 : Int) ∧ (↑r.length : Int) = (↑r.length : Int) ∧ d = d ∧ ([] : List Int) = ([] : List Int) ∧ Pl.brF s p = Pl.brF s p ∧ s = s ∧ r = r) (
    .fork ((↑(([] : List Int) ++ List.filter (fun n => (Pl.brF s p).contains n) r).length : Int) == (0 : Int)) (
     .req (True) (
      .req ((0 : Int) ≤ (1 : Int) ∧ (1 : Int) ≤ (↑(Pl.shF (Pl.brF s p) d).length : Int) ∧ (↑(Pl.shF (Pl.brF s p) d).length : Int) ≤ (↑(Pl.shF (Pl.brF s p) d).length : Int)) (
       .req ((0 : Int) ≤ (0 : Int) ∧ (0 : Int) < (↑(Pl.shF (Pl.brF s p) d).length : Int)) (
        .req ((0 : Int) ≤ (0 : Int) ∧ (0 : Int) < (↑(Pl.shF (Pl.brF s p) d).length : Int)) (
         .leaf (((s, List.take ((↑(Pl.shF (Pl.brF s p) d).length : Int).toNat - 1) (List.drop 1 (Pl.shF (Pl.brF s p) d))), (Pl.shF (Pl.brF s p) d).getD 0 (0 : Int), ()))))))) (
     .req ((0 : Int) ≤ (1 : Int) ∧ (1 : Int) ≤ (↑(([] : List Int) ++ List.filter (fun n => (Pl.brF s p).contains n) r).length : Int) ∧ (↑(([] : List Int) ++ List.filter (fun n => (Pl.brF s p).contains n) r).length : Int) ≤ (↑(([] : List Int) ++ List.filter (fun n => (Pl.brF s p).contains n) r).length : Int)) (
      .req ((0 : Int) ≤ (0 : Int) ∧ (0 : Int) < (↑(([] : List Int) ++ List.filter (fun n => (Pl.brF s p).contains n) r).length : Int)) (
       .req ((0 : Int) ≤ (0 : Int) ∧ (0 : Int) < (↑(([] : List Int) ++ List.filter (fun n => (Pl.brF s p).contains n) r).length : Int)) (
        .leaf (((s, List.take ((↑(([] : List Int) ++ List.filter (fun n => (Pl.brF s p).contains n) r).length : Int).toNat - 1) (List.drop 1 (([] : List Int) ++ List.filter (fun n => (Pl.brF s p).contains n) r))), (([] : List Int) ++ List.filter (fun n => (Pl.brF s p).contains n) r).getD 0 (0 : Int), ())))))))))) : Tree ((Int × List Int) × Int × PUnit)) := by kernel_rfl
theorem lNx : LpsOK Try.prog Try.f28 [(0, LNx.sp)] := by
  refine .cons (LNx.sound h6_ok (lps := []) (n := 100) (inner rfl) (fun _ => rfl) ?_) .nil
  rintro ⟨s, d, l, r, i, o⟩ ⟨h1, h2, h3, h4, h5⟩
  simp only at h1 h2 h3 h4 h5
  rw [rNr]
  have next : ∀ o', (o' ++ (r.drop (i + 1).toNat).filter (fun n => l.contains n) = o ++ (r.drop i.toNat).filter (fun n => l.contains n)) → (o'.length : Int) ≤ i + 1 → i < r.length → LNx.Next ⟨s, d, l, r, i, o⟩ (some ⟨s, d, l, r, IntKind.i64.wrap (i + 1), o'⟩) := by
    intro o' e k c
    rw [i64_inc (by omega) (by omega)]
    refine ⟨⟨by dsimp only; omega, by dsimp only; omega, h3, h4, k⟩, by simp only [LNx]; omega, ?_⟩
    simp only [LNx]
    rw [e]
  refine ⟨fun c => ?_, fun c => ?_⟩
  · have c : i < r.length := of_decide_eq_true c
    have hd := drop_cons 0 h1 c
    refine ⟨⟨h1, c⟩, ⟨h1, c⟩, h4, fun d => ⟨by omega, by repeat' (first | exact trivial | rfl | apply And.intro), next _ ?_ (by simp; omega) c⟩, fun d => ⟨by repeat' (first | exact trivial | rfl | apply And.intro), next _ ?_ (by omega) c⟩⟩
    · rw [hd, List.filter_cons, if_pos d]; simp
    · rw [hd, List.filter_cons, if_neg (by rw [d]; decide)]
  · have c : ¬ i < r.length := fun e => by simp [e] at c
    rw [drop_end c]
    exact ⟨⟨rfl, (List.append_nil _).symm, rfl, rfl, rfl⟩, trivial⟩
theorem rnext_ok : MutOK true Try.prog 28 OrdS [ints, .int .u64] [i64] (fun x => (List.length (α := Int) x.1.2 : Int) < 1000000 ∧ (List.length (α := Int) x.2.1 : Int) < big) (fun x => ((ordF x.1 x.2.1 x.2.2.1).1, (ordF x.1 x.2.1 x.2.2.1).2, ())) :=
  fn_mut (E := h6) (n := 100) h6_ok Try.func28 (by kernel_rfl) lNx fun x y h => by
    obtain ⟨s, r⟩ : Int × List Int := x
    obtain ⟨p, d, _⟩ : List Int × Int × Unit := y
    obtain ⟨h1, h2⟩ : (r.length : Int) < 1000000 ∧ (p.length : Int) < big := h
    refine Tree.all_eq (tNr s r p d) ?_
    have hb := brF_len s p
    have hs := shF_brF s p d
    show Tree.all _ fun y => y = ((ordF (s, r) p d).1, (ordF (s, r) p d).2, ())
    unfold ordF
    generalize brF s p = l at *
    simp only [List.nil_append]
    refine ⟨h2, fun c => ?_, fun c => ⟨⟨by omega, by omega, h1, by omega, by omega⟩, by repeat' (first | exact trivial | rfl | apply And.intro), fun e => ?_, fun e => ?_⟩⟩
    · have c : l.length = 0 := by simpa using c
      rw [if_pos c]; rfl
    · have c : ¬ l.length = 0 := by simpa using c
      have e : (r.filter (fun n => l.contains n)).length = 0 := by simpa using e
      rw [if_neg c, if_pos e]
      refine ⟨trivial, by omega, by omega, by omega, ?_⟩
      show ((s, List.take _ _), _, ()) = ((s, _), _, ())
      rw [List.take_of_length_le (by rw [List.length_drop]; omega)]
    · have c : ¬ l.length = 0 := by simpa using c
      have e : ¬ (r.filter (fun n => l.contains n)).length = 0 := by intro q; rw [q] at e; exact absurd e (by decide)
      rw [if_neg c, if_neg e]
      refine ⟨by omega, by omega, by omega, ?_⟩
      show ((s, List.take _ _), _, ()) = ((s, _), _, ())
      rw [List.take_of_length_le (by rw [List.length_drop]; omega)]
end Pl
namespace Pl
open Go Sx Go.Proofs Go.RowKit
abbrev knT : Ty := .rep 8 (.optr Ring)
abbrev KnD : Type := List (Option RingD)
noncomputable abbrev KKn : Nat × Sx.Spec := (16, dataSp [Ring, .bool] (fnI g3 [] 100 Try.f16))
noncomputable abbrev g4o : Ex := mkExM Try.prog [(25, fnI E0 [] 100 Try.f25), KrJL, KrB, KrM, KrS, (27, fnI g2 [] 100 Try.f27), (26, fnI E0 [] 100 Try.f26), KKn]
theorem gknI_ok : SpecOK Try.prog 16 (dataSp [Ring, .bool] (fnI g3 [] 100 Try.f16)) := dataSp_ok (fnI_ok (E := g3) g3_ok Try.func16 gbK .nil)
theorem g4o_ok : g4o.Sound := mkExM_sound ⟨fnI_ok (E := E0) E0_ok Try.func25 gbn .nil, pureSpL_ok rjoin_ok, pureSp_ok rbelow_ok, pureSp_ok rmay_ok, pureSp_ok rsame_ok, fnI_ok (E := g2) g2_ok Try.func27 gbNx .nil, fnI_ok (E := E0) E0_ok Try.func26 gbPN .nil, gknI_ok, trivial⟩
noncomputable abbrev KHe : Nat × Sx.Spec := (14, fnI g4o [] 100 Try.f14)
end Pl
namespace Pl
open Go Sx Go.Proofs Go.RowKit
abbrev u64s : Ty := .slice (.int .u64)
noncomputable abbrev KNx : Nat × Sx.Spec := (27, mutSp true OrdP [ints, .int .u64] [i64] (fun x => (List.length (α := Int) x.1.2 : Int) < 1000000 ∧ (List.length (α := Int) x.2.1 : Int) < big) (fun x => ((ordF x.1 x.2.1 x.2.2.1).1, (ordF x.1 x.2.1 x.2.2.1).2, ())))
noncomputable abbrev q0 : Ex := mkExM Try.prog [(25, fnI E0 [] 100 Try.f25), KrB, KNx, KKn]
theorem q0_ok : q0.Sound := mkExM_sound ⟨fnI_ok (E := E0) E0_ok Try.func25 gbn .nil, pureSp_ok rbelow_ok, mutSp_ok onext_ok, gknI_ok, trivial⟩
noncomputable abbrev KTu : Nat × Sx.Spec := (12, fnI q0 [] 100 Try.f12)
noncomputable abbrev qA : Ex := mkExM Try.prog [(10, objSp 2 knT (fnI g4 [] 100 Try.f10)), KHe, KTu, (23, fnI g6 [] 100 Try.f23)]
theorem qA_ok : qA.Sound := mkExM_sound ⟨objSp_ok (fnI_ok (E := g4) g4_ok Try.func10 gbNw .nil), fnI_ok (E := g4o) g4o_ok Try.func14 gbH .nil, fnI_ok (E := q0) q0_ok Try.func12 gbT .nil, fnI_ok (E := g6) g6_ok Try.func23 gbFR .nil, trivial⟩
theorem tAw  : @Eq _
  (cutT <| fnT qA [] 100 Try.f9 [] [.bool] ())
  (.req ((0 : Int) < (1000000 : Int) ∧ (1 : Int) < (4611686018427387904 : Int)) (
 .req ((true = true → conjP [false = true → conjP [(0 : Int) = (0 : Int), ([] : List Int) = ([] : List Int), (List.replicate 8 Option.none : List (Option RingD)) = (List.replicate 8 Option.none : List (Option RingD))], false = false → conjP [(0 : Int) ≤ (2 : Int) ∧ (2 : Int) < (8 : Int), (0 : Int) ≤ (2 : Int) ∧ (2 : Int) < (8 : Int), true = true → conjP [(0 : Int) = (0 : Int), ([] : List Int) = ([] : List Int), (List.replicate 8 Option.none : List (Option RingD)) = (List.replicate 8 Option.none : List (Option RingD))], true = false → conjP [(0 : Int) ≤ (2 : Int) ∧ (2 : Int) < (8 : Int), (0 : Int) ≤ (2 : Int) ∧ (2 : Int) < (8 : Int), true = false, false = true, (8 = 8 ∧ 16 = 16) ∧ (8 = 8 ∧ 16 = 16) ∧ (0 : Int) < (17592186044416 : Int) ∧ (0 : Int) < (17592186044416 : Int), (0 : Int) = (0 : Int), ([] : List Int) = ([] : List Int), (List.replicate 8 Option.none : List (Option RingD)) = (List.replicate 8 Option.none : List (Option RingD))]]]) ∧ (true = false → conjP [(0 : Int) = (0 : Int), ([] : List Int) = ([] : List Int), (List.replicate 8 Option.none : List (Option RingD)) = (List.replicate 8 Option.none : List (Option RingD))])) (
  .req (false = true → conjP [(8 = 8 ∧ 16 = 16) ∧ (8 = 8 ∧ 16 = 16) ∧ (0 : Int) < (17592186044416 : Int) ∧ (0 : Int) < (17592186044416 : Int)]) (
   .req ((8 = 8 ∧ 16 = 16) ∧ (0 : Int) < (17592186044416 : Int)) (
    .req (True ∧ (true = true → conjP [(List.replicate 8 Option.none : List (Option RingD)) = (List.replicate 8 Option.none : List (Option RingD)), (0 : Int) = (0 : Int), ([] : List Int) = ([] : List Int)]) ∧ (true = false → conjP [True, true = false, false = true, (8 = 8 ∧ 16 = 16) ∧ (8 = 8 ∧ 16 = 16) ∧ (0 : Int) < (17592186044416 : Int) ∧ (0 : Int) < (17592186044416 : Int), (List.replicate 8 Option.none : List (Option RingD)) = (List.replicate 8 Option.none : List (Option RingD)), (0 : Int) = (0 : Int), ([] : List Int) = ([] : List Int)])) (
     .req ((8 = 8 ∧ 16 = 16) ∧ (8 = 8 ∧ 16 = 16) ∧ (0 : Int) < (17592186044416 : Int) ∧ (0 : Int) < (17592186044416 : Int)) (
      .req (True) (
       .req ((0 : Int) < (1000000 : Int) ∧ (1 : Int) < (4611686018427387904 : Int)) (
        .req ((true = true → conjP [false = true → conjP [(0 : Int) = (0 : Int), ([] : List Int) = ([] : List Int), Option.none :: Option.none :: Option.some ((2 : Int) :: List.replicate 7 (0 : Int), ((0 : Int), (0 : Int), ([] : List Int)), List.replicate 16 ((1 : Int), (0 : Int))) :: List.replicate 5 Option.none = Option.none :: Option.none :: Option.some ((2 : Int) :: List.replicate 7 (0 : Int), ((0 : Int), (0 : Int), ([] : List Int)), List.replicate 16 ((1 : Int), (0 : Int))) :: List.replicate 5 Option.none], false = false → conjP [(0 : Int) ≤ (2 : Int) ∧ (2 : Int) < (8 : Int), (0 : Int) ≤ (2 : Int) ∧ (2 : Int) < (8 : Int), false = true → conjP [(0 : Int) = (0 : Int), ([] : List Int) = ([] : List Int), Option.none :: Option.none :: Option.some ((2 : Int) :: List.replicate 7 (0 : Int), ((0 : Int), (0 : Int), ([] : List Int)), List.replicate 16 ((1 : Int), (0 : Int))) :: List.replicate 5 Option.none = Option.none :: Option.none :: Option.some ((2 : Int) :: List.replicate 7 (0 : Int), ((0 : Int), (0 : Int), ([] : List Int)), List.replicate 16 ((1 : Int), (0 : Int))) :: List.replicate 5 Option.none], false = false → conjP [(0 : Int) ≤ (2 : Int) ∧ (2 : Int) < (8 : Int), (0 : Int) ≤ (2 : Int) ∧ (2 : Int) < (8 : Int), false = false, true = true, (8 = 8 ∧ 16 = 16) ∧ (8 = 8 ∧ 16 = 16) ∧ (0 : Int) < (17592186044416 : Int) ∧ (0 : Int) < (17592186044416 : Int), (0 : Int) = (0 : Int), ([] : List Int) = ([] : List Int), Option.none :: Option.none :: Option.some ((2 : Int) :: List.replicate 7 (0 : Int), ((0 : Int), (0 : Int), ([] : List Int)), List.replicate 16 ((1 : Int), (0 : Int))) :: List.replicate 5 Option.none = Option.none :: Option.none :: Option.some ((2 : Int) :: List.replicate 7 (0 : Int), ((0 : Int), (0 : Int), ([] : List Int)), List.replicate 16 ((1 : Int), (0 : Int))) :: List.replicate 5 Option.none]]]) ∧ (true = false → conjP [(0 : Int) = (0 : Int), ([] : List Int) = ([] : List Int), Option.none :: Option.none :: Option.some ((2 : Int) :: List.replicate 7 (0 : Int), ((0 : Int), (0 : Int), ([] : List Int)), List.replicate 16 ((1 : Int), (0 : Int))) :: List.replicate 5 Option.none = Option.none :: Option.none :: Option.some ((2 : Int) :: List.replicate 7 (0 : Int), ((0 : Int), (0 : Int), ([] : List Int)), List.replicate 16 ((1 : Int), (0 : Int))) :: List.replicate 5 Option.none])) (
         .req (true = true → conjP [(8 = 8 ∧ 16 = 16) ∧ (8 = 8 ∧ 16 = 16) ∧ (0 : Int) < (17592186044416 : Int) ∧ (0 : Int) < (17592186044416 : Int)]) (
          .leaf ((true, ())))))))))))) : Tree (Bool × PUnit)) := by kernel_rfl
theorem aw_ok : PureOK Try.prog 9 [] [.bool] (fun _ => True) (fun _ => (true, ())) :=
  fn_pure (E := qA) (n := 100) qA_ok Try.func9 (by kernel_rfl) .nil fun x _ => by
    refine cut_all (Tree.all_eq tAw ?_)
    show Tree.all (α := Bool × Unit) _ (fun y => y = (true, ()))
    simp [Tree.all, conjP]
end Pl
