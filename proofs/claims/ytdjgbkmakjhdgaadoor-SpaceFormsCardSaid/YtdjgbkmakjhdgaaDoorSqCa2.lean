import Derived.Test.YtdjgbkmakjhdgaaDoorSqCa
namespace Pl
open Go Sx Go.Proofs Go.RowKit
theorem idxF_ge (v : Int) : ∀ (l : List Int) (i : Int), 0 ≤ i → l.contains v = true → 0 ≤ idxF v l i ∧ i ≤ idxF v l i ∧ idxF v l i < i + l.length ∧ l.getD (idxF v l i - i).toNat 0 = v
  | [], i, h0, h => by simp at h
  | x :: r, i, h0, h => by
    simp only [idxF]
    split
    · rename_i e; simp [h0, e]; omega
    · rename_i e
      have : r.contains v = true := by simp at h ⊢; rcases h with h | h; exact absurd h.symm e; exact h
      obtain ⟨a, b, c, d⟩ := idxF_ge v r (i + 1) (by omega) this
      refine ⟨a, by omega, by simp; omega, ?_⟩
      rw [show (idxF v r (i + 1) - i).toNat = (idxF v r (i + 1) - (i + 1)).toNat + 1 by omega]
      exact d
theorem lIx : LpsOK Tryd.prog Tryd.f25 [(0, LIx.sp)] := by
  refine .cons (LIx.sound E0_ok (lps := []) (n := 100) (inner rfl) (fun _ => rfl) ?_) .nil
  rintro ⟨l, v, i⟩ ⟨h1, h2, h3⟩
  simp only at h1 h2 h3
  rw [rIx]
  simp only [Tree.all, true_and, and_true, LoopC.Next, decide_eq_true_eq, decide_eq_false_iff_not, beq_iff_eq, beq_eq_false_iff_ne, ne_eq]
  refine ⟨fun c => ⟨⟨h1, c⟩, ⟨h1, c⟩, fun d => ⟨fun e => ?_, fun e => ?_⟩, fun d => ?_⟩, fun c => ⟨fun e => ?_, fun _ => trivial⟩⟩
  · rw [drop_cons 0 h1 c, idxF, if_pos d.symm]
  · rw [drop_cons 0 h1 c] at e; simp [d] at e
  · rw [i64_inc (by omega) (by unfold big at h3; omega)]
    refine ⟨⟨by dsimp only; omega, by dsimp only; omega, h3⟩, by simp only [LIx]; omega, ?_⟩
    simp only [LIx]
    rw [drop_cons 0 h1 c, idxF, if_neg (fun e => d e.symm), List.contains_cons]
    have : (v == l.getD i.toNat 0) = false := by simpa using d
    rw [this]; simp
  · rw [drop_end c] at e; simp at e
def indexF (l : List Int) (v : Int) : Int := if l.contains v then idxF v l 0 else -1
theorem index_t (l : List Int) (v : Int) (h : (l.length : Int) < big) : (fnT E0 [(0, LIx.sp)] 100 Tryd.f25 [ints, i64] [i64] (l, v, ())).all fun y => y = (indexF l v, ()) := by
  rw [tIx]
  simp only [Tree.all, true_and, and_true]
  exact ⟨⟨by omega, by omega, h⟩, fun c => by rw [indexF, if_pos c], fun c => by rw [indexF, if_neg (by rw [c]; decide)]⟩
theorem index_ok : PureOK Tryd.prog 25 [ints, i64] [i64] (fun x => (List.length (α := Int) x.1 : Int) < big) (fun x => (indexF x.1 x.2.1, ())) :=
  fn_pure (E := E0) (n := 100) E0_ok Tryd.func25 bodyIx lIx fun x h => index_t x.1 x.2.1 h
abbrev KIx : Nat × Sx.Spec := (25, pureSp [ints, i64] [i64] (fun x => (List.length (α := Int) x.1 : Int) < big) (fun x => (indexF x.1 x.2.1, ())))
noncomputable abbrev C0 : Ex := mkEx Tryd.prog [KIx]
theorem C0_ok : C0.Sound := mkEx_sound ⟨pureSp_ok index_ok, trivial⟩
theorem tCt (l : List Int) (v : Int) : @Eq _
  (fnT C0 [] 100 Tryd.f18 [ints, i64] [.bool] (l, v, ()))
  (.req ((↑l.length : Int) < (4611686018427387904 : Int)) (
 .leaf ((decide ((if l.contains v = true then Pl.idxF v l (0 : Int) else (-1 : Int)) ≥ (0 : Int)), ()))) : Tree (Bool × PUnit)) := by kernel_rfl
theorem contains_t (l : List Int) (v : Int) (h : (l.length : Int) < big) : (fnT C0 [] 100 Tryd.f18 [ints, i64] [.bool] (l, v, ())).all fun y => y = (l.contains v, ()) := by
  rw [tCt]
  simp only [Tree.all]
  refine ⟨h, ?_⟩
  cases hc : l.contains v with
  | true => have := (idxF_ge v l 0 (by omega) hc).1; rw [if_pos rfl]; simp [this]
  | false => rw [if_neg (by decide)]; simp
theorem contains_ok : PureOK Tryd.prog 18 [ints, i64] [.bool] (fun x => (List.length (α := Int) x.1 : Int) < big) (fun x => (List.contains (α := Int) x.1 x.2.1, ())) :=
  fn_pure (E := C0) (n := 100) C0_ok Tryd.func18 bodyCt .nil fun x h => contains_t x.1 x.2.1 h
def hasL (l : List Int) (v : Int) : Int := cntB (fun p => atL l (p : Int) == v) 16 0
def memL (l : List Int) : List Int := fltB (fun n => l.contains (n : Int)) 8 0
def movL (l m : List Int) : Int := cntB (fun p => !(atL l (p : Int) == atL m (p : Int))) 16 0
end Pl
