import Derived.Test.YtenjakhegeclhaaClCg
import Derived.Test.YtenjakhegeclhaaClChO
namespace Pl
open Go Sx Go.Proofs Go.RowKit
def peF (l : List Int) (s : Int) (f : List Bool) : List Bool := tabL 8 (fun k => f.getD k false || (l.contains (k : Int) && !((k : Int) == s)))
theorem bodyNd : Try.f22.body = some (bodyOf Try.f22) := by kernel_rfl
noncomputable abbrev X0 : Ex := mkExM Try.prog [(22, fnI E0 [] 100 Try.f22)]
theorem X0_ok : X0.Sound := mkExM_sound ⟨fnI_ok (E := E0) E0_ok Try.func22 bodyNd .nil, trivial⟩
structure APe where
  l : List Int
  s : Int
  i : Int
  f : List Bool
def LPe : LoopC APe where
  n0 := 2
  det st := match rowS st 11 i64, intS st 1, intS st 13, datG st 1 0 (.rep 8 .bool) with | some l, some s, some i, some f => some ⟨l, s, i, f⟩ | _, _, _, _ => none
  inv a := ⟨[(13, iv a.i), (12, iv (↑a.l.length : Int)), (11, .one (.row 0)), (5, .one (.ptr 1 0)), (1, iv a.s)],
    [(1, .blk [.bool (a.f.getD 0 false), .bool (a.f.getD 1 false), .bool (a.f.getD 2 false), .bool (a.f.getD 3 false), .bool (a.f.getD 4 false), .bool (a.f.getD 5 false), .bool (a.f.getD 6 false), .bool (a.f.getD 7 false)]), (0, .ro i64 a.l)], 2⟩
  ok a := 0 ≤ a.i ∧ a.i ≤ a.l.length ∧ (a.l.length : Int) < big ∧ a.f.length = 8
  mu a := a.l.length - a.i.toNat
  fin a := .leaf ⟨2, ⟨[(5, .one (.ptr 1 0))], [(1, .blk [.bool ((peF (a.l.drop a.i.toNat) a.s a.f).getD 0 false), .bool ((peF (a.l.drop a.i.toNat) a.s a.f).getD 1 false), .bool ((peF (a.l.drop a.i.toNat) a.s a.f).getD 2 false), .bool ((peF (a.l.drop a.i.toNat) a.s a.f).getD 3 false), .bool ((peF (a.l.drop a.i.toNat) a.s a.f).getD 4 false), .bool ((peF (a.l.drop a.i.toNat) a.s a.f).getD 5 false), .bool ((peF (a.l.drop a.i.toNat) a.s a.f).getD 6 false), .bool ((peF (a.l.drop a.i.toNat) a.s a.f).getD 7 false)])], 2⟩⟩
theorem rPe (l : List Int) (s i : Int) (f : List Bool) : @Eq _
  (LPe.round X0 [] 100 Try.f14 0 ⟨l, s, i, f⟩)
  (.fork (decide (i < (↑l.length : Int))) (
 .req ((0 : Int) ≤ i ∧ i < (↑l.length : Int)) (
  .req ((0 : Int) ≤ i ∧ i < (↑l.length : Int)) (
   .req (True) (
    .fork (decide (l.getD i.toNat (0 : Int) ≥ (0 : Int)) && (decide (l.getD i.toNat (0 : Int) < (8 : Int)) && l.getD i.toNat (0 : Int) != s)) (
     .req ((0 : Int) ≤ l.getD i.toNat (0 : Int) ∧ l.getD i.toNat (0 : Int) < (8 : Int)) (
      .req ((0 : Int) ≤ l.getD i.toNat (0 : Int) ∧ l.getD i.toNat (0 : Int) < (8 : Int)) (
       .req (IntKind.i64.wrap (i + (1 : Int)) = IntKind.i64.wrap (i + (1 : Int)) ∧ (↑l.length : Int) = (↑l.length : Int) ∧ s = s ∧ (bif decide (l.getD i.toNat (0 : Int) = (0 : Int)) then true else f.getD 0 false) = (tabL 8 fun j => bif decide (l.getD i.toNat (0 : Int) = j) then true else f.getD j false).getD 0 false ∧ (bif decide (l.getD i.toNat (0 : Int) = (1 : Int)) then true else f.getD 1 false) = (tabL 8 fun j => bif decide (l.getD i.toNat (0 : Int) = j) then true else f.getD j false).getD 1 false ∧ (bif decide (l.getD i.toNat (0 : Int) = (2 : Int)) then true else f.getD 2 false) = (tabL 8 fun j => bif decide (l.getD i.toNat (0 : Int) = j) then true else f.getD j false).getD 2 false ∧ (bif decide (l.getD i.toNat (0 : Int) = (3 : Int)) then true else f.getD 3 false) = (tabL 8 fun j => bif decide (l.getD i.toNat (0 : Int) = j) then true else f.getD j false).getD 3 false ∧ (bif decide (l.getD i.toNat (0 : Int) = (4 : Int)) then true else f.getD 4 false) = (tabL 8 fun j => bif decide (l.getD i.toNat (0 : Int) = j) then true else f.getD j false).getD 4 false ∧ (bif decide (l.getD i.toNat (0 : Int) = (5 : Int)) then true else f.getD 5 false) = (tabL 8 fun j => bif decide (l.getD i.toNat (0 : Int) = j) then true else f.getD j false).getD 5 false ∧ (bif decide (l.getD i.toNat (0 : Int) = (6 : Int)) then true else f.getD 6 false) = (tabL 8 fun j => bif decide (l.getD i.toNat (0 : Int) = j) then true else f.getD j false).getD 6 false ∧ (bif decide (l.getD i.toNat (0 : Int) = (7 : Int)) then true else f.getD 7 false) = (tabL 8 fun j => bif decide (l.getD i.toNat (0 : Int) = j) then true else f.getD j false).getD 7 false ∧ l = l) (
        .leaf (Option.some { l := l, s := s, i := IntKind.i64.wrap (i + (1 : Int)), f := tabL 8 fun j => bif decide (l.getD i.toNat (0 : Int) = j) then true else f.getD j false }))))) (
     .req (IntKind.i64.wrap (i + (1 : Int)) = IntKind.i64.wrap (i + (1 : Int)) ∧ (↑l.length : Int) = (↑l.length : Int) ∧ s = s ∧ f.getD 0 false = (tab 8 f false).getD 0 false ∧ f.getD 1 false = (tab 8 f false).getD 1 false ∧ f.getD 2 false = (tab 8 f false).getD 2 false ∧ f.getD 3 false = (tab 8 f false).getD 3 false ∧ f.getD 4 false = (tab 8 f false).getD 4 false ∧ f.getD 5 false = (tab 8 f false).getD 5 false ∧ f.getD 6 false = (tab 8 f false).getD 6 false ∧ f.getD 7 false = (tab 8 f false).getD 7 false ∧ l = l) (
      .leaf (Option.some { l := l, s := s, i := IntKind.i64.wrap (i + (1 : Int)), f := tab 8 f false }))))))) (
 .req (f.getD 0 false = (Pl.peF (List.drop i.toNat l) s f).getD 0 false ∧ f.getD 1 false = (Pl.peF (List.drop i.toNat l) s f).getD 1 false ∧ f.getD 2 false = (Pl.peF (List.drop i.toNat l) s f).getD 2 false ∧ f.getD 3 false = (Pl.peF (List.drop i.toNat l) s f).getD 3 false ∧ f.getD 4 false = (Pl.peF (List.drop i.toNat l) s f).getD 4 false ∧ f.getD 5 false = (Pl.peF (List.drop i.toNat l) s f).getD 5 false ∧ f.getD 6 false = (Pl.peF (List.drop i.toNat l) s f).getD 6 false ∧ f.getD 7 false = (Pl.peF (List.drop i.toNat l) s f).getD 7 false) (
  .leaf (Option.none))) : Tree (Option Pl.APe)) := by kernel_rfl
structure APf where
  f : List Bool
  i : Int
  o : List Int
def LPf : LoopC APf where
  n0 := 3
  det st := match datA st 27 (.rep 8 .bool), intS st 28, rowS st 8 i64 with | some f, some i, some o => some ⟨f, i, o⟩ | _, _, _ => none
  rows := [(3, .slot 8)]
  inv a := ⟨[(28, iv a.i), (27, Tv.agg [SV.bool (a.f.getD 0 false), SV.bool (a.f.getD 1 false), SV.bool (a.f.getD 2 false), SV.bool (a.f.getD 3 false), SV.bool (a.f.getD 4 false), SV.bool (a.f.getD 5 false), SV.bool (a.f.getD 6 false), SV.bool (a.f.getD 7 false)]), (8, .one (.row 3))], [(3, .own i64 a.o)], 4⟩
  ok a := 0 ≤ a.i ∧ a.i ≤ 8 ∧ (a.o.length : Int) ≤ a.i ∧ a.f.length = 8
  mu a := 8 - a.i.toNat
  fin a := .leaf ⟨4, ⟨[(8, .one (.row 3))], [(3, .own i64 (a.o ++ fltB (fun k => a.f.getD k false) (8 - a.i.toNat) a.i.toNat))], 4⟩⟩
theorem rPf (f : List Bool) (i : Int) (o : List Int) : @Eq _
  (LPf.round X0 [] 100 Try.f14 1 ⟨f, i, o⟩)
  (.fork (decide (i < (8 : Int))) (
 .req ((0 : Int) ≤ i ∧ i < (8 : Int)) (
  .fork ((tab 8 f false).getD i.toNat false) (
   .req ((o.length + 1) * 9 ≤ 70368744177664) (
    .req (IntKind.i64.wrap (i + (1 : Int)) = IntKind.i64.wrap (i + (1 : Int)) ∧ f.getD 0 false = (tab 8 f false).getD 0 false ∧ f.getD 1 false = (tab 8 f false).getD 1 false ∧ f.getD 2 false = (tab 8 f false).getD 2 false ∧ f.getD 3 false = (tab 8 f false).getD 3 false ∧ f.getD 4 false = (tab 8 f false).getD 4 false ∧ f.getD 5 false = (tab 8 f false).getD 5 false ∧ f.getD 6 false = (tab 8 f false).getD 6 false ∧ f.getD 7 false = (tab 8 f false).getD 7 false ∧ o ++ [i] = o ++ [i]) (
     .leaf (Option.some { f := tab 8 f false, i := IntKind.i64.wrap (i + (1 : Int)), o := o ++ [i] })))) (
   .req (IntKind.i64.wrap (i + (1 : Int)) = IntKind.i64.wrap (i + (1 : Int)) ∧ f.getD 0 false = (tab 8 f false).getD 0 false ∧ f.getD 1 false = (tab 8 f false).getD 1 false ∧ f.getD 2 false = (tab 8 f false).getD 2 false ∧ f.getD 3 false = (tab 8 f false).getD 3 false ∧ f.getD 4 false = (tab 8 f false).getD 4 false ∧ f.getD 5 false = (tab 8 f false).getD 5 false ∧ f.getD 6 false = (tab 8 f false).getD 6 false ∧ f.getD 7 false = (tab 8 f false).getD 7 false ∧ o = o) (
    .leaf (Option.some { f := tab 8 f false, i := IntKind.i64.wrap (i + (1 : Int)), o := o }))))) (
 .req (o = o ++ fltB (fun k => f.getD k false) (8 - i.toNat) i.toNat) (
  .leaf (Option.none))) : Tree (Option Pl.APf)) := by kernel_rfl
theorem tPe (l : List Int) (s : Int) : @Eq _
  (fnT X0 [(0, LPe.sp), (1, viaP [(8, i64)] LPf.sp)] 100 Try.f14 [ints, i64] [ints] (l, s, ()))
  (.req ((0 : Int) ≤ (0 : Int) ∧ (0 : Int) ≤ (↑l.length : Int) ∧ (↑l.length : Int) < (4611686018427387904 : Int) ∧ 8 = 8) (
 .req ((0 : Int) = (0 : Int) ∧ (↑l.length : Int) = (↑l.length : Int) ∧ s = s ∧ false = false ∧ false = false ∧ false = false ∧ false = false ∧ false = false ∧ false = false ∧ false = false ∧ false = false ∧ l = l) (
  .req ((0 : Int) ≤ (0 : Int) ∧ (0 : Int) ≤ (8 : Int) ∧ (0 : Int) ≤ (0 : Int) ∧ 8 = 8) (
   .req ((0 : Int) = (0 : Int) ∧ (Pl.peF l s (List.replicate 8 false)).getD 0 false = (tab 8 (Pl.peF l s (List.replicate 8 false)) false).getD 0 false ∧ (Pl.peF l s (List.replicate 8 false)).getD 1 false = (tab 8 (Pl.peF l s (List.replicate 8 false)) false).getD 1 false ∧ (Pl.peF l s (List.replicate 8 false)).getD 2 false = (tab 8 (Pl.peF l s (List.replicate 8 false)) false).getD 2 false ∧ (Pl.peF l s (List.replicate 8 false)).getD 3 false = (tab 8 (Pl.peF l s (List.replicate 8 false)) false).getD 3 false ∧ (Pl.peF l s (List.replicate 8 false)).getD 4 false = (tab 8 (Pl.peF l s (List.replicate 8 false)) false).getD 4 false ∧ (Pl.peF l s (List.replicate 8 false)).getD 5 false = (tab 8 (Pl.peF l s (List.replicate 8 false)) false).getD 5 false ∧ (Pl.peF l s (List.replicate 8 false)).getD 6 false = (tab 8 (Pl.peF l s (List.replicate 8 false)) false).getD 6 false ∧ (Pl.peF l s (List.replicate 8 false)).getD 7 false = (tab 8 (Pl.peF l s (List.replicate 8 false)) false).getD 7 false ∧ ([] : List Int) = ([] : List Int)) (
    .leaf ((([] : List Int) ++ fltB (fun k => (tab 8 (Pl.peF l s (List.replicate 8 false)) false).getD k false) 8 0, ())))))) : Tree (List Int × PUnit)) := by kernel_rfl
theorem bodyPe : Try.f14.body = some (bodyOf Try.f14) := by kernel_rfl
theorem bodyR7 : Try.f25.body = some (bodyOf Try.f25) := by kernel_rfl
theorem tR7 (l : List Int) (i : Int) : @Eq _
  (fnT E0 [] 100 Try.f25 [ints, i64] [i64] (l, i, ()))
  (.fork (decide (i < (↑l.length : Int))) (
 .req ((0 : Int) ≤ i ∧ i < (↑l.length : Int)) (
  .req ((0 : Int) ≤ i ∧ i < (↑l.length : Int)) (
   .leaf ((l.getD i.toNat (0 : Int), ()))))) (
 .leaf (((-1 : Int), ()))) : Tree (Int × PUnit)) := by kernel_rfl
end Pl
namespace Pl
open Go Sx Go.Proofs Go.RowKit
theorem r7_t (l : List Int) (i : Int) (h : 0 ≤ i) : (fnT E0 [] 100 Try.f25 [ints, i64] [i64] (l, i, ())).all fun y => y = (atL l i, ()) := by
  rw [tR7]
  simp only [Tree.all, true_and, and_true, decide_eq_true_eq, decide_eq_false_iff_not, atL]
  refine ⟨fun c => ⟨⟨h, c⟩, ⟨h, c⟩, ?_⟩, fun c => ?_⟩
  · rw [if_pos c]
  · rw [if_neg c]
theorem r7_ok : PureOK Try.prog 25 [ints, i64] [i64] (fun x => 0 ≤ x.2.1) (fun x => (atL x.1 x.2.1, ())) :=
  fn_pure (E := E0) (n := 100) E0_ok Try.func25 bodyR7 .nil fun x h => r7_t x.1 x.2.1 h
abbrev KR7 : Nat × Sx.Spec := (25, pureSp [ints, i64] [i64] (fun x => 0 ≤ x.2.1) (fun x => (atL x.1 x.2.1, ())))
noncomputable abbrev X1 : Ex := mkEx Try.prog [KR7]
theorem X1_ok : X1.Sound := mkEx_sound ⟨pureSp_ok r7_ok, trivial⟩
theorem bodyMv : Try.f20.body = some (bodyOf Try.f20) := by kernel_rfl
theorem rMv (l m : List Int) (i0 i1 : Int) : @Eq _
  (LMo.round X1 [] 100 Try.f20 0 ⟨l, m, i0, i1⟩)
  (.fork (decide (i0 < (16 : Int))) (
 .req ((0 : Int) ≤ i0) (
  .req ((0 : Int) ≤ i0) (
   .fork (Pl.atL l i0 != Pl.atL m i0) (
    .req (IntKind.i64.wrap (i0 + (1 : Int)) = IntKind.i64.wrap (i0 + (1 : Int)) ∧ IntKind.i64.wrap (i1 + (1 : Int)) = IntKind.i64.wrap (i1 + (1 : Int)) ∧ l = l ∧ m = m) (
     .leaf (Option.some { l := l, m := m, i0 := IntKind.i64.wrap (i0 + (1 : Int)), i1 := IntKind.i64.wrap (i1 + (1 : Int)) }))) (
    .req (IntKind.i64.wrap (i0 + (1 : Int)) = IntKind.i64.wrap (i0 + (1 : Int)) ∧ i1 = i1 ∧ l = l ∧ m = m) (
     .leaf (Option.some { l := l, m := m, i0 := IntKind.i64.wrap (i0 + (1 : Int)), i1 := i1 })))))) (
 .req (i1 = i1 + cntB (fun p => !Pl.atL l (↑p : Int) == Pl.atL m (↑p : Int)) (16 - i0.toNat) i0.toNat) (
  .leaf (Option.none))) : Tree (Option Pl.AMo)) := by kernel_rfl
theorem tMv (l m : List Int) : @Eq _
  (fnT X1 [(0, LMo.sp)] 100 Try.f20 [ints, ints] [i64] (l, m, ()))
  (.req ((0 : Int) ≤ (0 : Int) ∧ (0 : Int) ≤ (16 : Int) ∧ (0 : Int) ≤ (0 : Int) ∧ (0 : Int) ≤ (0 : Int)) (
 .req ((0 : Int) = (0 : Int) ∧ (0 : Int) = (0 : Int) ∧ l = l ∧ m = m) (
  .leaf (((0 : Int) + cntB (fun p => !Pl.atL l (↑p : Int) == Pl.atL m (↑p : Int)) 16 0, ())))) : Tree (Int × PUnit)) := by kernel_rfl
theorem getD_setG {α : Type} (l : List α) (z : α) (k i : Nat) (v : α) (h : k < l.length) : (l.set k v).getD i z = if i = k then v else l.getD i z := by
  by_cases e : i = k
  · subst e; simp [h]
  · rw [if_neg e]; simp [List.getElem?_set, Ne.symm e]
theorem peF_len (l : List Int) (s : Int) (f : List Bool) : (peF l s f).length = 8 := tabL_len _ _
theorem lPe : ∀ st out, (LPe.sp st).reach out → CodeOK Try.prog Try.f14.ntmps (.loop (loopAt (bodyOf Try.f14) 0)) st out := by
  refine LPe.sound X0_ok (lps := []) (n := 100) (inner rfl) (fun _ => rfl) ?_
  rintro ⟨l, s, i, f⟩ ⟨h1, h2, h3, h4⟩
  simp only at h1 h2 h3 h4
  rw [rPe, tab_eq h4]
  simp only [all_leaf, all_fork, all_req, conjP, and_true, decide_eq_true_eq, decide_eq_false_iff_not]
  refine ⟨fun c => ⟨⟨h1, c⟩, ⟨h1, c⟩, trivial, fun d => ?_, fun d => ?_⟩, fun c => ⟨?_, trivial⟩⟩
  · simp only [Bool.and_eq_true, decide_eq_true_eq, bne_iff_ne, ne_eq] at d
    refine ⟨⟨by omega, by omega⟩, ⟨by omega, by omega⟩, by repeat' (first | exact trivial | rfl | apply And.intro), ?_⟩
    rw [i64_inc (by omega) (by unfold big at h3; omega), tabL_put h4 (by omega)]
    refine ⟨⟨by dsimp only; omega, by dsimp only; omega, h3, by simp [h4]⟩, by simp only [LPe]; omega, ?_⟩
    simp only [LPe]
    have : peF (l.drop (i + 1).toNat) s (f.set (l.getD i.toNat 0).toNat true) = peF (l.drop i.toNat) s f := by
      refine ext_getD false (by rw [peF_len, peF_len]) fun k hk => ?_
      rw [peF_len] at hk
      unfold peF
      rw [tabL_getD _ _ _ hk, tabL_getD _ _ _ hk, drop_cons (l := l) 0 h1 c, List.contains_cons]
      by_cases e : k = (l.getD i.toNat 0).toNat
      · subst e
        have e1 : (((l.getD i.toNat 0).toNat : Nat) : Int) = l.getD i.toNat 0 := by omega
        rw [e1, beq_self_eq_true, beq_eq_false_iff_ne.2 d.2.2]
        have : (f.set (l.getD i.toNat 0).toNat true).getD (l.getD i.toNat 0).toNat false = true := by
          rw [getD_setG _ _ _ _ _ (by omega), if_pos rfl]
        rw [this]; simp
      · have e1 : ((k : Int) == l.getD i.toNat 0) = false := beq_eq_false_iff_ne.2 (by omega)
        rw [e1, Bool.false_or]
        have : (f.set (l.getD i.toNat 0).toNat true).getD k false = f.getD k false := by
          rw [getD_setG _ _ _ _ _ (by omega), if_neg e]
        rw [this]
    rw [this]
  · refine ⟨by repeat' (first | exact trivial | rfl | apply And.intro), ?_⟩
    rw [i64_inc (by omega) (by unfold big at h3; omega)]
    refine ⟨⟨by dsimp only; omega, by dsimp only; omega, h3, h4⟩, by simp only [LPe]; omega, ?_⟩
    simp only [LPe]
    have : peF (l.drop (i + 1).toNat) s f = peF (l.drop i.toNat) s f := by
      refine ext_getD false (by rw [peF_len, peF_len]) fun k hk => ?_
      rw [peF_len] at hk
      unfold peF
      rw [tabL_getD _ _ _ hk, tabL_getD _ _ _ hk, drop_cons (l := l) 0 h1 c, List.contains_cons]
      by_cases e : (k : Int) = l.getD i.toNat 0
      · rw [← e] at d ⊢
        rw [decide_eq_true (by omega : (k : Int) ≥ 0), decide_eq_true (by omega : (k : Int) < 8)] at d
        have e2 : ((k : Int) == s) = true := by simpa using d
        rw [e2]; simp
      · rw [beq_eq_false_iff_ne.2 e, Bool.false_or]
    rw [this]
  · rw [drop_end c]
    have : peF [] s f = f := by
      refine ext_getD false (by rw [peF_len, h4]) fun k hk => ?_
      rw [peF_len] at hk
      unfold peF
      rw [tabL_getD _ _ _ hk]; simp
    rw [this]; repeat' (first | exact trivial | rfl | apply And.intro)
theorem lPf : ∀ st out, (LPf.sp st).reach out → CodeOK Try.prog Try.f14.ntmps (.loop (loopAt (bodyOf Try.f14) 1)) st out := by
  refine LPf.sound X0_ok (lps := []) (n := 100) (inner rfl) (fun _ => rfl) ?_
  rintro ⟨f, i, o⟩ ⟨h1, h2, h3, h4⟩
  simp only at h1 h2 h3 h4
  rw [rPf, tab_eq h4]
  simp only [all_leaf, all_fork, all_req, conjP, and_true, decide_eq_true_eq, decide_eq_false_iff_not]
  refine ⟨fun c => ⟨⟨h1, c⟩, fun d => ⟨by omega, by repeat' (first | exact trivial | rfl | apply And.intro), ?_⟩, fun d => ⟨by repeat' (first | exact trivial | rfl | apply And.intro), ?_⟩⟩, fun c => ⟨?_, trivial⟩⟩
  · rw [i64_inc (by omega) (by omega)]
    refine ⟨⟨by dsimp only; omega, by dsimp only; omega, by simp only [List.length_append, List.length_cons, List.length_nil]; omega, h4⟩, by simp only [LPf]; omega, ?_⟩
    simp only [LPf]
    rw [fltB_step _ h1 c, if_pos d]; simp
  · rw [i64_inc (by omega) (by omega)]
    refine ⟨⟨by dsimp only; omega, by dsimp only; omega, by dsimp only; omega, h4⟩, by simp only [LPf]; omega, ?_⟩
    simp only [LPf]
    rw [fltB_step _ h1 c, if_neg (by rw [d]; decide)]
  · rw [fltB_end _ c]; simp
theorem rep_f (k : Nat) (h : k < 8) : (List.replicate 8 false).getD k false = false := by
  revert k; decide
theorem peers_t (l : List Int) (h : (l.length : Int) < big) : (fnT X0 [(0, LPe.sp), (1, viaP [(8, i64)] LPf.sp)] 100 Try.f14 [ints, i64] [ints] (l, -1, ())).all fun y => y = (memL l, ()) := by
  rw [tPe, tab_eq (peF_len _ _ _)]
  show Tree.all (α := List Int × Unit) _ (fun y => y = (memL l, ()))
  simp only [all_leaf, all_req]
  refine ⟨⟨by omega, by omega, h, trivial⟩, ?_, ?_, ?_, ?_⟩
  · repeat' (first | exact trivial | rfl | apply And.intro)
  · simp; trace_state
  · repeat' (first | exact trivial | rfl | apply And.intro)
  have : fltB (fun k => (peF l (-1) (List.replicate 8 false)).getD k false) 8 0 = memL l := fltB_congr _ _ 8 0 fun k _ hk => by
    unfold peF
    rw [tabL_getD _ _ _ (by omega), rep_f _ (by omega), beq_eq_false_iff_ne.2 (by omega)]; simp
  rw [List.nil_append, this]
end Pl
