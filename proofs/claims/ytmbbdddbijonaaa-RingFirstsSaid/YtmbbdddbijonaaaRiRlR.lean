import Derived.Test.YtmbbdddbijonaaaRiRk
namespace Pl
open Go Sx Go.Proofs Go.RowKit
noncomputable abbrev VR : Ex := mkExM Try.prog [KAw, KHv, KrB, KrM, KrS, KrRL]
theorem VR_ok : VR.Sound := mkExM_sound ⟨pureSp_ok aw_ok, fnI_ok (E := E0) E0_ok Try.func8 bodyH .nil, pureSp_ok rbelow_ok, pureSp_ok rmay_ok, pureSp_ok rsame_ok, pureSpL_ok rrise_ok, trivial⟩
theorem bodyRR : Try.f4.body = some (bodyOf Try.f4) := by kernel_rfl
theorem tRR (r : RingD) (n s : Int) : @Eq _
  (fnT VR [] 100 Try.f4 [Ring, i64, i64] [.bool] (r, n, s, ()))
  (.fork (decide ((↑r.2.1.2.2.length : Int) > (100 : Int))) (
 .req (True) (
  .leaf ((true, ())))) (
 .req ((8 = 8 ∧ 16 = 16) ∧ (↑r.2.1.2.2.length : Int) < (17592186044416 : Int)) (
  .lt [(Ty.rep 8 (Ty.int IntKind.i64)).cat
    (((Ty.int IntKind.i64).cat ((Ty.int IntKind.i64).cat (Ty.int IntKind.i64).slice)).cat
      (Ty.rep 16 ((Ty.int IntKind.i64).cat (Ty.int IntKind.i64)))),
  Ty.int IntKind.i64] (((Pl.riseR (tab 8 r.1 (0 : Int), r.2.1, tab 16 r.2.2 ((0 : Int), (0 : Int))) n s).1, (Pl.riseR (tab 8 r.1 (0 : Int), r.2.1, tab 16 r.2.2 ((0 : Int), (0 : Int))) n s).2, ())) (fun (y1 : (List Int × (Int × Int × List Int) × List (Int × Int)) × Int × PUnit) => (
   .req (True) (
    .fork (decide (n < (0 : Int)) || decide (n ≥ (8 : Int))) (
     .req (((8 = 8 ∧ 16 = 16) ∧ (8 = 8 ∧ 16 = 16) ∧ (↑y1.1.2.1.2.2.length : Int) < (17592186044416 : Int) ∧ (0 : Int) < (17592186044416 : Int)) ∧ (Pl.sameR (tab 8 y1.1.1 (0 : Int), y1.1.2.1, tab 16 y1.1.2.2 ((0 : Int), (0 : Int))) (List.replicate 8 (0 : Int), ((0 : Int), (0 : Int), ([] : List Int)), List.replicate 16 ((0 : Int), (0 : Int))) = true → conjP (((y1.2.1 == (1 : Int)) = true → conjP [True]) :: ([] : List Prop)))) (
      .leaf ((Pl.sameR (tab 8 y1.1.1 (0 : Int), y1.1.2.1, tab 16 y1.1.2.2 ((0 : Int), (0 : Int))) (List.replicate 8 (0 : Int), ((0 : Int), (0 : Int), ([] : List Int)), List.replicate 16 ((0 : Int), (0 : Int))) && (y1.2.1 == (1 : Int) && true), ())))) (
     .fork (y1.2.1 != (0 : Int)) (
      .req (((8 = 8 ∧ 16 = 16) ∧ (8 = 8 ∧ 16 = 16) ∧ (↑y1.1.2.1.2.2.length : Int) < (17592186044416 : Int) ∧ (0 : Int) < (17592186044416 : Int)) ∧ (Pl.sameR (tab 8 y1.1.1 (0 : Int), y1.1.2.1, tab 16 y1.1.2.2 ((0 : Int), (0 : Int))) (List.replicate 8 (0 : Int), ((0 : Int), (0 : Int), ([] : List Int)), List.replicate 16 ((0 : Int), (0 : Int))) = true → conjP [(y1.2.1 == (1 : Int)) = true → conjP [True], (y1.2.1 == (1 : Int)) = false → conjP (((y1.2.1 == (8 : Int)) = true → conjP [(0 : Int) ≤ n ∧ n < (8 : Int), (0 : Int) ≤ n ∧ n < (8 : Int), decide ((tab 8 r.1 (0 : Int)).getD n.toNat (0 : Int) ≥ s) = true → conjP [True]]) :: ([] : List Prop))])) (
       .leaf ((Pl.sameR (tab 8 y1.1.1 (0 : Int), y1.1.2.1, tab 16 y1.1.2.2 ((0 : Int), (0 : Int))) (List.replicate 8 (0 : Int), ((0 : Int), (0 : Int), ([] : List Int)), List.replicate 16 ((0 : Int), (0 : Int))) && bif y1.2.1 == (1 : Int) then true else y1.2.1 == (8 : Int) && (decide ((tab 8 r.1 (0 : Int)).getD n.toNat (0 : Int) ≥ s) && true), ())))) (
      .req ((0 : Int) ≤ n ∧ n < (8 : Int)) (
       .req ((0 : Int) ≤ n ∧ n < (8 : Int)) (
        .req ((8 = 8 ∧ 16 = 16) ∧ (↑y1.1.2.1.2.2.length : Int) < (17592186044416 : Int)) (
         .lt [(Ty.rep 8 (Ty.int IntKind.i64)).cat
    (((Ty.int IntKind.i64).cat ((Ty.int IntKind.i64).cat (Ty.int IntKind.i64).slice)).cat
      (Ty.rep 16 ((Ty.int IntKind.i64).cat (Ty.int IntKind.i64)))),
  Ty.int IntKind.i64] (((Pl.riseR (tab 8 y1.1.1 (0 : Int), y1.1.2.1, tab 16 y1.1.2.2 ((0 : Int), (0 : Int))) n s).1, (Pl.riseR (tab 8 y1.1.1 (0 : Int), y1.1.2.1, tab 16 y1.1.2.2 ((0 : Int), (0 : Int))) n s).2, ())) (fun (y2 : (List Int × (Int × Int × List Int) × List (Int × Int)) × Int × PUnit) => (
          .req (((8 = 8 ∧ 16 = 16) ∧ (↑y1.1.2.1.2.2.length : Int) < (17592186044416 : Int)) ∧ (Pl.mayR (tab 8 y1.1.1 (0 : Int), y1.1.2.1, tab 16 y1.1.2.2 ((0 : Int), (0 : Int))) = true → conjP [(8 = 8 ∧ 16 = 16) ∧ (8 = 8 ∧ 16 = 16) ∧ (↑r.2.1.2.2.length : Int) < (17592186044416 : Int) ∧ (↑y1.1.2.1.2.2.length : Int) < (17592186044416 : Int), Pl.belowR (tab 8 r.1 (0 : Int), r.2.1, tab 16 r.2.2 ((0 : Int), (0 : Int))) (tab 8 y1.1.1 (0 : Int), y1.1.2.1, tab 16 y1.1.2.2 ((0 : Int), (0 : Int))) = true → conjP [(8 = 8 ∧ 16 = 16) ∧ (8 = 8 ∧ 16 = 16) ∧ (↑y1.1.2.1.2.2.length : Int) < (17592186044416 : Int) ∧ (↑r.2.1.2.2.length : Int) < (17592186044416 : Int), (!Pl.belowR (tab 8 y1.1.1 (0 : Int), y1.1.2.1, tab 16 y1.1.2.2 ((0 : Int), (0 : Int))) (tab 8 r.1 (0 : Int), r.2.1, tab 16 r.2.2 ((0 : Int), (0 : Int)))) = true → conjP [(8 = 8 ∧ 16 = 16) ∧ (8 = 8 ∧ 16 = 16) ∧ (↑y1.1.2.1.2.2.length : Int) < (17592186044416 : Int) ∧ (↑r.2.1.2.2.length : Int) < (17592186044416 : Int), Pl.sameR (tab 8 y1.1.1 (0 : Int), y1.1.2.1, tab 16 y1.1.2.2 ((0 : Int), (0 : Int))) (tabL 8 fun j => bif decide (n = j) then s else r.1.getD j (0 : Int), r.2.1, tab 16 r.2.2 ((0 : Int), (0 : Int))) = true → conjP (((y2.2.1 == (8 : Int)) = true → conjP [True]) :: ([] : List Prop))]]])) (
           .leaf ((Pl.mayR (tab 8 y1.1.1 (0 : Int), y1.1.2.1, tab 16 y1.1.2.2 ((0 : Int), (0 : Int))) && (Pl.belowR (tab 8 r.1 (0 : Int), r.2.1, tab 16 r.2.2 ((0 : Int), (0 : Int))) (tab 8 y1.1.1 (0 : Int), y1.1.2.1, tab 16 y1.1.2.2 ((0 : Int), (0 : Int))) && (!Pl.belowR (tab 8 y1.1.1 (0 : Int), y1.1.2.1, tab 16 y1.1.2.2 ((0 : Int), (0 : Int))) (tab 8 r.1 (0 : Int), r.2.1, tab 16 r.2.2 ((0 : Int), (0 : Int))) && (Pl.sameR (tab 8 y1.1.1 (0 : Int), y1.1.2.1, tab 16 y1.1.2.2 ((0 : Int), (0 : Int))) (tabL 8 fun j => bif decide (n = j) then s else r.1.getD j (0 : Int), r.2.1, tab 16 r.2.2 ((0 : Int), (0 : Int))) && (y2.2.1 == (8 : Int) && true)))), ()))))))))))))))) : Tree (Bool × PUnit)) := by kernel_rfl
theorem rise_cases (r : RingD) (n s : Int) : riseR r n s = (zeroR, 1) ∨ (riseR r n s = (zeroR, 8) ∧ nodeB n = true ∧ r.1.getD n.toNat 0 ≥ s) ∨
    (riseR r n s = ((r.1.set n.toNat s, r.2.1, r.2.2), 0) ∧ mayR r = true ∧ nodeB n = true ∧ stB s = true ∧ 1 ≤ s ∧ r.1.getD n.toNat 0 < s) := by
  unfold riseR
  split
  · rename_i h
    simp only [Bool.and_eq_true, Bool.not_eq_true', decide_eq_false_iff_not] at h
    split
    · rename_i h2; exact .inr (.inl ⟨rfl, h.2.1, of_decide_eq_true h2⟩)
    · rename_i h2
      have h3 : ¬ r.1.getD n.toNat 0 ≥ s := fun h => h2 (decide_eq_true h)
      refine .inr (.inr ⟨rfl, h.1, h.2.1, ?_, by omega, by omega⟩)
      have h4 : ¬ s < 0 := by omega
      simp [stB, h4]; omega
  · exact .inl rfl
theorem zeroR_ok : okR zeroR := ⟨rfl, rfl⟩
theorem zeroR_eq : (List.replicate 8 (0 : Int), ((0 : Int), (0 : Int), ([] : List Int)), List.replicate 16 ((0 : Int), (0 : Int))) = zeroR := rfl
theorem set_ok {r : RingD} (h : okR r) (k : Nat) (s : Int) : okR (r.1.set k s, r.2.1, r.2.2) := ⟨by simpa using h.1, h.2⟩
theorem getD_set {xs : List Int} {k j : Nat} {s : Int} (h : k < xs.length) : (xs.set k s).getD j 0 = if k = j then s else xs.getD j 0 := by
  simp only [List.getD_eq_getElem?_getD, List.getElem?_set]
  split
  · rename_i e; subst e; simp [h]
  · rfl
theorem tabL_self {α : Type} {n : Nat} {xs : List α} {z : α} (h : xs.length = n) : tabL n (fun j => xs.getD j z) = xs := by
  have := tabL_map (xs := xs) (z := z) (g := fun x => x) h
  simpa using this
theorem rise_below {r : RingD} (h : okR r) {k : Nat} {s : Int} (hk : k < 8) (hs : r.1.getD k 0 < s) : joinR r (r.1.set k s, r.2.1, r.2.2) = (r.1.set k s, r.2.1, r.2.2) ∧ joinR (r.1.set k s, r.2.1, r.2.2) r ≠ r := by
  constructor
  · unfold joinR
    dsimp only
    rw [join_self]
    congr 1
    · rw [← tabL_self (n := 8) (xs := r.1.set k s) (z := 0) (by simpa using h.1)]
      refine tabL_congr fun j hj => ?_
      rw [tabL_self (n := 8) (by simpa using h.1), getD_set (by rw [h.1]; exact hk)]
      split
      · rename_i e; subst e; unfold mxI; rw [if_pos (by omega)]
      · exact mxI_self _
    · congr 1
      simp only [joinE_self]
      exact tabL_self h.2
  · intro e
    have e1 := congrArg (fun q : RingD => q.1.getD k 0) e
    rw [getS _ _ hk] at e1
    dsimp only at e1
    rw [getD_set (by rw [h.1]; exact hk), if_pos rfl] at e1
    unfold mxI at e1
    rw [if_neg (by omega)] at e1
    omega
theorem mayR_set {r : RingD} (h : okR r) (hm : mayR r = true) {k : Nat} {s : Int} (hs : stB s = true) : mayR (r.1.set k s, r.2.1, r.2.2) = true := by
  rw [mayR_iff h] at hm
  rw [mayR_iff (set_ok h k s)]
  simp only [Bool.and_eq_true, List.all_eq_true] at *
  refine ⟨fun x hx => ?_, hm.2⟩
  rcases List.mem_or_eq_of_mem_set hx with h1 | h1
  · exact hm.1 x h1
  · rw [h1]; exact hs
theorem rises_t (r : RingD) (n s : Int) (h : okR r) : (fnT VR [] 100 Try.f4 [Ring, i64, i64] [.bool] (r, n, s, ())).all fun y => y = (true, ()) := by
  refine Tree.all_eq (tRR r n s) ?_
  show Tree.all (α := Bool × Unit) _ Yes
  simp only [all_leaf, all_fork, all_req, all_lt, yes_t, yes_f, yes_iff, tab_r h, decide_eq_true_eq, decide_eq_false_iff_not, true_and, and_true, implies_true, zeroR_eq]
  refine fun c1 => ?_
  have a1 : (r.2.1.2.2.length : Int) < 17592186044416 := by omega
  have a2 : (0 : Int) < 17592186044416 := by omega
  rcases rise_cases r n s with e | ⟨e, hn, hr⟩ | ⟨e, hm, hn, hs, hs1, hlt⟩
  · rw [e]
    dsimp only
    simp only [tab_r zeroR_ok, sameR_self, conjP, a1, a2, true_and, and_true, implies_true, and_self]
    have z1 : (zeroR.2.1.2.2.length : Int) < 17592186044416 := by simp [zeroR]
    simp [z1]
  · have hb := nodeB_iff.1 hn
    rw [e]
    dsimp only
    simp only [tab_r zeroR_ok, tab_eq h.1, sameR_self, conjP, a1, a2, true_and, and_true, implies_true, and_self]
    have z1 : (zeroR.2.1.2.2.length : Int) < 17592186044416 := by simp [zeroR]
    simp only [show ¬ n < 0 by omega, show ¬ n ≥ 8 by omega, decide_false, Bool.or_false, Bool.false_eq_true, false_implies, true_and, z1, decide_eq_true hr]
    simp
    omega
  · have hb := nodeB_iff.1 hn
    have hk : n.toNat < 8 := by omega
    obtain ⟨b1, b2⟩ := rise_below h hk hlt
    have e2 : riseR (r.1.set n.toNat s, r.2.1, r.2.2) n s = (zeroR, 8) := by
      unfold riseR
      rw [mayR_set h hm hs, hn]
      have h1 : ¬ s < 1 := by omega
      have h2 : ¬ s > 4 := by simp [stB] at hs; omega
      have h3 : (r.1.set n.toNat s).getD n.toNat 0 ≥ s := by
        rw [getD_set (by rw [h.1]; exact hk), if_pos rfl]; omega
      simp [h1, h2]
      simpa using h3
    have e3 : belowR (r.1.set n.toNat s, r.2.1, r.2.2) r = false := by
      rw [← Bool.not_eq_true, belowR_iff]; exact b2
    rw [e]
    have ho := set_ok h n.toNat s
    have ht := tab_r ho
    dsimp only at ht ⊢
    rw [ht, e2, mayR_set h hm hs, belowR_iff.2 b1, e3, tabL_put h.1 hb.1, tab_eq h.2]
    simp only [show ¬ n < 0 by omega, show ¬ n ≥ 8 by omega, decide_false, Bool.or_false, Bool.false_eq_true, false_implies, true_and, sameR_self, conjP, a1]
    simp
    omega
theorem rises_ok : PureOK Try.prog 4 [Ring, i64, i64] [.bool] (fun x => okR x.1) (fun _ => (true, ())) :=
  fn_pure (E := VR) (n := 100) VR_ok Try.func4 bodyRR .nil fun x h => rises_t x.1 x.2.1 x.2.2.1 h
end Pl
