import Derived.Test.YtmgglkmpkhdclaaDoorHeHf4
namespace Pl
open Go Sx Go.Proofs Go.RowKit
theorem rmay_ok : PureOK Tryd.prog 17 [Claim] [.bool] (fun _ => True) (fun x => (mayC x.1, ())) :=
  fn_pure (E := U1) (n := 100) U1_ok Tryd.func17 rb3 .nil fun x _ => by
    obtain ⟨c, _⟩ : ClaimD × Unit := x
    refine Tree.all_eq (rtM c) ?_
    show Tree.all (α := Bool × Unit) _ (fun y => y = (mayC c, ()))
    have key : ∀ v : Bool, (v = true ↔ (0 ≤ c.1 ∧ c.1 < 8) ∧ ((c.2.2 = 0 ∧ c.2.1 = 0) ∨ (0 ≤ c.2.1 ∧ c.2.1 ≤ 1000000 ∧ 1 ≤ c.2.2 ∧ c.2.2 ≤ 4))) → (v, ()) = (mayC c, ()) := fun v h => by
      have : v = mayC c := by rw [Bool.eq_iff_iff, mayC_iff]; exact h
      rw [this]
    simp only [all_leaf, all_fork, decide_eq_true_eq, decide_eq_false_iff_not, beq_iff_eq, beq_eq_false_iff_ne, ne_eq]
    refine ⟨fun a => ⟨fun b => ⟨fun d => ⟨fun e => key _ ?_, fun e => ⟨fun f => ⟨fun g => ⟨fun h => key _ ?_, fun h => key _ ?_⟩, fun g => key _ ?_⟩, fun f => key _ ?_⟩⟩, fun d => ⟨fun f => ⟨fun g => ⟨fun h => key _ ?_, fun h => key _ ?_⟩, fun g => key _ ?_⟩, fun f => key _ ?_⟩⟩, fun b => key _ ?_⟩, fun a => key _ ?_⟩
    all_goals first
      | (rw [decide_eq_true_iff]; omega)
      | exact ⟨fun _ => by omega, fun _ => rfl⟩
      | exact ⟨fun g => Bool.noConfusion g, fun g => by omega⟩
theorem rcmp_ok : PureOK Tryd.prog 16 [Claim, Claim] [i64] (fun _ => True) (fun x => (cmpC x.1 x.2.1, ())) :=
  fn_pure (E := U2) (n := 100) U2_ok Tryd.func16 (by kernel_rfl) .nil fun x _ => by
    obtain ⟨a, b, _⟩ : ClaimD × ClaimD × Unit := x
    refine Tree.all_eq (rtC a b) ?_
    show Tree.all (α := Int × Unit) _ (fun y => y = (cmpC a b, ()))
    have key : ∀ v : Int, v = cmpC a b → (v, ()) = (cmpC a b, ()) := fun v h => by rw [h]
    simp only [all_leaf, all_fork, all_req, true_and, Bool.and_eq_true, Bool.and_eq_false_iff, beq_iff_eq, beq_eq_false_iff_ne, bne_iff_ne, bne_eq_false_iff_eq, ne_eq, Bool.cond_decide]
    refine ⟨fun h => key _ ?_, fun h => ⟨fun k => key _ ?_, fun k => ⟨fun l => key _ ?_, fun l => ⟨fun m => key _ ?_, fun m => key _ ?_⟩⟩⟩⟩
    all_goals unfold cmpC leftI cmpI
    · rw [if_pos h.1, if_pos h.2]; rfl
    · have hb : ¬ b.2.2 = 4 := h.elim (fun g => absurd k g) id
      rw [if_pos k, if_neg hb]; rfl
    · rw [if_neg k, if_pos l]; rfl
    · rw [if_neg k, if_neg l]
      repeat' split
      all_goals omega
    · rw [if_neg k, if_neg l]
      repeat' split
      all_goals omega
theorem U3_ok : U3.Sound := mkExM_sound ⟨pureSp_ok rmay_ok, fnI_ok (E := E0) E0_ok Tryd.func12 rb1 .nil, trivial⟩
theorem rref_ok : PureOK Tryd.prog 15 [i64, i64, Claim] [i64, i64] (fun _ => True) (fun x => ((refC x.1 x.2.1 x.2.2.1).1, (refC x.1 x.2.1 x.2.2.1).2, ())) :=
  fn_pure (E := U3) (n := 100) U3_ok Tryd.func15 (by kernel_rfl) .nil fun x _ => by
    obtain ⟨s, i, c, _⟩ : Int × Int × ClaimD × Unit := x
    refine Tree.all_eq (rtR s i c) ?_
    show Tree.all (α := Int × Int × Unit) _ (fun y => y = ((refC s i c).1, (refC s i c).2, ()))
    simp only [all_leaf, all_fork, all_req, true_and, and_true, implies_true, conjP]
    have hg : (!decide (s ≥ 0) || (!decide (s < 8) || (decide (i < 0) || (decide (i > 1000000) || !mayC c)))) = !(nodeB s && (decide (0 ≤ i) && (decide (i ≤ 1000000) && mayC c))) := by
      have e1 : decide (0 ≤ i) = !decide (i < 0) := by rw [Bool.eq_iff_iff]; simp
      have e2 : decide (i ≤ 1000000) = !decide (i > 1000000) := by rw [Bool.eq_iff_iff]; simp
      unfold nodeB
      rw [e1, e2]
      generalize decide (s ≥ 0) = p1
      generalize decide (s < 8) = p2
      generalize decide (i < 0) = p3
      generalize decide (i > 1000000) = p4
      generalize mayC c = p5
      cases p1 <;> cases p2 <;> cases p3 <;> cases p4 <;> cases p5 <;> rfl
    have hc : (c.1 != s || bif c.2.2 != 2 then c.2.2 != 3 || decide (c.2.1 < i) else decide (c.2.1 < i)) = true ↔ ¬ (c.1 = s ∧ (c.2.2 = 2 ∨ c.2.2 = 3) ∧ i ≤ c.2.1) := by
      by_cases h2 : c.2.2 = 2
      · rw [show (c.2.2 != 2) = false by rw [h2]; rfl, cond_false, Bool.or_eq_true, bne_iff_ne, decide_eq_true_eq]; omega
      · rw [show (c.2.2 != 2) = true by rw [bne_iff_ne]; exact h2, cond_true, Bool.or_eq_true, Bool.or_eq_true, bne_iff_ne, bne_iff_ne, decide_eq_true_eq]; omega
    rw [hg]
    refine ⟨fun h => ?_, fun h => ⟨fun k => ?_, fun k => ⟨fun l => ?_, fun l => ?_⟩⟩⟩
    · unfold refC; rw [if_neg (by rw [Bool.not_eq_true'] at h; rw [h]; decide)]
    · rw [Bool.not_eq_false'] at h
      unfold refC; rw [if_pos h, if_neg (hc.1 k)]
    · rw [Bool.not_eq_false'] at h
      rw [beq_iff_eq] at l
      have k := Classical.byContradiction fun g => Bool.noConfusion (k.symm.trans (hc.2 g))
      unfold refC; rw [if_pos h, if_pos k, if_pos l]
    · rw [Bool.not_eq_false'] at h
      rw [beq_eq_false_iff_ne] at l
      have k := Classical.byContradiction fun g => Bool.noConfusion (k.symm.trans (hc.2 g))
      have m := mayC_iff.1 (show mayC c = true by simp only [Bool.and_eq_true] at h; exact h.2.2.2)
      rw [IntWalk.i64_in (c.2.1 + 1) (by omega)]
      unfold refC; rw [if_pos h, if_pos k, if_neg l]
theorem U4_ok : U4.Sound := mkExM_sound ⟨pureSp_ok rmay_ok, pureSpW_ok itoa_okW, trivial⟩
theorem rtext_okW : PureOKW Tryd.prog 0 pow10V 19 [Claim] [.str] (fun _ => True) (fun x => (textB x.1, ())) :=
  fn_pureW (E := U4) (n := 100) U4_ok Tryd.func19 (by kernel_rfl) .nil fun x _ => by
    obtain ⟨c, _⟩ : ClaimD × Unit := x
    refine Tree.all_eq (rtT c) ?_
    show Tree.all (α := ByteArray × Unit) _ (fun y => y = (textB c, ()))
    simp only [all_leaf, all_fork, all_req, true_and, and_true, beq_iff_eq, beq_eq_false_iff_ne, ne_eq, Bool.not_eq_true', Bool.not_eq_false', Prod.mk.injEq, ByteArray.size_append]
    refine ⟨fun m => ?_, fun m => ?_⟩
    · rw [textB_none m]
    · obtain ⟨⟨n0, n8⟩, hi⟩ := mayC_iff.1 m
      have z1 := itoaB_size c.1 (by omega) (by omega)
      have z2 := itoaB_size c.2.1 (by omega) (by omega)
      have e1 : (itoaB c.1).data.toList = [UInt8.ofNat (48 + c.1.toNat)] := itoa_one n0 n8
      have e2 : (itoaB c.2.1).data.toList = Lib.itoa c.2.1 := rfl
      have s1 : (ByteArray.mk (Array.mk [58])).size = 1 := rfl
      have s2 : (ByteArray.mk (Array.mk [97, 108, 105, 118, 101, 64])).size = 6 := rfl
      have s3 : (ByteArray.mk (Array.mk [115, 117, 115, 112, 101, 99, 116, 64])).size = 8 := rfl
      have s4 : (ByteArray.mk (Array.mk [100, 101, 97, 100, 64])).size = 5 := rfl
      have tl : textL c = UInt8.ofNat (48 + c.1.toNat) :: 58 :: (if c.2.2 = 0 then [45] else if c.2.2 = 4 then [108, 101, 102, 116] else hnL c.2.2 ++ 64 :: Lib.itoa c.2.1) := by unfold textL; rw [if_pos m]
      have key : ∀ (B : ByteArray) (r : List UInt8), B.data.toList = UInt8.ofNat (48 + c.1.toNat) :: r → textL c = UInt8.ofNat (48 + c.1.toNat) :: r → B = textB c := fun B r h1 h2 => by
        apply ba_ext
        rw [h1]
        show _ = textL c
        rw [h2]
      have fin : ∀ (x y : ByteArray) (r : List UInt8), x.data.toList ++ y.data.toList = 58 :: r → (itoaB c.1 ++ x ++ y).data.toList = UInt8.ofNat (48 + c.1.toNat) :: 58 :: r := fun x y r h => by
        rw [bapp, bapp, e1, List.append_assoc, h]; rfl
      refine ⟨⟨by omega, by omega⟩, by omega, fun h => ⟨by omega, ?_⟩, fun h0 => ⟨fun h => ⟨by omega, ⟨by omega, by omega⟩, by omega, ?_⟩, fun h1 => ⟨fun h => ⟨by omega, ⟨by omega, by omega⟩, by omega, ?_⟩, fun h2 => ⟨fun h => ⟨by omega, ⟨by omega, by omega⟩, by omega, ?_⟩, fun h3 => ⟨by omega, ?_⟩⟩⟩⟩⟩
      · rw [if_pos h] at tl
        exact key _ _ (fin _ _ _ rfl) tl
      · rw [if_neg h0, if_neg (by omega), h] at tl
        refine key _ _ ?_ tl
        rw [bapp, fin _ _ _ rfl, e2]; rfl
      · rw [if_neg h0, if_neg (by omega), h] at tl
        refine key _ _ ?_ tl
        rw [bapp, fin _ _ _ rfl, e2]; rfl
      · rw [if_neg h0, if_neg (by omega), h] at tl
        refine key _ _ ?_ tl
        rw [bapp, fin _ _ _ rfl, e2]; rfl
      · rw [if_neg h0, if_pos (by omega)] at tl
        exact key _ _ (fin _ _ _ rfl) tl
noncomputable abbrev T3 : Ex := mkExM Tryd.prog [KhC, KhM, KhO, KhR, KTw, KAw, KrMy, (16, pureSp [Claim, Claim] [i64] (fun _ => True) (fun x => (cmpC x.1 x.2.1, ()))), (15, pureSp [i64, i64, Claim] [i64, i64] (fun _ => True) (fun x => ((refC x.1 x.2.1 x.2.2.1).1, (refC x.1 x.2.1 x.2.2.1).2, ()))), (19, pureSpW 0 pow10V [Claim] [.str] (fun _ => True) (fun x => (textB x.1, ())))]
theorem T3_ok : T3.Sound := mkExM_sound ⟨pureSp_ok cmpC_ok, pureSp_ok mayC_ok, pureSp_ok loud_ok, pureSp_ok ref_ok, pureSpW_ok text_okW, pureSp_ok aw_ok, pureSp_ok rmay_ok, pureSp_ok rcmp_ok, pureSp_ok rref_ok, pureSpW_ok rtext_okW, trivial⟩
theorem thF (a b : ClaimD) (s i : Int) : @Eq _
  (fnTW 0 pow10V T3 [] 100 Tryd.f7 [Claim, Claim, i64, i64] [.bool] (a, b, s, i, ()))
  (.req (True) (
 .req (True) (
  .req (True) (
   .fork (decide (Pl.cmpC b a > (0 : Int))) (
    .req (True ∧ True ∧ ((Pl.mayC a == Pl.mayC a) = true → conjP [True, True, (Pl.cmpC a b == Pl.cmpC a b) = true → conjP [True, ((Pl.loudC a b).1 == b.1 && ((Pl.loudC a b).2.1 == b.2.1 && ((Pl.loudC a b).2.2 == b.2.2 && true))) = true → conjP ((((Pl.refC s i a).1 == (Pl.refC s i a).1) = true → conjP ((((Pl.refC s i a).2 == (Pl.refC s i a).2) = true → conjP [Pl.pow10V = Pl.pow10V, True, Pl.pow10V = Pl.pow10V, True, ((Pl.textB a).toList == (Pl.textB a).toList) = true → conjP [True]]) :: ([] : List Prop))) :: ([] : List Prop))]])) (
     .leaf ((Pl.mayC a == Pl.mayC a && (Pl.cmpC a b == Pl.cmpC a b && ((Pl.loudC a b).1 == b.1 && ((Pl.loudC a b).2.1 == b.2.1 && ((Pl.loudC a b).2.2 == b.2.2 && true)) && ((Pl.refC s i a).1 == (Pl.refC s i a).1 && ((Pl.refC s i a).2 == (Pl.refC s i a).2 && ((Pl.textB a).toList == (Pl.textB a).toList && true))))), ())))) (
    .req (True ∧ True ∧ ((Pl.mayC a == Pl.mayC a) = true → conjP [True, True, (Pl.cmpC a b == Pl.cmpC a b) = true → conjP [True, ((Pl.loudC a b).1 == a.1 && ((Pl.loudC a b).2.1 == a.2.1 && ((Pl.loudC a b).2.2 == a.2.2 && true))) = true → conjP ((((Pl.refC s i a).1 == (Pl.refC s i a).1) = true → conjP ((((Pl.refC s i a).2 == (Pl.refC s i a).2) = true → conjP [Pl.pow10V = Pl.pow10V, True, Pl.pow10V = Pl.pow10V, True, ((Pl.textB a).toList == (Pl.textB a).toList) = true → conjP [True]]) :: ([] : List Prop))) :: ([] : List Prop))]])) (
     .leaf ((Pl.mayC a == Pl.mayC a && (Pl.cmpC a b == Pl.cmpC a b && ((Pl.loudC a b).1 == a.1 && ((Pl.loudC a b).2.1 == a.2.1 && ((Pl.loudC a b).2.2 == a.2.2 && true)) && ((Pl.refC s i a).1 == (Pl.refC s i a).1 && ((Pl.refC s i a).2 == (Pl.refC s i a).2 && ((Pl.textB a).toList == (Pl.textB a).toList && true))))), ()))))))) : Tree (Bool × PUnit)) := by kernel_rfl
theorem forms_okW : PureOKW Tryd.prog 0 pow10V 7 [Claim, Claim, i64, i64] [.bool] (fun _ => True) (fun _ => (true, ())) :=
  fn_pureW (E := T3) (n := 100) T3_ok Tryd.func7 (by kernel_rfl) .nil fun x _ => by
    obtain ⟨a, b, s, i, _⟩ : ClaimD × ClaimD × Int × Int × Unit := x
    refine Tree.all_eq (thF a b s i) ?_
    show Tree.all (α := Bool × Unit) _ Yes
    simp only [all_leaf, all_fork, all_req, conjP, true_and, and_true, yes_iff, implies_true, BEq.rfl, Bool.true_and]
    refine ⟨fun c => ?_, fun c => ?_⟩
    · unfold loudC; rw [if_pos (of_decide_eq_true c)]; simp
    · unfold loudC; rw [if_neg (of_decide_eq_false c)]; simp
end Pl
