import Derived.Test.YtmgglkmpkhdclaaDoorHeHf
import Derived.Lib.ItoaLen
namespace Pl
open Go Sx Go.Proofs Go.RowKit
theorem itoaB_size (n : Int) (h0 : -9223372036854775808 ≤ n) (h1 : n ≤ 9223372036854775807) : (itoaB n).size ≤ 21 := Lib.itoa_length_le n h0 h1
def hnL (h : Int) : List UInt8 := if h = 1 then [97, 108, 105, 118, 101] else if h = 2 then [115, 117, 115, 112, 101, 99, 116] else [100, 101, 97, 100]
def textL (c : ClaimD) : List UInt8 :=
  if mayC c then UInt8.ofNat (48 + c.1.toNat) :: 58 :: (if c.2.2 = 0 then [45] else if c.2.2 = 4 then [108, 101, 102, 116] else hnL c.2.2 ++ 64 :: Lib.itoa c.2.1) else []
def textB (c : ClaimD) : ByteArray := ⟨(textL c).toArray⟩
theorem mayC_iff {c : ClaimD} : mayC c = true ↔ (0 ≤ c.1 ∧ c.1 < 8) ∧ ((c.2.2 = 0 ∧ c.2.1 = 0) ∨ (0 ≤ c.2.1 ∧ c.2.1 ≤ 1000000 ∧ 1 ≤ c.2.2 ∧ c.2.2 ≤ 4)) := by
  unfold mayC nodeB
  by_cases h : c.2.2 = 0
  · rw [if_pos h]; simp; omega
  · rw [if_neg h]; simp; omega
theorem itoa_one {n : Int} (h0 : 0 ≤ n) (h1 : n < 8) : Lib.itoa n = [UInt8.ofNat (48 + n.toNat)] := by
  unfold Lib.itoa
  rw [if_neg (by omega), Lib.decDigits_one (by omega)]
theorem ba_ext {x y : ByteArray} (h : x.data.toList = y.data.toList) : x = y := ByteArray.ext (Array.toList_inj.1 h)
theorem bapp (x y : ByteArray) : (x ++ y).data.toList = x.data.toList ++ y.data.toList := ByteArray.toList_data_append
theorem text_okW : PureOKW Tryd.prog 0 pow10V 14 [Claim] [.str] (fun _ => True) (fun x => (textB x.1, ())) :=
  fn_pureW (E := T1) (n := 100) T1_ok Tryd.func14 hbT .nil fun x _ => by
    obtain ⟨c, _⟩ : ClaimD × Unit := x
    refine Tree.all_eq (thT c) ?_
    show Tree.all (α := ByteArray × Unit) _ (fun y => y = (textB c, ()))
    simp only [all_leaf, all_fork, all_req, true_and, and_true, beq_iff_eq, beq_eq_false_iff_ne, ne_eq, Bool.not_eq_true', Bool.not_eq_false', Prod.mk.injEq, ByteArray.size_append]
    refine ⟨fun m => ?_, fun m => ?_⟩
    · unfold textB textL; rw [m]; rfl
    · obtain ⟨⟨n0, n8⟩, hi⟩ := mayC_iff.1 m
      have z1 := itoaB_size c.1 (by omega) (by omega)
      have z2 := itoaB_size c.2.1 (by omega) (by omega)
      have e1 : (itoaB c.1).data.toList = [UInt8.ofNat (48 + c.1.toNat)] := itoa_one n0 n8
      have e2 : (itoaB c.2.1).data.toList = Lib.itoa c.2.1 := rfl
      have key : ∀ (B : ByteArray) (r : List UInt8), B.data.toList = [UInt8.ofNat (48 + c.1.toNat)] ++ r → textL c = UInt8.ofNat (48 + c.1.toNat) :: r → B = textB c := fun B r h1 h2 => by
        apply ba_ext
        rw [h1]
        show _ = textL c
        rw [h2]; rfl
      have tl : textL c = UInt8.ofNat (48 + c.1.toNat) :: 58 :: (if c.2.2 = 0 then [45] else if c.2.2 = 4 then [108, 101, 102, 116] else hnL c.2.2 ++ 64 :: Lib.itoa c.2.1) := by unfold textL; rw [if_pos m]
      refine ⟨fun h => ⟨by omega, by omega, ?_⟩, fun h => ⟨fun k => ⟨by omega, by omega, ?_⟩, fun k => ?_⟩⟩
      · rw [if_pos h] at tl
        exact key _ _ (by rw [bapp, e1]) tl
      · rw [if_neg h, if_pos k] at tl
        exact key _ _ (by rw [bapp, e1]) tl
      · rw [if_neg h, if_neg k] at tl
        have hh : c.2.2 = 1 ∨ c.2.2 = 2 ∨ c.2.2 = 3 := by omega
        have hg : ∃ B : ByteArray, [(ByteArray.mk (Array.mk ([] : List UInt8))), (ByteArray.mk (Array.mk [97, 108, 105, 118, 101])), (ByteArray.mk (Array.mk [115, 117, 115, 112, 101, 99, 116])), (ByteArray.mk (Array.mk [100, 101, 97, 100]))].getD c.2.2.toNat (ByteArray.mk (Array.mk [])) = B ∧ B.data.toList = hnL c.2.2 ∧ B.size ≤ 7 := by
          rcases hh with e | e | e <;> rw [e]
          · exact ⟨_, rfl, rfl, by decide⟩
          · exact ⟨_, rfl, rfl, by decide⟩
          · exact ⟨_, rfl, rfl, by decide⟩
        obtain ⟨B, hB, hB1, hB2⟩ := hg
        rw [hB]
        have s1 : (ByteArray.mk (Array.mk [58])).size = 1 := rfl
        have s2 : (ByteArray.mk (Array.mk [64])).size = 1 := rfl
        refine ⟨by omega, by omega, by omega, by omega, by omega, by omega, by omega, ?_⟩
        refine key _ _ ?_ tl
        rw [bapp, bapp, bapp, bapp, e1, e2, hB1]
        simp
abbrev KTw : Nat × Sx.Spec := (14, pureSpW 0 pow10V [Claim] [.str] (fun _ => True) (fun x => (textB x.1, ())))
noncomputable abbrev T2 : Ex := mkExM Tryd.prog [KhM, KTw, KAw]
theorem T2_ok : T2.Sound := mkExM_sound ⟨pureSp_ok mayC_ok, pureSpW_ok text_okW, pureSp_ok aw_ok, trivial⟩
theorem thX (a b : ClaimD) : @Eq _
  (fnTW 0 pow10V T2 [] 100 Tryd.f6 [Claim, Claim] [.bool] (a, b, ()))
  (.req (True ∧ ((!Pl.mayC a) = false → conjP [True])) (
 .fork (!Pl.mayC a || !Pl.mayC b) (
  .req (Pl.pow10V = Pl.pow10V ∧ True ∧ True ∧ ((((Pl.textB a).toList == (ByteArray.mk (Array.mk ([] : List UInt8))).toList) == !Pl.mayC a) = true → conjP [True])) (
   .leaf ((((Pl.textB a).toList == (ByteArray.mk (Array.mk ([] : List UInt8))).toList) == !Pl.mayC a && true, ())))) (
  .fork (a.2.2 == (4 : Int)) (
   .fork (b.2.2 == (4 : Int)) (
    .req (Pl.pow10V = Pl.pow10V ∧ True ∧ Pl.pow10V = Pl.pow10V ∧ True ∧ ((((Pl.textB (a.1, (0 : Int), a.2.2)).toList == (Pl.textB (b.1, (0 : Int), b.2.2)).toList) == (a.1 == b.1 && (a.2.2 == b.2.2 && true))) = true → conjP [Pl.pow10V = Pl.pow10V, True, decide ((↑(Pl.textB (a.1, (0 : Int), a.2.2)).size : Int) ≥ (3 : Int)) = true → conjP [True]])) (
     .leaf ((((Pl.textB (a.1, (0 : Int), a.2.2)).toList == (Pl.textB (b.1, (0 : Int), b.2.2)).toList) == (a.1 == b.1 && (a.2.2 == b.2.2 && true)) && (decide ((↑(Pl.textB (a.1, (0 : Int), a.2.2)).size : Int) ≥ (3 : Int)) && true), ())))) (
    .req (Pl.pow10V = Pl.pow10V ∧ True ∧ Pl.pow10V = Pl.pow10V ∧ True ∧ ((((Pl.textB (a.1, (0 : Int), a.2.2)).toList == (Pl.textB b).toList) == (a.1 == b.1 && ((0 : Int) == b.2.1 && (a.2.2 == b.2.2 && true)))) = true → conjP [Pl.pow10V = Pl.pow10V, True, decide ((↑(Pl.textB (a.1, (0 : Int), a.2.2)).size : Int) ≥ (3 : Int)) = true → conjP [True]])) (
     .leaf ((((Pl.textB (a.1, (0 : Int), a.2.2)).toList == (Pl.textB b).toList) == (a.1 == b.1 && ((0 : Int) == b.2.1 && (a.2.2 == b.2.2 && true))) && (decide ((↑(Pl.textB (a.1, (0 : Int), a.2.2)).size : Int) ≥ (3 : Int)) && true), ()))))) (
   .fork (b.2.2 == (4 : Int)) (
    .req (Pl.pow10V = Pl.pow10V ∧ True ∧ Pl.pow10V = Pl.pow10V ∧ True ∧ ((((Pl.textB a).toList == (Pl.textB (b.1, (0 : Int), b.2.2)).toList) == (a.1 == b.1 && (a.2.1 == (0 : Int) && (a.2.2 == b.2.2 && true)))) = true → conjP [Pl.pow10V = Pl.pow10V, True, decide ((↑(Pl.textB a).size : Int) ≥ (3 : Int)) = true → conjP [True]])) (
     .leaf ((((Pl.textB a).toList == (Pl.textB (b.1, (0 : Int), b.2.2)).toList) == (a.1 == b.1 && (a.2.1 == (0 : Int) && (a.2.2 == b.2.2 && true))) && (decide ((↑(Pl.textB a).size : Int) ≥ (3 : Int)) && true), ())))) (
    .req (Pl.pow10V = Pl.pow10V ∧ True ∧ Pl.pow10V = Pl.pow10V ∧ True ∧ ((((Pl.textB a).toList == (Pl.textB b).toList) == (a.1 == b.1 && (a.2.1 == b.2.1 && (a.2.2 == b.2.2 && true)))) = true → conjP [Pl.pow10V = Pl.pow10V, True, decide ((↑(Pl.textB a).size : Int) ≥ (3 : Int)) = true → conjP [True]])) (
     .leaf ((((Pl.textB a).toList == (Pl.textB b).toList) == (a.1 == b.1 && (a.2.1 == b.2.1 && (a.2.2 == b.2.2 && true))) && (decide ((↑(Pl.textB a).size : Int) ≥ (3 : Int)) && true), ()))))))) : Tree (Bool × PUnit)) := by kernel_rfl
end Pl
