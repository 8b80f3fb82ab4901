import Derived.Test.YtmgglkmpkhdclaaDoorHeHe5
import Derived.Test.YtmgglkmpkhdclaaDoorSx33
import Derived.Test.YtmgglkmpkhdclaaDoorHeHeLayI
import Derived.Lib.LaidTab
namespace Pl
open Go Sx Go.Proofs Go.RowKit
def pow10V : List Value := Lib.pow10Tab.map (fun z => Value.int .u64 z)
def itoaB (n : Int) : ByteArray := ⟨(Lib.itoa n).toArray⟩
theorem glob0 : Tryd.prog.globalNamed "internal/strconv.uint64pow10" = some 0 := by kernel_rfl
theorem tabIs_pin {R : Nat → Prop} {w : World} (h : Pin 0 pow10V R w) : Lib.TabIs Tryd.prog w "internal/strconv.uint64pow10" .u64 Lib.pow10Tab := by
  obtain ⟨_, T, m, hh⟩ := h
  unfold Lib.TabIs World.var?
  rw [glob0]
  simp only [Option.bind, hh]
  rfl
theorem pin_of_tab {R : Nat → Prop} {w : World} (h : Lib.TabIs Tryd.prog w "internal/strconv.uint64pow10" .u64 Lib.pow10Tab) (hr : R 0) : Pin 0 pow10V R w := by
  unfold Lib.TabIs World.var? at h
  rw [glob0] at h
  simp only [Option.bind] at h
  split at h
  · rename_i cs T m hh
    injection h with h
    exact ⟨hr, T, m, by rw [hh, h]; rfl⟩
  · cases h
theorem pin_lt {R : Nat → Prop} {w : World} {g : Nat} {cs : List Value} (h : Pin g cs R w) : g < w.heap.size := by
  obtain ⟨_, T, m, hh⟩ := h
  exact (Array.getElem?_eq_some_iff.1 hh).1
theorem itoa_okW : PureOKW Tryd.prog 0 pow10V 24 [i64] [.str] (fun x => -9223372036854775808 ≤ x.1 ∧ x.1 ≤ 9223372036854775807) (fun x => (itoaB x.1, ())) := by
  rintro R w ⟨n, u⟩ args hR hpin ⟨cs, r, e, hrd, er⟩ hpre
  have hrd : cs = [.int .i64 n] := hrd
  have er : r = [] := er
  subst er; subst hrd; subst e
  refine (Tryd.strconv_Itoa n hpre.1 hpre.2 w (tabIs_pin hpin)).mono ?_
  rintro e w' ⟨he, k, os, hw⟩
  subst hw
  refine ⟨[.string (itoaB n)], he, ⟨[.string (itoaB n)], [], rfl, rfl, rfl⟩, ⟨rfl, rfl, rfl, ?_, fun b hb => Go.Sort.heap_grow_old (w.drewN k) os hb⟩⟩
  show w.heap.size ≤ (w.heap ++ os).size
  rw [Array.size_append]; omega
abbrev KiW : Nat × Sx.Spec := (24, pureSpW 0 pow10V [i64] [.str] (fun x => -9223372036854775808 ≤ x.1 ∧ x.1 ≤ 9223372036854775807) (fun x => (itoaB x.1, ())))
noncomputable abbrev T1 : Ex := mkExM Tryd.prog [KhM, KiW]
theorem T1_ok : T1.Sound := mkExM_sound ⟨pureSp_ok mayC_ok, pureSpW_ok itoa_okW, trivial⟩
theorem thT (c : ClaimD) : @Eq _
  (fnTW 0 pow10V T1 [] 100 Tryd.f14 [Claim] [.str] (c, ()))
  (.req (True) (
 .fork (!Pl.mayC c) (
  .leaf (((ByteArray.mk (Array.mk ([] : List UInt8))), ()))) (
  .fork (c.2.2 == (0 : Int)) (
   .req (Pl.pow10V = Pl.pow10V) (
    .req ((-9223372036854775808 : Int) ≤ c.1 ∧ c.1 ≤ (9223372036854775807 : Int)) (
     .req ((↑((Pl.itoaB c.1).size + 2) : Int) ≤ (9223372036854775807 : Int)) (
      .leaf ((Pl.itoaB c.1 ++ (ByteArray.mk (Array.mk [58, 45])), ())))))) (
   .fork (c.2.2 == (4 : Int)) (
    .req (Pl.pow10V = Pl.pow10V) (
     .req ((-9223372036854775808 : Int) ≤ c.1 ∧ c.1 ≤ (9223372036854775807 : Int)) (
      .req ((↑((Pl.itoaB c.1).size + 5) : Int) ≤ (9223372036854775807 : Int)) (
       .leaf ((Pl.itoaB c.1 ++ (ByteArray.mk (Array.mk [58, 108, 101, 102, 116])), ())))))) (
    .req (Pl.pow10V = Pl.pow10V) (
     .req ((-9223372036854775808 : Int) ≤ c.1 ∧ c.1 ≤ (9223372036854775807 : Int)) (
      .req ((↑((Pl.itoaB c.1).size + 1) : Int) ≤ (9223372036854775807 : Int)) (
       .req ((0 : Int) ≤ c.2.2 ∧ c.2.2 < (4 : Int)) (
        .req ((↑((Pl.itoaB c.1 ++ (ByteArray.mk (Array.mk [58]))).size + ([(ByteArray.mk (Array.mk ([] : List UInt8))), (ByteArray.mk (Array.mk [97, 108, 105, 118, 101])), (ByteArray.mk (Array.mk [115, 117, 115, 112, 101, 99, 116])), (ByteArray.mk (Array.mk [100, 101, 97, 100]))].getD c.2.2.toNat (ByteArray.mk (Array.mk ([] : List UInt8)))).size) : Int) ≤ (9223372036854775807 : Int)) (
         .req ((↑((Pl.itoaB c.1 ++ (ByteArray.mk (Array.mk [58])) ++ [(ByteArray.mk (Array.mk ([] : List UInt8))), (ByteArray.mk (Array.mk [97, 108, 105, 118, 101])), (ByteArray.mk (Array.mk [115, 117, 115, 112, 101, 99, 116])), (ByteArray.mk (Array.mk [100, 101, 97, 100]))].getD c.2.2.toNat (ByteArray.mk (Array.mk ([] : List UInt8)))).size + 1) : Int) ≤ (9223372036854775807 : Int)) (
          .req (Pl.pow10V = Pl.pow10V) (
           .req ((-9223372036854775808 : Int) ≤ c.2.1 ∧ c.2.1 ≤ (9223372036854775807 : Int)) (
            .req ((↑((Pl.itoaB c.1 ++ (ByteArray.mk (Array.mk [58])) ++ [(ByteArray.mk (Array.mk ([] : List UInt8))), (ByteArray.mk (Array.mk [97, 108, 105, 118, 101])), (ByteArray.mk (Array.mk [115, 117, 115, 112, 101, 99, 116])), (ByteArray.mk (Array.mk [100, 101, 97, 100]))].getD c.2.2.toNat (ByteArray.mk (Array.mk ([] : List UInt8))) ++ (ByteArray.mk (Array.mk [64]))).size + (Pl.itoaB c.2.1).size) : Int) ≤ (9223372036854775807 : Int)) (
             .leaf ((Pl.itoaB c.1 ++ (ByteArray.mk (Array.mk [58])) ++ [(ByteArray.mk (Array.mk ([] : List UInt8))), (ByteArray.mk (Array.mk [97, 108, 105, 118, 101])), (ByteArray.mk (Array.mk [115, 117, 115, 112, 101, 99, 116])), (ByteArray.mk (Array.mk [100, 101, 97, 100]))].getD c.2.2.toNat (ByteArray.mk (Array.mk ([] : List UInt8))) ++ (ByteArray.mk (Array.mk [64])) ++ Pl.itoaB c.2.1, ()))))))))))))))) : Tree (ByteArray × PUnit)) := by kernel_rfl
end Pl
