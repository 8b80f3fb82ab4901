import Derived.Test.YtmgglkmpkhdclaaDoorHeHf2
namespace Pl
open Go Sx Go.Proofs Go.RowKit
def numL (l : List UInt8) (n : Nat) : Nat := l.foldl (fun a b => a * 10 + (b.toNat - 48)) n
theorem u8_dig {d : Nat} (h : d < 10) : (UInt8.ofNat (48 + d)).toNat = 48 + d := by
  rw [UInt8.toNat_ofNat']; omega
theorem numL_dec : ∀ (k u : Nat), u ≤ k → numL (Lib.decDigits u) 0 = u
  | 0, u, h => by
    have : u = 0 := by omega
    subst this
    rw [Lib.decDigits_one (by omega)]; rfl
  | k + 1, u, h => by
    by_cases c : u < 10
    · rw [Lib.decDigits_one c]
      show 0 * 10 + ((UInt8.ofNat (48 + u)).toNat - 48) = u
      rw [u8_dig c]; omega
    · rw [Lib.decDigits, dif_neg c]
      unfold numL
      rw [List.foldl_append]
      have ih := numL_dec k (u / 10) (by omega)
      unfold numL at ih
      rw [ih]
      show u / 10 * 10 + ((UInt8.ofNat (48 + u % 10)).toNat - 48) = u
      rw [u8_dig (by omega)]; omega
theorem itoa_inj {m n : Int} (h0 : 0 ≤ m) (h1 : 0 ≤ n) (h : Lib.itoa m = Lib.itoa n) : m = n := by
  unfold Lib.itoa at h
  rw [if_neg (by omega), if_neg (by omega)] at h
  have a := numL_dec m.toNat m.toNat (Nat.le_refl _)
  have b := numL_dec n.toNat n.toNat (Nat.le_refl _)
  rw [h] at a
  omega
theorem textB_len {c : ClaimD} (m : mayC c = true) : 3 ≤ (textB c).size := by
  show 3 ≤ (textL c).length
  unfold textL
  rw [if_pos m]
  simp only [List.length_cons]
  split
  · decide
  · split
    · decide
    · simp only [List.length_append, List.length_cons]; omega
theorem textB_none {c : ClaimD} (m : mayC c = false) : textB c = ByteArray.mk (Array.mk []) := by
  unfold textB textL; rw [m]; rfl
theorem textL_inj {a b : ClaimD} (ha : mayC a = true) (hb : mayC b = true) (la : a.2.2 = 4 → a.2.1 = 0) (lb : b.2.2 = 4 → b.2.1 = 0) (h : textL a = textL b) : a = b := by
  obtain ⟨an, ai, ah⟩ := a
  obtain ⟨bn, bi, bh⟩ := b
  have ma := mayC_iff.1 ha
  have mb := mayC_iff.1 hb
  unfold textL at h
  rw [if_pos ha, if_pos hb] at h
  simp only at h ma mb la lb
  injection h with h1 h2
  injection h2 with _ h2
  have en : an = bn := by
    have := congrArg UInt8.toNat h1
    rw [u8_dig (by omega), u8_dig (by omega)] at this
    omega
  subst en
  have hah : ah = 0 ∨ ah = 1 ∨ ah = 2 ∨ ah = 3 ∨ ah = 4 := by omega
  have hbh : bh = 0 ∨ bh = 1 ∨ bh = 2 ∨ bh = 3 ∨ bh = 4 := by omega
  have hz : ∀ x y : List UInt8, Lib.itoa ai = Lib.itoa bi → ai = bi := fun _ _ e => itoa_inj (by omega) (by omega) e
  rcases hah with rfl | rfl | rfl | rfl | rfl <;> rcases hbh with rfl | rfl | rfl | rfl | rfl <;> simp [hnL] at h2
  all_goals try (rw [itoa_inj (by omega) (by omega) h2])
  · have e1 : ai = 0 := by omega
    have e2 : bi = 0 := by omega
    rw [e1, e2]
  · rw [la rfl, lb rfl]
theorem text_beq {a b : ClaimD} (ha : mayC a = true) (hb : mayC b = true) (la : a.2.2 = 4 → a.2.1 = 0) (lb : b.2.2 = 4 → b.2.1 = 0) : ((textB a).toList == (textB b).toList) = (a.1 == b.1 && (a.2.1 == b.2.1 && (a.2.2 == b.2.2 && true))) := by
  rw [Bool.eq_iff_iff]
  simp only [beq_iff_eq, Bool.and_eq_true, and_true, ByteArray.toList_eq]
  constructor
  · intro h
    have := textL_inj ha hb la lb h
    rw [this]; exact ⟨rfl, rfl, rfl⟩
  · rintro ⟨h1, h2, h3⟩
    have : a = b := Prod.ext h1 (Prod.ext h2 h3)
    rw [this]
theorem may_zero {c : ClaimD} (h : mayC c = true) (e : c.2.2 = 4) : mayC (c.1, 0, c.2.2) = true := by
  rw [mayC_iff] at h ⊢
  simp only; omega
theorem texts_okW : PureOKW Tryd.prog 0 pow10V 6 [Claim, Claim] [.bool] (fun _ => True) (fun _ => (true, ())) :=
  fn_pureW (E := T2) (n := 100) T2_ok Tryd.func6 (by kernel_rfl) .nil fun x _ => by
    obtain ⟨a, b, _⟩ : ClaimD × ClaimD × Unit := x
    refine Tree.all_eq (thX a b) ?_
    show Tree.all (α := Bool × Unit) _ Yes
    simp only [all_leaf, all_fork, all_req, conjP, true_and, and_true, yes_iff, implies_true]
    refine ⟨fun h => ?_, fun h => ?_⟩
    · cases ha : mayC a with
      | false => rw [textB_none ha]; simp
      | true =>
        have := textB_len ha
        have e : ((textB a).toList == (ByteArray.mk (Array.mk ([] : List UInt8))).toList) = false := by
          rw [beq_eq_false_iff_ne]
          intro g
          rw [ByteArray.toList_eq, ByteArray.toList_eq] at g
          have g2 : (textB a).size = 0 := congrArg List.length g
          omega
        rw [e]; rfl
    · rw [Bool.or_eq_false_iff, Bool.not_eq_false', Bool.not_eq_false'] at h
      obtain ⟨ha, hb⟩ := h
      have fin : ∀ x y : ClaimD, mayC x = true → mayC y = true → (x.2.2 = 4 → x.2.1 = 0) → (y.2.2 = 4 → y.2.1 = 0) → ∀ B : Bool, B = (x.1 == y.1 && (x.2.1 == y.2.1 && (x.2.2 == y.2.2 && true))) → ((((textB x).toList == (textB y).toList) == B) && (decide (((textB x).size : Int) ≥ 3) && true)) = true := fun x y hx hy lx ly B hB => by
        have := textB_len hx
        rw [text_beq hx hy lx ly, ← hB, decide_eq_true (by omega : ((textB x).size : Int) ≥ 3)]
        simp
      refine ⟨fun c => ⟨fun d => ?_, fun d => ?_⟩, fun c => ⟨fun d => ?_, fun d => ?_⟩⟩
      · rw [beq_iff_eq] at c d
        exact fin _ _ (may_zero ha c) (may_zero hb d) (fun _ => rfl) (fun _ => rfl) _ (by simp)
      · rw [beq_iff_eq] at c
        rw [beq_eq_false_iff_ne] at d
        exact fin _ _ (may_zero ha c) hb (fun _ => rfl) (fun e => absurd e d) _ rfl
      · rw [beq_iff_eq] at d
        rw [beq_eq_false_iff_ne] at c
        exact fin _ _ ha (may_zero hb d) (fun e => absurd e c) (fun _ => rfl) _ rfl
      · rw [beq_eq_false_iff_ne] at c d
        exact fin _ _ ha hb (fun e => absurd e c) (fun e => absurd e d) _ rfl
end Pl
