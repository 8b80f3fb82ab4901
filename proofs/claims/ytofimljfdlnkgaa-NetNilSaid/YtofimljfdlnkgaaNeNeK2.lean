import Derived.Test.YtofimljfdlnkgaaNeNeS2
import Derived.Test.YtofimljfdlnkgaaSx25
namespace Pl
open Go Sx Go.Proofs Go.RowKit
theorem cmpI_zeroN {a b : Int} : cmpI a b = 0 ↔ a = b := by
  unfold cmpI; split <;> (try split) <;> omega
theorem cmpL_zeroN : ∀ l m : List Int, cmpL l m = 0 ↔ l = m
  | [], [] => by simp [cmpL]
  | [], _ :: _ => by simp [cmpL]
  | _ :: _, [] => by simp [cmpL]
  | x :: r, y :: s => by
    simp only [cmpL, List.cons.injEq]
    split
    · rename_i h; rw [cmpL_zeroN r s, cmpI_zeroN.1 h]; simp
    · rename_i h
      have : ¬ x = y := fun e => h (cmpI_zeroN.2 e)
      simp [h, this]
theorem cmpP_zeroN (p q : PlanD) : cmpP p q = 0 ↔ p = q := by
  obtain ⟨v, b, l⟩ := p
  obtain ⟨v', b', l'⟩ := q
  simp only [cmpP, orL, Prod.mk.injEq]
  constructor
  · intro h
    split at h
    · rename_i h1
      split at h
      · rename_i h2
        split at h
        · split at h
          · rename_i h4; exact ⟨cmpI_zeroN.1 h1, cmpI_zeroN.1 h2, (cmpL_zeroN _ _).1 h4⟩
          · rename_i h4; exact absurd h h4
        · rename_i h3; exact absurd h h3
      · rename_i h2; exact absurd h h2
    · rename_i h1; exact absurd h h1
  · rintro ⟨rfl, rfl, rfl⟩
    simp [cmpI_zeroN.2, (cmpL_zeroN _ _).2]
theorem eq8N {a b : List Int} (ha : a.length = 8) (hb : b.length = 8) : (a.getD 0 0 == b.getD 0 0 && (a.getD 1 0 == b.getD 1 0 && (a.getD 2 0 == b.getD 2 0 && (a.getD 3 0 == b.getD 3 0 && (a.getD 4 0 == b.getD 4 0 && (a.getD 5 0 == b.getD 5 0 && (a.getD 6 0 == b.getD 6 0 && (a.getD 7 0 == b.getD 7 0 && true)))))))) = decide (a = b) := by
  obtain ⟨a0, a1, a2, a3, a4, a5, a6, a7, rfl⟩ := len8 ha
  obtain ⟨b0, b1, b2, b3, b4, b5, b6, b7, rfl⟩ := len8 hb
  rw [Bool.eq_iff_iff]; simp
theorem eq16N {a b : List (Int × Int)} (ha : a.length = 16) (hb : b.length = 16) : (((a.getD 0 (0, 0)).1 == (b.getD 0 (0, 0)).1 && ((a.getD 0 (0, 0)).2 == (b.getD 0 (0, 0)).2 && true)) && (((a.getD 1 (0, 0)).1 == (b.getD 1 (0, 0)).1 && ((a.getD 1 (0, 0)).2 == (b.getD 1 (0, 0)).2 && true)) && (((a.getD 2 (0, 0)).1 == (b.getD 2 (0, 0)).1 && ((a.getD 2 (0, 0)).2 == (b.getD 2 (0, 0)).2 && true)) && (((a.getD 3 (0, 0)).1 == (b.getD 3 (0, 0)).1 && ((a.getD 3 (0, 0)).2 == (b.getD 3 (0, 0)).2 && true)) && (((a.getD 4 (0, 0)).1 == (b.getD 4 (0, 0)).1 && ((a.getD 4 (0, 0)).2 == (b.getD 4 (0, 0)).2 && true)) && (((a.getD 5 (0, 0)).1 == (b.getD 5 (0, 0)).1 && ((a.getD 5 (0, 0)).2 == (b.getD 5 (0, 0)).2 && true)) && (((a.getD 6 (0, 0)).1 == (b.getD 6 (0, 0)).1 && ((a.getD 6 (0, 0)).2 == (b.getD 6 (0, 0)).2 && true)) && (((a.getD 7 (0, 0)).1 == (b.getD 7 (0, 0)).1 && ((a.getD 7 (0, 0)).2 == (b.getD 7 (0, 0)).2 && true)) && (((a.getD 8 (0, 0)).1 == (b.getD 8 (0, 0)).1 && ((a.getD 8 (0, 0)).2 == (b.getD 8 (0, 0)).2 && true)) && (((a.getD 9 (0, 0)).1 == (b.getD 9 (0, 0)).1 && ((a.getD 9 (0, 0)).2 == (b.getD 9 (0, 0)).2 && true)) && (((a.getD 10 (0, 0)).1 == (b.getD 10 (0, 0)).1 && ((a.getD 10 (0, 0)).2 == (b.getD 10 (0, 0)).2 && true)) && (((a.getD 11 (0, 0)).1 == (b.getD 11 (0, 0)).1 && ((a.getD 11 (0, 0)).2 == (b.getD 11 (0, 0)).2 && true)) && (((a.getD 12 (0, 0)).1 == (b.getD 12 (0, 0)).1 && ((a.getD 12 (0, 0)).2 == (b.getD 12 (0, 0)).2 && true)) && (((a.getD 13 (0, 0)).1 == (b.getD 13 (0, 0)).1 && ((a.getD 13 (0, 0)).2 == (b.getD 13 (0, 0)).2 && true)) && (((a.getD 14 (0, 0)).1 == (b.getD 14 (0, 0)).1 && ((a.getD 14 (0, 0)).2 == (b.getD 14 (0, 0)).2 && true)) && (((a.getD 15 (0, 0)).1 == (b.getD 15 (0, 0)).1 && ((a.getD 15 (0, 0)).2 == (b.getD 15 (0, 0)).2 && true)) && true)))))))))))))))) = decide (a = b) := by
  obtain ⟨a0, a1, a2, a3, a4, a5, a6, a7, a8, a9, a10, a11, a12, a13, a14, a15, rfl⟩ := len16 ha
  obtain ⟨b0, b1, b2, b3, b4, b5, b6, b7, b8, b9, b10, b11, b12, b13, b14, b15, rfl⟩ := len16 hb
  rw [Bool.eq_iff_iff]
  simp only [List.getD_cons_zero, List.getD_cons_succ, Bool.and_eq_true, Bool.and_true, beq_iff_eq, decide_eq_true_eq, List.cons.injEq, and_true, Prod.ext_iff]
abbrev RingND : Type := List Int × PlanD × List (Int × Int)
abbrev BagND : Type := List Int × List ((Int × Int) × ByteArray)
def eqR (a b : RingND) : Bool := decide (a = b)
def eqB (a b : BagND) : Bool := decide (a = b)
def inR (r : RingND) : Prop := r.1.length = 8 ∧ r.2.2.length = 16 ∧ (r.2.1.2.2.length : Int) < big
def inB (b : BagND) : Prop := b.1.length = 8 ∧ (b.2.length : Int) ≤ 9223372036854775807
theorem rsameN_ok : PureOK Try.prog 20 [RingN, RingN] [.bool] (fun x => inR x.1 ∧ inR x.2.1) (fun x => (eqR x.1 x.2.1, ())) :=
  fn_pure (E := s2) (n := 100) s2_ok Try.func20 (by kernel_rfl) .nil fun x h => Tree.all_eq (tRs x.1 x.2.1) (by
    obtain ⟨⟨a, p, e⟩, ⟨b, q, f⟩, _⟩ : RingND × RingND × Unit := x
    obtain ⟨⟨h1, h2, h3⟩, h4, h5, h6⟩ : inR (a, p, e) ∧ inR (b, q, f) := h
    simp only at h1 h2 h3 h4 h5 h6
    show Tree.all _ fun y => y = (eqR (a, p, e) (b, q, f), ())
    rw [eq8N h1 h4, eq16N h2 h5]
    refine ⟨fun _ => fun _ => h3, ?_⟩
    refine congrArg (fun z => (z, ())) ?_
    unfold eqR
    rw [Bool.eq_iff_iff]
    simp only [Bool.and_eq_true, decide_eq_true_eq, beq_iff_eq, cmpP_zeroN, Prod.mk.injEq]
    constructor
    · rintro ⟨x1, x2, x3⟩; exact ⟨x1, x3, x2⟩
    · rintro ⟨x1, x3, x2⟩; exact ⟨x1, x2, x3⟩)
theorem bsameN_ok : PureOK Try.prog 19 [BagT, BagT] [.bool] (fun x => inB x.1 ∧ inB x.2.1) (fun x => (eqB x.1 x.2.1, ())) :=
  fn_pure (E := s2) (n := 100) s2_ok Try.func19 (by kernel_rfl) .nil fun x h => Tree.all_eq (tBs x.1 x.2.1) (by
    obtain ⟨⟨a, p⟩, ⟨b, q⟩, _⟩ : BagND × BagND × Unit := x
    obtain ⟨⟨h1, h2⟩, h4, h5⟩ : inB (a, p) ∧ inB (b, q) := h
    simp only at h1 h2 h4 h5
    show Tree.all _ fun y => y = (eqB (a, p) (b, q), ())
    rw [eq8N h1 h4]
    refine ⟨fun _ => h2, ?_⟩
    refine congrArg (fun z => (z, ())) ?_
    unfold eqB eqV
    rw [Bool.eq_iff_iff]
    simp only [Bool.and_eq_true, decide_eq_true_eq, Prod.mk.injEq])
abbrev KRs : Nat × Sx.Spec := (20, pureSp [RingN, RingN] [.bool] (fun x => inR x.1 ∧ inR x.2.1) (fun x => (eqR x.1 x.2.1, ())))
abbrev KBs : Nat × Sx.Spec := (19, pureSp [BagT, BagT] [.bool] (fun x => inB x.1 ∧ inB x.2.1) (fun x => (eqB x.1 x.2.1, ())))
abbrev KCe : Nat × Sx.Spec := (21, pureSp [.slice Cl3, .slice Cl3] [.bool] (fun x => (List.length (α := TD Cl3) x.1 : Int) ≤ 9223372036854775807) (fun x => (eqC x.1 x.2.1, ())))
noncomputable abbrev s3 : Ex := mkExM Try.prog [KRs, KBs, KCe]
theorem s3_ok : s3.Sound := mkExM_sound ⟨pureSp_ok rsameN_ok, pureSp_ok bsameN_ok, pureSp_ok ceq_ok, trivial⟩
def smM (m : MsgD) : Prop := inB m.2.2.2.2.2.2.2.2.2.1 ∧ inR m.2.2.2.2.2.2.2.2.2.2.1 ∧ (List.length (α := TD Cl3) m.2.2.2.2.2.2.2.2.2.2.2 : Int) ≤ 9223372036854775807
noncomputable def eqM (a b : List MsgD) : Bool := @decide (a = b) (Classical.propDecidable _)
structure ASm where
  a : List Pl.MsgD
  b : List Pl.MsgD
  i0 : Int
noncomputable def LSm : LoopC ASm where
  n0 := 2
  det st := match rowS st 13 MsgT, rowS st 1 MsgT, intS st 15 with | some a, some b, some i0 => some ⟨a, b, i0⟩ | _, _, _ => none
  inv a := ⟨[(15, iv a.i0), (14, iv (↑a.a.length : Int)), (13, .one (.row 0)), (1, .one (.row 1))],
    [(0, Gb.ro MsgT a.a), (1, Gb.ro MsgT a.b)], 2⟩
  ok a := 0 ≤ a.i0 ∧ a.i0 ≤ a.a.length ∧ a.a.length = a.b.length ∧ (a.a.length : Int) ≤ 9223372036854775807 ∧ (∀ m ∈ a.a, smM m) ∧ ∀ m ∈ a.b, smM m
  mu a := a.a.length - a.i0.toNat
  fin a := .fork (eqM (a.a.drop a.i0.toNat) (a.b.drop a.i0.toNat)) (.leaf ⟨2, ⟨[], [], 2⟩⟩) (.leaf ⟨1, ⟨[(4, .one (.cint IntKind.i64 (1 : Int)))], [], 2⟩⟩)
theorem rSm (a b : List MsgD) (i : Int) : @Eq _
  (LSm.round s3 [] 100 Try.f15 0 ⟨a, b, i⟩)
  (.fork (decide (i < (↑a.length : Int))) (
 .req ((0 : Int) ≤ i ∧ i < (↑a.length : Int)) (
  .req ((0 : Int) ≤ i ∧ i < (↑a.length : Int)) (
   .req ((0 : Int) ≤ i ∧ i < (↑b.length : Int)) (
    .req ((0 : Int) ≤ i ∧ i < (↑b.length : Int)) (
     .req (((a.getD i.toNat ((0 : Int), (0 : Int), (0 : Int), (0 : Int), (0 : Int), (0 : Int), (0 : Int), (0 : Int), { data := { toList := ([] : List UInt8) } }, (List.replicate 8 (0 : Int), ([] : List ((Int × Int) × ByteArray))), (List.replicate 8 (0 : Int), ((0 : Int), (0 : Int), ([] : List Int)), List.replicate 16 ((0 : Int), (0 : Int))), ([] : List (Int × Int × Int)))).1 != (b.getD i.toNat ((0 : Int), (0 : Int), (0 : Int), (0 : Int), (0 : Int), (0 : Int), (0 : Int), (0 : Int), { data := { toList := ([] : List UInt8) } }, (List.replicate 8 (0 : Int), ([] : List ((Int × Int) × ByteArray))), (List.replicate 8 (0 : Int), ((0 : Int), (0 : Int), ([] : List Int)), List.replicate 16 ((0 : Int), (0 : Int))), ([] : List (Int × Int × Int)))).1) = false → conjP [((a.getD i.toNat ((0 : Int), (0 : Int), (0 : Int), (0 : Int), (0 : Int), (0 : Int), (0 : Int), (0 : Int), { data := { toList := ([] : List UInt8) } }, (List.replicate 8 (0 : Int), ([] : List ((Int × Int) × ByteArray))), (List.replicate 8 (0 : Int), ((0 : Int), (0 : Int), ([] : List Int)), List.replicate 16 ((0 : Int), (0 : Int))), ([] : List (Int × Int × Int)))).2.1 != (b.getD i.toNat ((0 : Int), (0 : Int), (0 : Int), (0 : Int), (0 : Int), (0 : Int), (0 : Int), (0 : Int), { data := { toList := ([] : List UInt8) } }, (List.replicate 8 (0 : Int), ([] : List ((Int × Int) × ByteArray))), (List.replicate 8 (0 : Int), ((0 : Int), (0 : Int), ([] : List Int)), List.replicate 16 ((0 : Int), (0 : Int))), ([] : List (Int × Int × Int)))).2.1) = false → conjP [((a.getD i.toNat ((0 : Int), (0 : Int), (0 : Int), (0 : Int), (0 : Int), (0 : Int), (0 : Int), (0 : Int), { data := { toList := ([] : List UInt8) } }, (List.replicate 8 (0 : Int), ([] : List ((Int × Int) × ByteArray))), (List.replicate 8 (0 : Int), ((0 : Int), (0 : Int), ([] : List Int)), List.replicate 16 ((0 : Int), (0 : Int))), ([] : List (Int × Int × Int)))).2.2.1 != (b.getD i.toNat ((0 : Int), (0 : Int), (0 : Int), (0 : Int), (0 : Int), (0 : Int), (0 : Int), (0 : Int), { data := { toList := ([] : List UInt8) } }, (List.replicate 8 (0 : Int), ([] : List ((Int × Int) × ByteArray))), (List.replicate 8 (0 : Int), ((0 : Int), (0 : Int), ([] : List Int)), List.replicate 16 ((0 : Int), (0 : Int))), ([] : List (Int × Int × Int)))).2.2.1) = false → conjP [((a.getD i.toNat ((0 : Int), (0 : Int), (0 : Int), (0 : Int), (0 : Int), (0 : Int), (0 : Int), (0 : Int), { data := { toList := ([] : List UInt8) } }, (List.replicate 8 (0 : Int), ([] : List ((Int × Int) × ByteArray))), (List.replicate 8 (0 : Int), ((0 : Int), (0 : Int), ([] : List Int)), List.replicate 16 ((0 : Int), (0 : Int))), ([] : List (Int × Int × Int)))).2.2.2.1 != (b.getD i.toNat ((0 : Int), (0 : Int), (0 : Int), (0 : Int), (0 : Int), (0 : Int), (0 : Int), (0 : Int), { data := { toList := ([] : List UInt8) } }, (List.replicate 8 (0 : Int), ([] : List ((Int × Int) × ByteArray))), (List.replicate 8 (0 : Int), ((0 : Int), (0 : Int), ([] : List Int)), List.replicate 16 ((0 : Int), (0 : Int))), ([] : List (Int × Int × Int)))).2.2.2.1) = false → conjP [((a.getD i.toNat ((0 : Int), (0 : Int), (0 : Int), (0 : Int), (0 : Int), (0 : Int), (0 : Int), (0 : Int), { data := { toList := ([] : List UInt8) } }, (List.replicate 8 (0 : Int), ([] : List ((Int × Int) × ByteArray))), (List.replicate 8 (0 : Int), ((0 : Int), (0 : Int), ([] : List Int)), List.replicate 16 ((0 : Int), (0 : Int))), ([] : List (Int × Int × Int)))).2.2.2.2.1 != (b.getD i.toNat ((0 : Int), (0 : Int), (0 : Int), (0 : Int), (0 : Int), (0 : Int), (0 : Int), (0 : Int), { data := { toList := ([] : List UInt8) } }, (List.replicate 8 (0 : Int), ([] : List ((Int × Int) × ByteArray))), (List.replicate 8 (0 : Int), ((0 : Int), (0 : Int), ([] : List Int)), List.replicate 16 ((0 : Int), (0 : Int))), ([] : List (Int × Int × Int)))).2.2.2.2.1) = false → conjP [((a.getD i.toNat ((0 : Int), (0 : Int), (0 : Int), (0 : Int), (0 : Int), (0 : Int), (0 : Int), (0 : Int), { data := { toList := ([] : List UInt8) } }, (List.replicate 8 (0 : Int), ([] : List ((Int × Int) × ByteArray))), (List.replicate 8 (0 : Int), ((0 : Int), (0 : Int), ([] : List Int)), List.replicate 16 ((0 : Int), (0 : Int))), ([] : List (Int × Int × Int)))).2.2.2.2.2.1 != (b.getD i.toNat ((0 : Int), (0 : Int), (0 : Int), (0 : Int), (0 : Int), (0 : Int), (0 : Int), (0 : Int), { data := { toList := ([] : List UInt8) } }, (List.replicate 8 (0 : Int), ([] : List ((Int × Int) × ByteArray))), (List.replicate 8 (0 : Int), ((0 : Int), (0 : Int), ([] : List Int)), List.replicate 16 ((0 : Int), (0 : Int))), ([] : List (Int × Int × Int)))).2.2.2.2.2.1) = false → conjP [((a.getD i.toNat ((0 : Int), (0 : Int), (0 : Int), (0 : Int), (0 : Int), (0 : Int), (0 : Int), (0 : Int), { data := { toList := ([] : List UInt8) } }, (List.replicate 8 (0 : Int), ([] : List ((Int × Int) × ByteArray))), (List.replicate 8 (0 : Int), ((0 : Int), (0 : Int), ([] : List Int)), List.replicate 16 ((0 : Int), (0 : Int))), ([] : List (Int × Int × Int)))).2.2.2.2.2.2.1 != (b.getD i.toNat ((0 : Int), (0 : Int), (0 : Int), (0 : Int), (0 : Int), (0 : Int), (0 : Int), (0 : Int), { data := { toList := ([] : List UInt8) } }, (List.replicate 8 (0 : Int), ([] : List ((Int × Int) × ByteArray))), (List.replicate 8 (0 : Int), ((0 : Int), (0 : Int), ([] : List Int)), List.replicate 16 ((0 : Int), (0 : Int))), ([] : List (Int × Int × Int)))).2.2.2.2.2.2.1) = false → conjP [((a.getD i.toNat ((0 : Int), (0 : Int), (0 : Int), (0 : Int), (0 : Int), (0 : Int), (0 : Int), (0 : Int), { data := { toList := ([] : List UInt8) } }, (List.replicate 8 (0 : Int), ([] : List ((Int × Int) × ByteArray))), (List.replicate 8 (0 : Int), ((0 : Int), (0 : Int), ([] : List Int)), List.replicate 16 ((0 : Int), (0 : Int))), ([] : List (Int × Int × Int)))).2.2.2.2.2.2.2.1 != (b.getD i.toNat ((0 : Int), (0 : Int), (0 : Int), (0 : Int), (0 : Int), (0 : Int), (0 : Int), (0 : Int), { data := { toList := ([] : List UInt8) } }, (List.replicate 8 (0 : Int), ([] : List ((Int × Int) × ByteArray))), (List.replicate 8 (0 : Int), ((0 : Int), (0 : Int), ([] : List Int)), List.replicate 16 ((0 : Int), (0 : Int))), ([] : List (Int × Int × Int)))).2.2.2.2.2.2.2.1) = false → conjP [(!(a.getD i.toNat ((0 : Int), (0 : Int), (0 : Int), (0 : Int), (0 : Int), (0 : Int), (0 : Int), (0 : Int), { data := { toList := ([] : List UInt8) } }, (List.replicate 8 (0 : Int), ([] : List ((Int × Int) × ByteArray))), (List.replicate 8 (0 : Int), ((0 : Int), (0 : Int), ([] : List Int)), List.replicate 16 ((0 : Int), (0 : Int))), ([] : List (Int × Int × Int)))).2.2.2.2.2.2.2.2.1.toList == (b.getD i.toNat ((0 : Int), (0 : Int), (0 : Int), (0 : Int), (0 : Int), (0 : Int), (0 : Int), (0 : Int), { data := { toList := ([] : List UInt8) } }, (List.replicate 8 (0 : Int), ([] : List ((Int × Int) × ByteArray))), (List.replicate 8 (0 : Int), ((0 : Int), (0 : Int), ([] : List Int)), List.replicate 16 ((0 : Int), (0 : Int))), ([] : List (Int × Int × Int)))).2.2.2.2.2.2.2.2.1.toList) = false → conjP [Pl.inB (tab 8 (a.getD i.toNat ((0 : Int), (0 : Int), (0 : Int), (0 : Int), (0 : Int), (0 : Int), (0 : Int), (0 : Int), { data := { toList := ([] : List UInt8) } }, (List.replicate 8 (0 : Int), ([] : List ((Int × Int) × ByteArray))), (List.replicate 8 (0 : Int), ((0 : Int), (0 : Int), ([] : List Int)), List.replicate 16 ((0 : Int), (0 : Int))), ([] : List (Int × Int × Int)))).2.2.2.2.2.2.2.2.2.1.1 (0 : Int), (a.getD i.toNat ((0 : Int), (0 : Int), (0 : Int), (0 : Int), (0 : Int), (0 : Int), (0 : Int), (0 : Int), { data := { toList := ([] : List UInt8) } }, (List.replicate 8 (0 : Int), ([] : List ((Int × Int) × ByteArray))), (List.replicate 8 (0 : Int), ((0 : Int), (0 : Int), ([] : List Int)), List.replicate 16 ((0 : Int), (0 : Int))), ([] : List (Int × Int × Int)))).2.2.2.2.2.2.2.2.2.1.2) ∧ Pl.inB (tab 8 (b.getD i.toNat ((0 : Int), (0 : Int), (0 : Int), (0 : Int), (0 : Int), (0 : Int), (0 : Int), (0 : Int), { data := { toList := ([] : List UInt8) } }, (List.replicate 8 (0 : Int), ([] : List ((Int × Int) × ByteArray))), (List.replicate 8 (0 : Int), ((0 : Int), (0 : Int), ([] : List Int)), List.replicate 16 ((0 : Int), (0 : Int))), ([] : List (Int × Int × Int)))).2.2.2.2.2.2.2.2.2.1.1 (0 : Int), (b.getD i.toNat ((0 : Int), (0 : Int), (0 : Int), (0 : Int), (0 : Int), (0 : Int), (0 : Int), (0 : Int), { data := { toList := ([] : List UInt8) } }, (List.replicate 8 (0 : Int), ([] : List ((Int × Int) × ByteArray))), (List.replicate 8 (0 : Int), ((0 : Int), (0 : Int), ([] : List Int)), List.replicate 16 ((0 : Int), (0 : Int))), ([] : List (Int × Int × Int)))).2.2.2.2.2.2.2.2.2.1.2), (!Pl.eqB (tab 8 (a.getD i.toNat ((0 : Int), (0 : Int), (0 : Int), (0 : Int), (0 : Int), (0 : Int), (0 : Int), (0 : Int), { data := { toList := ([] : List UInt8) } }, (List.replicate 8 (0 : Int), ([] : List ((Int × Int) × ByteArray))), (List.replicate 8 (0 : Int), ((0 : Int), (0 : Int), ([] : List Int)), List.replicate 16 ((0 : Int), (0 : Int))), ([] : List (Int × Int × Int)))).2.2.2.2.2.2.2.2.2.1.1 (0 : Int), (a.getD i.toNat ((0 : Int), (0 : Int), (0 : Int), (0 : Int), (0 : Int), (0 : Int), (0 : Int), (0 : Int), { data := { toList := ([] : List UInt8) } }, (List.replicate 8 (0 : Int), ([] : List ((Int × Int) × ByteArray))), (List.replicate 8 (0 : Int), ((0 : Int), (0 : Int), ([] : List Int)), List.replicate 16 ((0 : Int), (0 : Int))), ([] : List (Int × Int × Int)))).2.2.2.2.2.2.2.2.2.1.2) (tab 8 (b.getD i.toNat ((0 : Int), (0 : Int), (0 : Int), (0 : Int), (0 : Int), (0 : Int), (0 : Int), (0 : Int), { data := { toList := ([] : List UInt8) } }, (List.replicate 8 (0 : Int), ([] : List ((Int × Int) × ByteArray))), (List.replicate 8 (0 : Int), ((0 : Int), (0 : Int), ([] : List Int)), List.replicate 16 ((0 : Int), (0 : Int))), ([] : List (Int × Int × Int)))).2.2.2.2.2.2.2.2.2.1.1 (0 : Int), (b.getD i.toNat ((0 : Int), (0 : Int), (0 : Int), (0 : Int), (0 : Int), (0 : Int), (0 : Int), (0 : Int), { data := { toList := ([] : List UInt8) } }, (List.replicate 8 (0 : Int), ([] : List ((Int × Int) × ByteArray))), (List.replicate 8 (0 : Int), ((0 : Int), (0 : Int), ([] : List Int)), List.replicate 16 ((0 : Int), (0 : Int))), ([] : List (Int × Int × Int)))).2.2.2.2.2.2.2.2.2.1.2)) = false → conjP [Pl.inR (tab 8 (a.getD i.toNat ((0 : Int), (0 : Int), (0 : Int), (0 : Int), (0 : Int), (0 : Int), (0 : Int), (0 : Int), { data := { toList := ([] : List UInt8) } }, (List.replicate 8 (0 : Int), ([] : List ((Int × Int) × ByteArray))), (List.replicate 8 (0 : Int), ((0 : Int), (0 : Int), ([] : List Int)), List.replicate 16 ((0 : Int), (0 : Int))), ([] : List (Int × Int × Int)))).2.2.2.2.2.2.2.2.2.2.1.1 (0 : Int), (a.getD i.toNat ((0 : Int), (0 : Int), (0 : Int), (0 : Int), (0 : Int), (0 : Int), (0 : Int), (0 : Int), { data := { toList := ([] : List UInt8) } }, (List.replicate 8 (0 : Int), ([] : List ((Int × Int) × ByteArray))), (List.replicate 8 (0 : Int), ((0 : Int), (0 : Int), ([] : List Int)), List.replicate 16 ((0 : Int), (0 : Int))), ([] : List (Int × Int × Int)))).2.2.2.2.2.2.2.2.2.2.1.2.1, tab 16 (a.getD i.toNat ((0 : Int), (0 : Int), (0 : Int), (0 : Int), (0 : Int), (0 : Int), (0 : Int), (0 : Int), { data := { toList := ([] : List UInt8) } }, (List.replicate 8 (0 : Int), ([] : List ((Int × Int) × ByteArray))), (List.replicate 8 (0 : Int), ((0 : Int), (0 : Int), ([] : List Int)), List.replicate 16 ((0 : Int), (0 : Int))), ([] : List (Int × Int × Int)))).2.2.2.2.2.2.2.2.2.2.1.2.2 ((0 : Int), (0 : Int))) ∧ Pl.inR (tab 8 (b.getD i.toNat ((0 : Int), (0 : Int), (0 : Int), (0 : Int), (0 : Int), (0 : Int), (0 : Int), (0 : Int), { data := { toList := ([] : List UInt8) } }, (List.replicate 8 (0 : Int), ([] : List ((Int × Int) × ByteArray))), (List.replicate 8 (0 : Int), ((0 : Int), (0 : Int), ([] : List Int)), List.replicate 16 ((0 : Int), (0 : Int))), ([] : List (Int × Int × Int)))).2.2.2.2.2.2.2.2.2.2.1.1 (0 : Int), (b.getD i.toNat ((0 : Int), (0 : Int), (0 : Int), (0 : Int), (0 : Int), (0 : Int), (0 : Int), (0 : Int), { data := { toList := ([] : List UInt8) } }, (List.replicate 8 (0 : Int), ([] : List ((Int × Int) × ByteArray))), (List.replicate 8 (0 : Int), ((0 : Int), (0 : Int), ([] : List Int)), List.replicate 16 ((0 : Int), (0 : Int))), ([] : List (Int × Int × Int)))).2.2.2.2.2.2.2.2.2.2.1.2.1, tab 16 (b.getD i.toNat ((0 : Int), (0 : Int), (0 : Int), (0 : Int), (0 : Int), (0 : Int), (0 : Int), (0 : Int), { data := { toList := ([] : List UInt8) } }, (List.replicate 8 (0 : Int), ([] : List ((Int × Int) × ByteArray))), (List.replicate 8 (0 : Int), ((0 : Int), (0 : Int), ([] : List Int)), List.replicate 16 ((0 : Int), (0 : Int))), ([] : List (Int × Int × Int)))).2.2.2.2.2.2.2.2.2.2.1.2.2 ((0 : Int), (0 : Int))), (!Pl.eqR (tab 8 (a.getD i.toNat ((0 : Int), (0 : Int), (0 : Int), (0 : Int), (0 : Int), (0 : Int), (0 : Int), (0 : Int), { data := { toList := ([] : List UInt8) } }, (List.replicate 8 (0 : Int), ([] : List ((Int × Int) × ByteArray))), (List.replicate 8 (0 : Int), ((0 : Int), (0 : Int), ([] : List Int)), List.replicate 16 ((0 : Int), (0 : Int))), ([] : List (Int × Int × Int)))).2.2.2.2.2.2.2.2.2.2.1.1 (0 : Int), (a.getD i.toNat ((0 : Int), (0 : Int), (0 : Int), (0 : Int), (0 : Int), (0 : Int), (0 : Int), (0 : Int), { data := { toList := ([] : List UInt8) } }, (List.replicate 8 (0 : Int), ([] : List ((Int × Int) × ByteArray))), (List.replicate 8 (0 : Int), ((0 : Int), (0 : Int), ([] : List Int)), List.replicate 16 ((0 : Int), (0 : Int))), ([] : List (Int × Int × Int)))).2.2.2.2.2.2.2.2.2.2.1.2.1, tab 16 (a.getD i.toNat ((0 : Int), (0 : Int), (0 : Int), (0 : Int), (0 : Int), (0 : Int), (0 : Int), (0 : Int), { data := { toList := ([] : List UInt8) } }, (List.replicate 8 (0 : Int), ([] : List ((Int × Int) × ByteArray))), (List.replicate 8 (0 : Int), ((0 : Int), (0 : Int), ([] : List Int)), List.replicate 16 ((0 : Int), (0 : Int))), ([] : List (Int × Int × Int)))).2.2.2.2.2.2.2.2.2.2.1.2.2 ((0 : Int), (0 : Int))) (tab 8 (b.getD i.toNat ((0 : Int), (0 : Int), (0 : Int), (0 : Int), (0 : Int), (0 : Int), (0 : Int), (0 : Int), { data := { toList := ([] : List UInt8) } }, (List.replicate 8 (0 : Int), ([] : List ((Int × Int) × ByteArray))), (List.replicate 8 (0 : Int), ((0 : Int), (0 : Int), ([] : List Int)), List.replicate 16 ((0 : Int), (0 : Int))), ([] : List (Int × Int × Int)))).2.2.2.2.2.2.2.2.2.2.1.1 (0 : Int), (b.getD i.toNat ((0 : Int), (0 : Int), (0 : Int), (0 : Int), (0 : Int), (0 : Int), (0 : Int), (0 : Int), { data := { toList := ([] : List UInt8) } }, (List.replicate 8 (0 : Int), ([] : List ((Int × Int) × ByteArray))), (List.replicate 8 (0 : Int), ((0 : Int), (0 : Int), ([] : List Int)), List.replicate 16 ((0 : Int), (0 : Int))), ([] : List (Int × Int × Int)))).2.2.2.2.2.2.2.2.2.2.1.2.1, tab 16 (b.getD i.toNat ((0 : Int), (0 : Int), (0 : Int), (0 : Int), (0 : Int), (0 : Int), (0 : Int), (0 : Int), { data := { toList := ([] : List UInt8) } }, (List.replicate 8 (0 : Int), ([] : List ((Int × Int) × ByteArray))), (List.replicate 8 (0 : Int), ((0 : Int), (0 : Int), ([] : List Int)), List.replicate 16 ((0 : Int), (0 : Int))), ([] : List (Int × Int × Int)))).2.2.2.2.2.2.2.2.2.2.1.2.2 ((0 : Int), (0 : Int)))) = false → conjP [(↑(a.getD i.toNat ((0 : Int), (0 : Int), (0 : Int), (0 : Int), (0 : Int), (0 : Int), (0 : Int), (0 : Int), { data := { toList := ([] : List UInt8) } }, (List.replicate 8 (0 : Int), ([] : List ((Int × Int) × ByteArray))), (List.replicate 8 (0 : Int), ((0 : Int), (0 : Int), ([] : List Int)), List.replicate 16 ((0 : Int), (0 : Int))), ([] : List (Int × Int × Int)))).2.2.2.2.2.2.2.2.2.2.2.length : Int) ≤ (9223372036854775807 : Int)]]]]]]]]]]]) (
      .fork ((a.getD i.toNat ((0 : Int), (0 : Int), (0 : Int), (0 : Int), (0 : Int), (0 : Int), (0 : Int), (0 : Int), { data := { toList := ([] : List UInt8) } }, (List.replicate 8 (0 : Int), ([] : List ((Int × Int) × ByteArray))), (List.replicate 8 (0 : Int), ((0 : Int), (0 : Int), ([] : List Int)), List.replicate 16 ((0 : Int), (0 : Int))), ([] : List (Int × Int × Int)))).1 != (b.getD i.toNat ((0 : Int), (0 : Int), (0 : Int), (0 : Int), (0 : Int), (0 : Int), (0 : Int), (0 : Int), { data := { toList := ([] : List UInt8) } }, (List.replicate 8 (0 : Int), ([] : List ((Int × Int) × ByteArray))), (List.replicate 8 (0 : Int), ((0 : Int), (0 : Int), ([] : List Int)), List.replicate 16 ((0 : Int), (0 : Int))), ([] : List (Int × Int × Int)))).1 || ((a.getD i.toNat ((0 : Int), (0 : Int), (0 : Int), (0 : Int), (0 : Int), (0 : Int), (0 : Int), (0 : Int), { data := { toList := ([] : List UInt8) } }, (List.replicate 8 (0 : Int), ([] : List ((Int × Int) × ByteArray))), (List.replicate 8 (0 : Int), ((0 : Int), (0 : Int), ([] : List Int)), List.replicate 16 ((0 : Int), (0 : Int))), ([] : List (Int × Int × Int)))).2.1 != (b.getD i.toNat ((0 : Int), (0 : Int), (0 : Int), (0 : Int), (0 : Int), (0 : Int), (0 : Int), (0 : Int), { data := { toList := ([] : List UInt8) } }, (List.replicate 8 (0 : Int), ([] : List ((Int × Int) × ByteArray))), (List.replicate 8 (0 : Int), ((0 : Int), (0 : Int), ([] : List Int)), List.replicate 16 ((0 : Int), (0 : Int))), ([] : List (Int × Int × Int)))).2.1 || ((a.getD i.toNat ((0 : Int), (0 : Int), (0 : Int), (0 : Int), (0 : Int), (0 : Int), (0 : Int), (0 : Int), { data := { toList := ([] : List UInt8) } }, (List.replicate 8 (0 : Int), ([] : List ((Int × Int) × ByteArray))), (List.replicate 8 (0 : Int), ((0 : Int), (0 : Int), ([] : List Int)), List.replicate 16 ((0 : Int), (0 : Int))), ([] : List (Int × Int × Int)))).2.2.1 != (b.getD i.toNat ((0 : Int), (0 : Int), (0 : Int), (0 : Int), (0 : Int), (0 : Int), (0 : Int), (0 : Int), { data := { toList := ([] : List UInt8) } }, (List.replicate 8 (0 : Int), ([] : List ((Int × Int) × ByteArray))), (List.replicate 8 (0 : Int), ((0 : Int), (0 : Int), ([] : List Int)), List.replicate 16 ((0 : Int), (0 : Int))), ([] : List (Int × Int × Int)))).2.2.1 || ((a.getD i.toNat ((0 : Int), (0 : Int), (0 : Int), (0 : Int), (0 : Int), (0 : Int), (0 : Int), (0 : Int), { data := { toList := ([] : List UInt8) } }, (List.replicate 8 (0 : Int), ([] : List ((Int × Int) × ByteArray))), (List.replicate 8 (0 : Int), ((0 : Int), (0 : Int), ([] : List Int)), List.replicate 16 ((0 : Int), (0 : Int))), ([] : List (Int × Int × Int)))).2.2.2.1 != (b.getD i.toNat ((0 : Int), (0 : Int), (0 : Int), (0 : Int), (0 : Int), (0 : Int), (0 : Int), (0 : Int), { data := { toList := ([] : List UInt8) } }, (List.replicate 8 (0 : Int), ([] : List ((Int × Int) × ByteArray))), (List.replicate 8 (0 : Int), ((0 : Int), (0 : Int), ([] : List Int)), List.replicate 16 ((0 : Int), (0 : Int))), ([] : List (Int × Int × Int)))).2.2.2.1 || ((a.getD i.toNat ((0 : Int), (0 : Int), (0 : Int), (0 : Int), (0 : Int), (0 : Int), (0 : Int), (0 : Int), { data := { toList := ([] : List UInt8) } }, (List.replicate 8 (0 : Int), ([] : List ((Int × Int) × ByteArray))), (List.replicate 8 (0 : Int), ((0 : Int), (0 : Int), ([] : List Int)), List.replicate 16 ((0 : Int), (0 : Int))), ([] : List (Int × Int × Int)))).2.2.2.2.1 != (b.getD i.toNat ((0 : Int), (0 : Int), (0 : Int), (0 : Int), (0 : Int), (0 : Int), (0 : Int), (0 : Int), { data := { toList := ([] : List UInt8) } }, (List.replicate 8 (0 : Int), ([] : List ((Int × Int) × ByteArray))), (List.replicate 8 (0 : Int), ((0 : Int), (0 : Int), ([] : List Int)), List.replicate 16 ((0 : Int), (0 : Int))), ([] : List (Int × Int × Int)))).2.2.2.2.1 || ((a.getD i.toNat ((0 : Int), (0 : Int), (0 : Int), (0 : Int), (0 : Int), (0 : Int), (0 : Int), (0 : Int), { data := { toList := ([] : List UInt8) } }, (List.replicate 8 (0 : Int), ([] : List ((Int × Int) × ByteArray))), (List.replicate 8 (0 : Int), ((0 : Int), (0 : Int), ([] : List Int)), List.replicate 16 ((0 : Int), (0 : Int))), ([] : List (Int × Int × Int)))).2.2.2.2.2.1 != (b.getD i.toNat ((0 : Int), (0 : Int), (0 : Int), (0 : Int), (0 : Int), (0 : Int), (0 : Int), (0 : Int), { data := { toList := ([] : List UInt8) } }, (List.replicate 8 (0 : Int), ([] : List ((Int × Int) × ByteArray))), (List.replicate 8 (0 : Int), ((0 : Int), (0 : Int), ([] : List Int)), List.replicate 16 ((0 : Int), (0 : Int))), ([] : List (Int × Int × Int)))).2.2.2.2.2.1 || ((a.getD i.toNat ((0 : Int), (0 : Int), (0 : Int), (0 : Int), (0 : Int), (0 : Int), (0 : Int), (0 : Int), { data := { toList := ([] : List UInt8) } }, (List.replicate 8 (0 : Int), ([] : List ((Int × Int) × ByteArray))), (List.replicate 8 (0 : Int), ((0 : Int), (0 : Int), ([] : List Int)), List.replicate 16 ((0 : Int), (0 : Int))), ([] : List (Int × Int × Int)))).2.2.2.2.2.2.1 != (b.getD i.toNat ((0 : Int), (0 : Int), (0 : Int), (0 : Int), (0 : Int), (0 : Int), (0 : Int), (0 : Int), { data := { toList := ([] : List UInt8) } }, (List.replicate 8 (0 : Int), ([] : List ((Int × Int) × ByteArray))), (List.replicate 8 (0 : Int), ((0 : Int), (0 : Int), ([] : List Int)), List.replicate 16 ((0 : Int), (0 : Int))), ([] : List (Int × Int × Int)))).2.2.2.2.2.2.1 || ((a.getD i.toNat ((0 : Int), (0 : Int), (0 : Int), (0 : Int), (0 : Int), (0 : Int), (0 : Int), (0 : Int), { data := { toList := ([] : List UInt8) } }, (List.replicate 8 (0 : Int), ([] : List ((Int × Int) × ByteArray))), (List.replicate 8 (0 : Int), ((0 : Int), (0 : Int), ([] : List Int)), List.replicate 16 ((0 : Int), (0 : Int))), ([] : List (Int × Int × Int)))).2.2.2.2.2.2.2.1 != (b.getD i.toNat ((0 : Int), (0 : Int), (0 : Int), (0 : Int), (0 : Int), (0 : Int), (0 : Int), (0 : Int), { data := { toList := ([] : List UInt8) } }, (List.replicate 8 (0 : Int), ([] : List ((Int × Int) × ByteArray))), (List.replicate 8 (0 : Int), ((0 : Int), (0 : Int), ([] : List Int)), List.replicate 16 ((0 : Int), (0 : Int))), ([] : List (Int × Int × Int)))).2.2.2.2.2.2.2.1 || (!(a.getD i.toNat ((0 : Int), (0 : Int), (0 : Int), (0 : Int), (0 : Int), (0 : Int), (0 : Int), (0 : Int), { data := { toList := ([] : List UInt8) } }, (List.replicate 8 (0 : Int), ([] : List ((Int × Int) × ByteArray))), (List.replicate 8 (0 : Int), ((0 : Int), (0 : Int), ([] : List Int)), List.replicate 16 ((0 : Int), (0 : Int))), ([] : List (Int × Int × Int)))).2.2.2.2.2.2.2.2.1.toList == (b.getD i.toNat ((0 : Int), (0 : Int), (0 : Int), (0 : Int), (0 : Int), (0 : Int), (0 : Int), (0 : Int), { data := { toList := ([] : List UInt8) } }, (List.replicate 8 (0 : Int), ([] : List ((Int × Int) × ByteArray))), (List.replicate 8 (0 : Int), ((0 : Int), (0 : Int), ([] : List Int)), List.replicate 16 ((0 : Int), (0 : Int))), ([] : List (Int × Int × Int)))).2.2.2.2.2.2.2.2.1.toList || (!Pl.eqB (tab 8 (a.getD i.toNat ((0 : Int), (0 : Int), (0 : Int), (0 : Int), (0 : Int), (0 : Int), (0 : Int), (0 : Int), { data := { toList := ([] : List UInt8) } }, (List.replicate 8 (0 : Int), ([] : List ((Int × Int) × ByteArray))), (List.replicate 8 (0 : Int), ((0 : Int), (0 : Int), ([] : List Int)), List.replicate 16 ((0 : Int), (0 : Int))), ([] : List (Int × Int × Int)))).2.2.2.2.2.2.2.2.2.1.1 (0 : Int), (a.getD i.toNat ((0 : Int), (0 : Int), (0 : Int), (0 : Int), (0 : Int), (0 : Int), (0 : Int), (0 : Int), { data := { toList := ([] : List UInt8) } }, (List.replicate 8 (0 : Int), ([] : List ((Int × Int) × ByteArray))), (List.replicate 8 (0 : Int), ((0 : Int), (0 : Int), ([] : List Int)), List.replicate 16 ((0 : Int), (0 : Int))), ([] : List (Int × Int × Int)))).2.2.2.2.2.2.2.2.2.1.2) (tab 8 (b.getD i.toNat ((0 : Int), (0 : Int), (0 : Int), (0 : Int), (0 : Int), (0 : Int), (0 : Int), (0 : Int), { data := { toList := ([] : List UInt8) } }, (List.replicate 8 (0 : Int), ([] : List ((Int × Int) × ByteArray))), (List.replicate 8 (0 : Int), ((0 : Int), (0 : Int), ([] : List Int)), List.replicate 16 ((0 : Int), (0 : Int))), ([] : List (Int × Int × Int)))).2.2.2.2.2.2.2.2.2.1.1 (0 : Int), (b.getD i.toNat ((0 : Int), (0 : Int), (0 : Int), (0 : Int), (0 : Int), (0 : Int), (0 : Int), (0 : Int), { data := { toList := ([] : List UInt8) } }, (List.replicate 8 (0 : Int), ([] : List ((Int × Int) × ByteArray))), (List.replicate 8 (0 : Int), ((0 : Int), (0 : Int), ([] : List Int)), List.replicate 16 ((0 : Int), (0 : Int))), ([] : List (Int × Int × Int)))).2.2.2.2.2.2.2.2.2.1.2) || (!Pl.eqR (tab 8 (a.getD i.toNat ((0 : Int), (0 : Int), (0 : Int), (0 : Int), (0 : Int), (0 : Int), (0 : Int), (0 : Int), { data := { toList := ([] : List UInt8) } }, (List.replicate 8 (0 : Int), ([] : List ((Int × Int) × ByteArray))), (List.replicate 8 (0 : Int), ((0 : Int), (0 : Int), ([] : List Int)), List.replicate 16 ((0 : Int), (0 : Int))), ([] : List (Int × Int × Int)))).2.2.2.2.2.2.2.2.2.2.1.1 (0 : Int), (a.getD i.toNat ((0 : Int), (0 : Int), (0 : Int), (0 : Int), (0 : Int), (0 : Int), (0 : Int), (0 : Int), { data := { toList := ([] : List UInt8) } }, (List.replicate 8 (0 : Int), ([] : List ((Int × Int) × ByteArray))), (List.replicate 8 (0 : Int), ((0 : Int), (0 : Int), ([] : List Int)), List.replicate 16 ((0 : Int), (0 : Int))), ([] : List (Int × Int × Int)))).2.2.2.2.2.2.2.2.2.2.1.2.1, tab 16 (a.getD i.toNat ((0 : Int), (0 : Int), (0 : Int), (0 : Int), (0 : Int), (0 : Int), (0 : Int), (0 : Int), { data := { toList := ([] : List UInt8) } }, (List.replicate 8 (0 : Int), ([] : List ((Int × Int) × ByteArray))), (List.replicate 8 (0 : Int), ((0 : Int), (0 : Int), ([] : List Int)), List.replicate 16 ((0 : Int), (0 : Int))), ([] : List (Int × Int × Int)))).2.2.2.2.2.2.2.2.2.2.1.2.2 ((0 : Int), (0 : Int))) (tab 8 (b.getD i.toNat ((0 : Int), (0 : Int), (0 : Int), (0 : Int), (0 : Int), (0 : Int), (0 : Int), (0 : Int), { data := { toList := ([] : List UInt8) } }, (List.replicate 8 (0 : Int), ([] : List ((Int × Int) × ByteArray))), (List.replicate 8 (0 : Int), ((0 : Int), (0 : Int), ([] : List Int)), List.replicate 16 ((0 : Int), (0 : Int))), ([] : List (Int × Int × Int)))).2.2.2.2.2.2.2.2.2.2.1.1 (0 : Int), (b.getD i.toNat ((0 : Int), (0 : Int), (0 : Int), (0 : Int), (0 : Int), (0 : Int), (0 : Int), (0 : Int), { data := { toList := ([] : List UInt8) } }, (List.replicate 8 (0 : Int), ([] : List ((Int × Int) × ByteArray))), (List.replicate 8 (0 : Int), ((0 : Int), (0 : Int), ([] : List Int)), List.replicate 16 ((0 : Int), (0 : Int))), ([] : List (Int × Int × Int)))).2.2.2.2.2.2.2.2.2.2.1.2.1, tab 16 (b.getD i.toNat ((0 : Int), (0 : Int), (0 : Int), (0 : Int), (0 : Int), (0 : Int), (0 : Int), (0 : Int), { data := { toList := ([] : List UInt8) } }, (List.replicate 8 (0 : Int), ([] : List ((Int × Int) × ByteArray))), (List.replicate 8 (0 : Int), ((0 : Int), (0 : Int), ([] : List Int)), List.replicate 16 ((0 : Int), (0 : Int))), ([] : List (Int × Int × Int)))).2.2.2.2.2.2.2.2.2.2.1.2.2 ((0 : Int), (0 : Int))) || !Pl.eqC (a.getD i.toNat ((0 : Int), (0 : Int), (0 : Int), (0 : Int), (0 : Int), (0 : Int), (0 : Int), (0 : Int), { data := { toList := ([] : List UInt8) } }, (List.replicate 8 (0 : Int), ([] : List ((Int × Int) × ByteArray))), (List.replicate 8 (0 : Int), ((0 : Int), (0 : Int), ([] : List Int)), List.replicate 16 ((0 : Int), (0 : Int))), ([] : List (Int × Int × Int)))).2.2.2.2.2.2.2.2.2.2.2 (b.getD i.toNat ((0 : Int), (0 : Int), (0 : Int), (0 : Int), (0 : Int), (0 : Int), (0 : Int), (0 : Int), { data := { toList := ([] : List UInt8) } }, (List.replicate 8 (0 : Int), ([] : List ((Int × Int) × ByteArray))), (List.replicate 8 (0 : Int), ((0 : Int), (0 : Int), ([] : List Int)), List.replicate 16 ((0 : Int), (0 : Int))), ([] : List (Int × Int × Int)))).2.2.2.2.2.2.2.2.2.2.2))))))))))) (
       .fork (Pl.eqM (List.drop i.toNat a) (List.drop i.toNat b)) (
        .req (False) (
         .leaf (Option.none))) (
        .req (True) (
         .leaf (Option.none)))) (
       .req (IntKind.i64.wrap (i + (1 : Int)) = IntKind.i64.wrap (i + (1 : Int)) ∧ (↑a.length : Int) = (↑a.length : Int) ∧ a = a ∧ b = b) (
        .leaf (Option.some { a := a, b := b, i0 := IntKind.i64.wrap (i + (1 : Int)) }))))))))) (
 .fork (Pl.eqM (List.drop i.toNat a) (List.drop i.toNat b)) (
  .req (True) (
   .leaf (Option.none))) (
  .req (False) (
   .leaf (Option.none)))) : Tree (Option Pl.ASm)) := by kernel_rfl
noncomputable abbrev smP : Nat × (St → Tree Out) := (0, LSm.sp)
theorem tSm (a b : List MsgD) : @Eq _
  (fnT s3 [smP] 100 Try.f15 [msgs, msgs] [i64] (a, b, ()))
  (.fork ((↑a.length : Int) != (↑b.length : Int)) (
 .leaf (((1 : Int), ()))) (
 .req ((0 : Int) ≤ (0 : Int) ∧ (0 : Int) ≤ (↑a.length : Int) ∧ a.length = b.length ∧ (↑a.length : Int) ≤ (9223372036854775807 : Int) ∧ (∀ (m : Pl.MsgD), m ∈ a → Pl.smM m) ∧ ∀ (m : Pl.MsgD), m ∈ b → Pl.smM m) (
  .req ((0 : Int) = (0 : Int) ∧ (↑a.length : Int) = (↑a.length : Int) ∧ a = a ∧ b = b) (
   .fork (Pl.eqM a b) (
    .leaf (((0 : Int), ()))) (
    .leaf (((1 : Int), ())))))) : Tree (Int × PUnit)) := by kernel_rfl
end Pl
namespace Pl
open Go Sx Go.Proofs Go.RowKit
abbrev MsgN : Type := Int × Int × Int × Int × Int × Int × Int × Int × ByteArray × BagND × RingND × List (Int × Int × Int)
theorem eqM_cons (x y : MsgN) (r s : List MsgN) : eqM (x :: r) (y :: s) = ((!(x.1 != y.1 || (x.2.1 != y.2.1 || (x.2.2.1 != y.2.2.1 || (x.2.2.2.1 != y.2.2.2.1 || (x.2.2.2.2.1 != y.2.2.2.2.1 || (x.2.2.2.2.2.1 != y.2.2.2.2.2.1 || (x.2.2.2.2.2.2.1 != y.2.2.2.2.2.2.1 || (x.2.2.2.2.2.2.2.1 != y.2.2.2.2.2.2.2.1 || (!(x.2.2.2.2.2.2.2.2.1.toList == y.2.2.2.2.2.2.2.2.1.toList) || (!(eqB x.2.2.2.2.2.2.2.2.2.1 y.2.2.2.2.2.2.2.2.2.1) || (!(eqR x.2.2.2.2.2.2.2.2.2.2.1 y.2.2.2.2.2.2.2.2.2.2.1) || !(eqC x.2.2.2.2.2.2.2.2.2.2.2 y.2.2.2.2.2.2.2.2.2.2.2))))))))))))) && eqM r s) := by
  obtain ⟨x1, x2, x3, x4, x5, x6, x7, x8, x9, x10, x11, x12⟩ := x
  obtain ⟨y1, y2, y3, y4, y5, y6, y7, y8, y9, y10, y11, y12⟩ := y
  unfold eqM eqB eqR eqC
  rw [Bool.eq_iff_iff]
  simp only [decide_eq_true_eq, List.cons.injEq, Bool.and_eq_true, beq_iff_eq, bytes_inj, Bool.not_eq_true', Bool.or_eq_false_iff, bne_eq_false_iff_eq, Bool.not_eq_false', Prod.mk.injEq]
theorem lSm : LpsOK Try.prog Try.f15 [smP] := by
  refine .cons (LSm.sound s3_ok (lps := []) (n := 100) (inner rfl) (fun _ => rfl) ?_) .nil
  rintro ⟨a, b, i⟩ ⟨h1, h2, h3, h4, h5, h6⟩
  simp only at h1 h2 h3 h4 h5 h6
  by_cases c : i < (a.length : Int)
  · have hlt : i.toNat < a.length := by omega
    have hlt' : i.toNat < b.length := by omega
    have hmx := h5 _ (List.getElem_mem hlt)
    have hmy := h6 _ (List.getElem_mem hlt')
    obtain ⟨x, hx, dx⟩ := cutN h1 hlt
    obtain ⟨y, hy, dy⟩ := cutN h1 hlt'
    rw [rSm, getD_get _ hlt, getD_get _ hlt', IntWalk.i64_in (i + 1) (by omega)]
    rw [hx] at hmx ⊢
    rw [hy] at hmy ⊢
    have hc := eqM_cons x y (a.drop (i + 1).toNat) (b.drop (i + 1).toNat)
    erw [← dx, ← dy] at hc
    obtain ⟨bx, rx, cx⟩ := id hmx
    obtain ⟨bY, ry, cy⟩ := id hmy
    have x4 : ∀ z, tab 8 x.2.2.2.2.2.2.2.2.2.1.1 z = x.2.2.2.2.2.2.2.2.2.1.1 := fun z => tab_eq bx.1
    have x5 : ∀ z, tab 8 x.2.2.2.2.2.2.2.2.2.2.1.1 z = x.2.2.2.2.2.2.2.2.2.2.1.1 := fun z => tab_eq rx.1
    have x6 : ∀ z, tab 16 x.2.2.2.2.2.2.2.2.2.2.1.2.2 z = x.2.2.2.2.2.2.2.2.2.2.1.2.2 := fun z => tab_eq rx.2.1
    have y4 : ∀ z, tab 8 y.2.2.2.2.2.2.2.2.2.1.1 z = y.2.2.2.2.2.2.2.2.2.1.1 := fun z => tab_eq bY.1
    have y5 : ∀ z, tab 8 y.2.2.2.2.2.2.2.2.2.2.1.1 z = y.2.2.2.2.2.2.2.2.2.2.1.1 := fun z => tab_eq ry.1
    have y6 : ∀ z, tab 16 y.2.2.2.2.2.2.2.2.2.2.1.2.2 z = y.2.2.2.2.2.2.2.2.2.2.1.2.2 := fun z => tab_eq ry.2.1
    rw [x4, x5, x6, y4, y5, y6]
    refine ⟨fun _ => ⟨⟨h1, c⟩, ⟨h1, c⟩, ⟨h1, by omega⟩, ⟨h1, by omega⟩, fun _ _ _ _ _ _ _ _ _ => ⟨⟨bx, bY⟩, fun _ => ⟨⟨rx, ry⟩, fun _ => cx⟩⟩, fun e => ?_, fun e => ?_⟩, fun e => absurd c (of_decide_eq_false e)⟩
    · have hf : eqM (a.drop i.toNat) (b.drop i.toNat) = false := hc.trans (by
        have e' := e
        rw [show (_ : Bool) = true from e']; rfl)
      rw [hf]
      exact ⟨fun g => (by cases g), fun _ => ⟨trivial, trivial⟩⟩
    · refine ⟨by repeat' (first | exact trivial | rfl | apply And.intro), ⟨by dsimp only; omega, by dsimp only; omega, h3, h4, h5, h6⟩, by simp only [LSm]; omega, ?_⟩
      simp only [LSm]
      have hf : eqM (a.drop i.toNat) (b.drop i.toNat) = eqM (a.drop (i + 1).toNat) (b.drop (i + 1).toNat) := hc.trans (by
        have e' := e
        rw [show (_ : Bool) = false from e']; rfl)
      rw [hf]
  · rw [rSm, drop_end c, drop_end (l := b) (by omega)]
    exact ⟨fun e => absurd (of_decide_eq_true e) c, fun _ => ⟨fun _ => ⟨trivial, trivial⟩, fun e => by simp [eqM] at e⟩⟩
theorem same23_ok : PureOK Try.prog 15 [msgs, msgs] [i64] (fun x => (List.length (α := MsgD) x.1 : Int) ≤ 9223372036854775807 ∧ (∀ m ∈ (x.1 : List MsgD), smM m) ∧ ∀ m ∈ (x.2.1 : List MsgD), smM m) (fun x => (if eqM x.1 x.2.1 then 0 else 1, ())) :=
  fn_pure (E := s3) (n := 100) s3_ok Try.func15 (by kernel_rfl) lSm fun x h => by
    obtain ⟨a, b, _⟩ : List MsgD × List MsgD × Unit := x
    obtain ⟨h, g1, g2⟩ : (List.length (α := MsgD) a : Int) ≤ 9223372036854775807 ∧ (∀ m ∈ a, smM m) ∧ ∀ m ∈ b, smM m := h
    refine Tree.all_eq (tSm a b) ?_
    refine ⟨fun e => ?_, fun e => ⟨⟨by omega, by omega, ?_, h, g1, g2⟩, by repeat' (first | exact trivial | rfl | apply And.intro), fun d => ?_, fun d => ?_⟩⟩
    · have e : ((List.length (α := MsgD) a : Int) != (List.length (α := MsgD) b : Int)) = true := e
      have hne : a ≠ b := fun g => by rw [g] at e; simp at e
      show (1, ()) = (if eqM a b then (0 : Int) else 1, ())
      unfold eqM; rw [@decide_eq_false _ (Classical.propDecidable _) hne]; rfl
    · have e : ((List.length (α := MsgD) a : Int) != (List.length (α := MsgD) b : Int)) = false := e
      simp only [bne_eq_false_iff_eq] at e
      omega
    · show (0, ()) = (if eqM a b then (0 : Int) else 1, ()); rw [d]; rfl
    · show (1, ()) = (if eqM a b then (0 : Int) else 1, ()); rw [d]; rfl
end Pl
namespace Pl
open Go Sx Go.Proofs Go.RowKit
noncomputable abbrev KSmN : Nat × Sx.Spec := (15, pureSp [msgs, msgs] [i64] (fun x => (List.length (α := MsgD) x.1 : Int) ≤ 9223372036854775807 ∧ (∀ m ∈ (x.1 : List MsgD), smM m) ∧ ∀ m ∈ (x.2.1 : List MsgD), smM m) (fun x => (if eqM x.1 x.2.1 then 0 else 1, ())))
abbrev KLg : Nat × Sx.Spec := (14, pureSp [callsN] [.bool] (fun x => ∀ c ∈ (x.1 : List CallND), ∀ m ∈ (c.2.2 : List MsgD), inM m) (fun x => (lgL x.1 0 0, ())))
noncomputable abbrev o1 : Ex := mkExM Try.prog [KCp, KLn]
theorem o1_ok : o1.Sound := mkExM_sound ⟨pureSp_ok copied_ok, fnI_ok (E := E0) E0_ok Try.func9 (by kernel_rfl) .nil, trivial⟩
noncomputable abbrev o2 : Ex := mkExM Try.prog [(13, fnI o1 [] 100 Try.f13)]
theorem o2_ok : o2.Sound := mkExM_sound ⟨fnI_ok (E := o1) o1_ok Try.func13 (by kernel_rfl) .nil, trivial⟩
noncomputable abbrev o3 : Ex := mkExM Try.prog [(13, fnI o1 [] 100 Try.f13), (10, fnI o2 [] 100 Try.f10), (8, fnI o1 [] 100 Try.f8), KLn, (12, fnI o2 [] 100 Try.f12), KAwN, KSmN, KLg]
theorem o3_ok : o3.Sound := mkExM_sound ⟨fnI_ok (E := o1) o1_ok Try.func13 (by kernel_rfl) .nil, fnI_ok (E := o2) o2_ok Try.func10 (by kernel_rfl) .nil, fnI_ok (E := o1) o1_ok Try.func8 (by kernel_rfl) .nil, fnI_ok (E := E0) E0_ok Try.func9 (by kernel_rfl) .nil, fnI_ok (E := o2) o2_ok Try.func12 (by kernel_rfl) .nil, pureSp_ok aw_okN, pureSp_ok same23_ok, pureSp_ok light_okN, trivial⟩
theorem tNl (c : CallND) : @Eq _
  (fnT o3 [] 100 Try.f6 [CallN] [.bool] (c, ()))
  (.req (∀ (c_1 : TD Pl.CallN), c_1 ∈ [c] → ∀ (m : TD Pl.MsgT), m ∈ c_1.snd.snd → Pl.inM m) (
 .fork (!Pl.lgL [c] (0 : Int) (0 : Int)) (
  .req (True) (
   .leaf ((true, ())))) (
  .req (True) (
   .fork (decide (c.2.1 < (0 : Int)) || decide (c.2.1 ≥ (0 : Int))) (
    .req (True) (
     .fork (decide (c.2.1 < (0 : Int)) || decide (c.2.1 ≥ (0 : Int))) (
      .req (True) (
       .fork (decide (c.2.1 < (0 : Int)) || decide (c.2.1 ≥ (0 : Int))) (
        .req ((2 : Int) ≤ (9223372036854775807 : Int) ∧ (∀ (m : TD Pl.MsgT), m ∈ [((0 : Int), (0 : Int), (0 : Int), (0 : Int), (0 : Int), (0 : Int), (0 : Int), (0 : Int), { data := { toList := ([] : List UInt8) } }, (List.replicate 8 (0 : Int), ([] : List ((Int × Int) × ByteArray))), (List.replicate 8 (0 : Int), ((0 : Int), (0 : Int), ([] : List Int)), List.replicate 16 ((0 : Int), (0 : Int))), ([] : List (Int × Int × Int))), ((0 : Int), (0 : Int), (0 : Int), (0 : Int), (0 : Int), (0 : Int), (0 : Int), (0 : Int), { data := { toList := ([] : List UInt8) } }, (List.replicate 8 (0 : Int), ([] : List ((Int × Int) × ByteArray))), (List.replicate 8 (0 : Int), ((0 : Int), (0 : Int), ([] : List Int)), List.replicate 16 ((0 : Int), (0 : Int))), ([] : List (Int × Int × Int)))] → Pl.smM m) ∧ ∀ (m : TD Pl.MsgT), m ∈ [((0 : Int), (0 : Int), (0 : Int), (0 : Int), (0 : Int), (0 : Int), (0 : Int), (0 : Int), { data := { toList := ([] : List UInt8) } }, (List.replicate 8 (0 : Int), ([] : List ((Int × Int) × ByteArray))), (List.replicate 8 (0 : Int), ((0 : Int), (0 : Int), ([] : List Int)), List.replicate 16 ((0 : Int), (0 : Int))), ([] : List (Int × Int × Int))), ((0 : Int), (0 : Int), (0 : Int), (0 : Int), (0 : Int), (0 : Int), (0 : Int), (0 : Int), { data := { toList := ([] : List UInt8) } }, (List.replicate 8 (0 : Int), ([] : List ((Int × Int) × ByteArray))), (List.replicate 8 (0 : Int), ((0 : Int), (0 : Int), ([] : List Int)), List.replicate 16 ((0 : Int), (0 : Int))), ([] : List (Int × Int × Int)))] → Pl.smM m) (
         .fork ((if Pl.eqM [((0 : Int), (0 : Int), (0 : Int), (0 : Int), (0 : Int), (0 : Int), (0 : Int), (0 : Int), { data := { toList := ([] : List UInt8) } }, (List.replicate 8 (0 : Int), ([] : List ((Int × Int) × ByteArray))), (List.replicate 8 (0 : Int), ((0 : Int), (0 : Int), ([] : List Int)), List.replicate 16 ((0 : Int), (0 : Int))), ([] : List (Int × Int × Int))), ((0 : Int), (0 : Int), (0 : Int), (0 : Int), (0 : Int), (0 : Int), (0 : Int), (0 : Int), { data := { toList := ([] : List UInt8) } }, (List.replicate 8 (0 : Int), ([] : List ((Int × Int) × ByteArray))), (List.replicate 8 (0 : Int), ((0 : Int), (0 : Int), ([] : List Int)), List.replicate 16 ((0 : Int), (0 : Int))), ([] : List (Int × Int × Int)))] [((0 : Int), (0 : Int), (0 : Int), (0 : Int), (0 : Int), (0 : Int), (0 : Int), (0 : Int), { data := { toList := ([] : List UInt8) } }, (List.replicate 8 (0 : Int), ([] : List ((Int × Int) × ByteArray))), (List.replicate 8 (0 : Int), ((0 : Int), (0 : Int), ([] : List Int)), List.replicate 16 ((0 : Int), (0 : Int))), ([] : List (Int × Int × Int))), ((0 : Int), (0 : Int), (0 : Int), (0 : Int), (0 : Int), (0 : Int), (0 : Int), (0 : Int), { data := { toList := ([] : List UInt8) } }, (List.replicate 8 (0 : Int), ([] : List ((Int × Int) × ByteArray))), (List.replicate 8 (0 : Int), ((0 : Int), (0 : Int), ([] : List Int)), List.replicate 16 ((0 : Int), (0 : Int))), ([] : List (Int × Int × Int)))] = true then (0 : Int) else (1 : Int)) == (0 : Int)) (
          .req (True) (
           .leaf ((true, ())))) (
          .leaf ((false, ()))))) (
        .fail "nil check"))) (
      .fail "nil check"))) (
    .fail "nil check")))) : Tree (Bool × PUnit)) := by kernel_rfl
end Pl
namespace Pl
open Go Sx Go.Proofs Go.RowKit
theorem good_msg {m : MsgD} (h : Sx.Good MsgT m) : inM m := by
  obtain ⟨_, _, _, _, _, _, _, _, _, ⟨⟨hb, _⟩, hv, _⟩, ⟨⟨hs, _⟩, _, hp, _⟩, hc, _⟩ := h
  refine ⟨hb, ?_, hs, hp⟩
  have : List.length (α := ValD) m.2.2.2.2.2.2.2.2.2.1.2 ≤ 9223372036854775807 := hv
  omega
theorem good_call {c : CallND} (h : Sx.Good CallN c) : ∀ m ∈ (c.2.2 : List MsgD), inM m := fun m hm => good_msg (h.2.2.2 m hm)
theorem eqM_self (a : List MsgD) : eqM a a = true := @decide_eq_true _ (Classical.propDecidable _) rfl
def zS : MsgD := (0, 0, 0, 0, 0, 0, 0, 0, ByteArray.mk (Array.mk []), (List.replicate 8 0, []), (List.replicate 8 0, (0, 0, []), List.replicate 16 (0, 0)), [])
theorem smM_z : smM zS := by
  refine ⟨⟨rfl, ?_⟩, ⟨rfl, rfl, ?_⟩, ?_⟩ <;> decide
theorem netnil_ok : PureOK Try.prog 6 [CallN] [.bool] (fun x => ∀ m ∈ (x.1.2.2 : List MsgD), inM m) (fun _ => (true, ())) :=
  fn_pure (E := o3) (n := 100) o3_ok Try.func6 (by kernel_rfl) .nil fun x h => by
    obtain ⟨c, _⟩ : CallND × Unit := x
    have h : ∀ m ∈ (c.2.2 : List MsgD), inM m := h
    refine Tree.all_eq (tNl c) ?_
    have hd : (decide (c.2.1 < 0) || decide (c.2.1 ≥ 0)) = true := by
      rcases Int.lt_or_le c.2.1 0 with g | g
      · rw [decide_eq_true g]; rfl
      · rw [decide_eq_true (show c.2.1 ≥ 0 from g), Bool.or_true]
    rw [hd, if_pos (eqM_self _)]
    have hz : ∀ m ∈ [zS, zS], smM m := fun m hm => by
      simp only [List.mem_cons, List.not_mem_nil, or_false] at hm
      rcases hm with rfl | rfl <;> exact smM_z
    refine ⟨fun d hd m hm => ?_, fun _ => ⟨trivial, rfl⟩, fun _ => ⟨trivial, fun _ => ⟨trivial, fun _ => ⟨trivial, fun _ => ⟨⟨by decide, hz, hz⟩, fun _ => ⟨trivial, rfl⟩, fun e => by cases e⟩, fun e => by cases e⟩, fun e => by cases e⟩, fun e => by cases e⟩⟩
    have hd : d = c := List.mem_singleton.1 hd
    subst hd
    exact h m hm
end Pl
