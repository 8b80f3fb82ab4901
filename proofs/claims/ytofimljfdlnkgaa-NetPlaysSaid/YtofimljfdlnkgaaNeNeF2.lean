import Derived.Test.YtofimljfdlnkgaaNeNeS2
import Derived.Test.YtofimljfdlnkgaaSx25
namespace Pl
open Go Sx Go.Proofs Go.RowKit
theorem cmpI_zeroN {a b : Int} : cmpI a b = 0 ↔ a = b := by
  unfold cmpI; split <;> (try split) <;> omega
theorem cmpL_zeroN : ∀ l m : List Int, cmpL l m = 0 ↔ l = m
  | [], [] => by simp [cmpL]
  | [], _ :: _ => by simp [cmpL]
  | _ :: _, [] => by simp [cmpL]
  | x :: r, y :: s => by
    simp only [cmpL, List.cons.injEq]
    split
    · rename_i h; rw [cmpL_zeroN r s, cmpI_zeroN.1 h]; simp
    · rename_i h
      have : ¬ x = y := fun e => h (cmpI_zeroN.2 e)
      simp [h, this]
theorem cmpP_zeroN (p q : PlanD) : cmpP p q = 0 ↔ p = q := by
  obtain ⟨v, b, l⟩ := p
  obtain ⟨v', b', l'⟩ := q
  simp only [cmpP, orL, Prod.mk.injEq]
  constructor
  · intro h
    split at h
    · rename_i h1
      split at h
      · rename_i h2
        split at h
        · split at h
          · rename_i h4; exact ⟨cmpI_zeroN.1 h1, cmpI_zeroN.1 h2, (cmpL_zeroN _ _).1 h4⟩
          · rename_i h4; exact absurd h h4
        · rename_i h3; exact absurd h h3
      · rename_i h2; exact absurd h h2
    · rename_i h1; exact absurd h h1
  · rintro ⟨rfl, rfl, rfl⟩
    simp [cmpI_zeroN.2, (cmpL_zeroN _ _).2]
theorem eq8N {a b : List Int} (ha : a.length = 8) (hb : b.length = 8) : (a.getD 0 0 == b.getD 0 0 && (a.getD 1 0 == b.getD 1 0 && (a.getD 2 0 == b.getD 2 0 && (a.getD 3 0 == b.getD 3 0 && (a.getD 4 0 == b.getD 4 0 && (a.getD 5 0 == b.getD 5 0 && (a.getD 6 0 == b.getD 6 0 && (a.getD 7 0 == b.getD 7 0 && true)))))))) = decide (a = b) := by
  obtain ⟨a0, a1, a2, a3, a4, a5, a6, a7, rfl⟩ := len8 ha
  obtain ⟨b0, b1, b2, b3, b4, b5, b6, b7, rfl⟩ := len8 hb
  rw [Bool.eq_iff_iff]; simp
theorem eq16N {a b : List (Int × Int)} (ha : a.length = 16) (hb : b.length = 16) : (((a.getD 0 (0, 0)).1 == (b.getD 0 (0, 0)).1 && ((a.getD 0 (0, 0)).2 == (b.getD 0 (0, 0)).2 && true)) && (((a.getD 1 (0, 0)).1 == (b.getD 1 (0, 0)).1 && ((a.getD 1 (0, 0)).2 == (b.getD 1 (0, 0)).2 && true)) && (((a.getD 2 (0, 0)).1 == (b.getD 2 (0, 0)).1 && ((a.getD 2 (0, 0)).2 == (b.getD 2 (0, 0)).2 && true)) && (((a.getD 3 (0, 0)).1 == (b.getD 3 (0, 0)).1 && ((a.getD 3 (0, 0)).2 == (b.getD 3 (0, 0)).2 && true)) && (((a.getD 4 (0, 0)).1 == (b.getD 4 (0, 0)).1 && ((a.getD 4 (0, 0)).2 == (b.getD 4 (0, 0)).2 && true)) && (((a.getD 5 (0, 0)).1 == (b.getD 5 (0, 0)).1 && ((a.getD 5 (0, 0)).2 == (b.getD 5 (0, 0)).2 && true)) && (((a.getD 6 (0, 0)).1 == (b.getD 6 (0, 0)).1 && ((a.getD 6 (0, 0)).2 == (b.getD 6 (0, 0)).2 && true)) && (((a.getD 7 (0, 0)).1 == (b.getD 7 (0, 0)).1 && ((a.getD 7 (0, 0)).2 == (b.getD 7 (0, 0)).2 && true)) && (((a.getD 8 (0, 0)).1 == (b.getD 8 (0, 0)).1 && ((a.getD 8 (0, 0)).2 == (b.getD 8 (0, 0)).2 && true)) && (((a.getD 9 (0, 0)).1 == (b.getD 9 (0, 0)).1 && ((a.getD 9 (0, 0)).2 == (b.getD 9 (0, 0)).2 && true)) && (((a.getD 10 (0, 0)).1 == (b.getD 10 (0, 0)).1 && ((a.getD 10 (0, 0)).2 == (b.getD 10 (0, 0)).2 && true)) && (((a.getD 11 (0, 0)).1 == (b.getD 11 (0, 0)).1 && ((a.getD 11 (0, 0)).2 == (b.getD 11 (0, 0)).2 && true)) && (((a.getD 12 (0, 0)).1 == (b.getD 12 (0, 0)).1 && ((a.getD 12 (0, 0)).2 == (b.getD 12 (0, 0)).2 && true)) && (((a.getD 13 (0, 0)).1 == (b.getD 13 (0, 0)).1 && ((a.getD 13 (0, 0)).2 == (b.getD 13 (0, 0)).2 && true)) && (((a.getD 14 (0, 0)).1 == (b.getD 14 (0, 0)).1 && ((a.getD 14 (0, 0)).2 == (b.getD 14 (0, 0)).2 && true)) && (((a.getD 15 (0, 0)).1 == (b.getD 15 (0, 0)).1 && ((a.getD 15 (0, 0)).2 == (b.getD 15 (0, 0)).2 && true)) && true)))))))))))))))) = decide (a = b) := by
  obtain ⟨a0, a1, a2, a3, a4, a5, a6, a7, a8, a9, a10, a11, a12, a13, a14, a15, rfl⟩ := len16 ha
  obtain ⟨b0, b1, b2, b3, b4, b5, b6, b7, b8, b9, b10, b11, b12, b13, b14, b15, rfl⟩ := len16 hb
  rw [Bool.eq_iff_iff]
  simp only [List.getD_cons_zero, List.getD_cons_succ, Bool.and_eq_true, Bool.and_true, beq_iff_eq, decide_eq_true_eq, List.cons.injEq, and_true, Prod.ext_iff]
abbrev RingND : Type := List Int × PlanD × List (Int × Int)
abbrev BagND : Type := List Int × List ((Int × Int) × ByteArray)
def eqR (a b : RingND) : Bool := decide (a = b)
def eqB (a b : BagND) : Bool := decide (a = b)
def inR (r : RingND) : Prop := r.1.length = 8 ∧ r.2.2.length = 16 ∧ (r.2.1.2.2.length : Int) < big
def inB (b : BagND) : Prop := b.1.length = 8 ∧ (b.2.length : Int) ≤ 9223372036854775807
theorem rsameN_ok : PureOK Try.prog 20 [RingN, RingN] [.bool] (fun x => inR x.1 ∧ inR x.2.1) (fun x => (eqR x.1 x.2.1, ())) :=
  fn_pure (E := s2) (n := 100) s2_ok Try.func20 (by kernel_rfl) .nil fun x h => Tree.all_eq (tRs x.1 x.2.1) (by
    obtain ⟨⟨a, p, e⟩, ⟨b, q, f⟩, _⟩ : RingND × RingND × Unit := x
    obtain ⟨⟨h1, h2, h3⟩, h4, h5, h6⟩ : inR (a, p, e) ∧ inR (b, q, f) := h
    simp only at h1 h2 h3 h4 h5 h6
    show Tree.all _ fun y => y = (eqR (a, p, e) (b, q, f), ())
    rw [eq8N h1 h4, eq16N h2 h5]
    refine ⟨fun _ => fun _ => h3, ?_⟩
    refine congrArg (fun z => (z, ())) ?_
    unfold eqR
    rw [Bool.eq_iff_iff]
    simp only [Bool.and_eq_true, decide_eq_true_eq, beq_iff_eq, cmpP_zeroN, Prod.mk.injEq]
    constructor
    · rintro ⟨x1, x2, x3⟩; exact ⟨x1, x3, x2⟩
    · rintro ⟨x1, x3, x2⟩; exact ⟨x1, x2, x3⟩)
theorem bsameN_ok : PureOK Try.prog 19 [BagT, BagT] [.bool] (fun x => inB x.1 ∧ inB x.2.1) (fun x => (eqB x.1 x.2.1, ())) :=
  fn_pure (E := s2) (n := 100) s2_ok Try.func19 (by kernel_rfl) .nil fun x h => Tree.all_eq (tBs x.1 x.2.1) (by
    obtain ⟨⟨a, p⟩, ⟨b, q⟩, _⟩ : BagND × BagND × Unit := x
    obtain ⟨⟨h1, h2⟩, h4, h5⟩ : inB (a, p) ∧ inB (b, q) := h
    simp only at h1 h2 h4 h5
    show Tree.all _ fun y => y = (eqB (a, p) (b, q), ())
    rw [eq8N h1 h4]
    refine ⟨fun _ => h2, ?_⟩
    refine congrArg (fun z => (z, ())) ?_
    unfold eqB eqV
    rw [Bool.eq_iff_iff]
    simp only [Bool.and_eq_true, decide_eq_true_eq, Prod.mk.injEq])
abbrev KRs : Nat × Sx.Spec := (20, pureSp [RingN, RingN] [.bool] (fun x => inR x.1 ∧ inR x.2.1) (fun x => (eqR x.1 x.2.1, ())))
abbrev KBs : Nat × Sx.Spec := (19, pureSp [BagT, BagT] [.bool] (fun x => inB x.1 ∧ inB x.2.1) (fun x => (eqB x.1 x.2.1, ())))
abbrev KCe : Nat × Sx.Spec := (21, pureSp [.slice Cl3, .slice Cl3] [.bool] (fun x => (List.length (α := TD Cl3) x.1 : Int) ≤ 9223372036854775807) (fun x => (eqC x.1 x.2.1, ())))
noncomputable abbrev s3 : Ex := mkExM Try.prog [KRs, KBs, KCe]
theorem s3_ok : s3.Sound := mkExM_sound ⟨pureSp_ok rsameN_ok, pureSp_ok bsameN_ok, pureSp_ok ceq_ok, trivial⟩
def smM (m : MsgD) : Prop := inB m.2.2.2.2.2.2.2.2.2.1 ∧ inR m.2.2.2.2.2.2.2.2.2.2.1 ∧ (List.length (α := TD Cl3) m.2.2.2.2.2.2.2.2.2.2.2 : Int) ≤ 9223372036854775807
noncomputable def eqM (a b : List MsgD) : Bool := @decide (a = b) (Classical.propDecidable _)
structure ASm where
  a : List Pl.MsgD
  b : List Pl.MsgD
  i0 : Int
noncomputable def LSm : LoopC ASm where
  n0 := 2
  det st := match rowS st 13 MsgT, rowS st 1 MsgT, intS st 15 with | some a, some b, some i0 => some ⟨a, b, i0⟩ | _, _, _ => none
  inv a := ⟨[(15, iv a.i0), (14, iv (↑a.a.length : Int)), (13, .one (.row 0)), (1, .one (.row 1))],
    [(0, Gb.ro MsgT a.a), (1, Gb.ro MsgT a.b)], 2⟩
  ok a := 0 ≤ a.i0 ∧ a.i0 ≤ a.a.length ∧ a.a.length = a.b.length ∧ (a.a.length : Int) ≤ 9223372036854775807 ∧ (∀ m ∈ a.a, smM m) ∧ ∀ m ∈ a.b, smM m
  mu a := a.a.length - a.i0.toNat
  fin a := .fork (eqM (a.a.drop a.i0.toNat) (a.b.drop a.i0.toNat)) (.leaf ⟨2, ⟨[], [], 2⟩⟩) (.leaf ⟨1, ⟨[(4, .one (.cint IntKind.i64 (1 : Int)))], [], 2⟩⟩)
theorem rSm (a b : List MsgD) (i : Int) : @Eq _
  (LSm.round s3 [] 100 Try.f15 0 ⟨a, b, i⟩)
  (.fork (decide (i < (↑a.length : Int))) (
 .req ((0 : Int) ≤ i ∧ i < (↑a.length : Int)) (
  .req ((0 : Int) ≤ i ∧ i < (↑a.length : Int)) (
   .req ((0 : Int) ≤ i ∧ i < (↑b.length : Int)) (
    .req ((0 : Int) ≤ i ∧ i < (↑b.length : Int)) (
     .req (((a.getD i.toNat ((0 : Int), (0 : Int), (0 : Int), (0 : Int), (0 : Int), (0 : Int), (0 : Int), (0 : Int), { data := { toList := ([] : List UInt8) } }, (List.replicate 8 (0 : Int), ([] : List ((Int × Int) × ByteArray))), (List.replicate 8 (0 : Int), ((0 : Int), (0 : Int), ([] : List Int)), List.replicate 16 ((0 : Int), (0 : Int))), ([] : List (Int × Int × Int)))).1 != (b.getD i.toNat ((0 : Int), (0 : Int), (0 : Int), (0 : Int), (0 : Int), (0 : Int), (0 : Int), (0 : Int), { data := { toList := ([] : List UInt8) } }, (List.replicate 8 (0 : Int), ([] : List ((Int × Int) × ByteArray))), (List.replicate 8 (0 : Int), ((0 : Int), (0 : Int), ([] : List Int)), List.replicate 16 ((0 : Int), (0 : Int))), ([] : List (Int × Int × Int)))).1) = false → conjP [((a.getD i.toNat ((0 : Int), (0 : Int), (0 : Int), (0 : Int), (0 : Int), (0 : Int), (0 : Int), (0 : Int), { data := { toList := ([] : List UInt8) } }, (List.replicate 8 (0 : Int), ([] : List ((Int × Int) × ByteArray))), (List.replicate 8 (0 : Int), ((0 : Int), (0 : Int), ([] : List Int)), List.replicate 16 ((0 : Int), (0 : Int))), ([] : List (Int × Int × Int)))).2.1 != (b.getD i.toNat ((0 : Int), (0 : Int), (0 : Int), (0 : Int), (0 : Int), (0 : Int), (0 : Int), (0 : Int), { data := { toList := ([] : List UInt8) } }, (List.replicate 8 (0 : Int), ([] : List ((Int × Int) × ByteArray))), (List.replicate 8 (0 : Int), ((0 : Int), (0 : Int), ([] : List Int)), List.replicate 16 ((0 : Int), (0 : Int))), ([] : List (Int × Int × Int)))).2.1) = false → conjP [((a.getD i.toNat ((0 : Int), (0 : Int), (0 : Int), (0 : Int), (0 : Int), (0 : Int), (0 : Int), (0 : Int), { data := { toList := ([] : List UInt8) } }, (List.replicate 8 (0 : Int), ([] : List ((Int × Int) × ByteArray))), (List.replicate 8 (0 : Int), ((0 : Int), (0 : Int), ([] : List Int)), List.replicate 16 ((0 : Int), (0 : Int))), ([] : List (Int × Int × Int)))).2.2.1 != (b.getD i.toNat ((0 : Int), (0 : Int), (0 : Int), (0 : Int), (0 : Int), (0 : Int), (0 : Int), (0 : Int), { data := { toList := ([] : List UInt8) } }, (List.replicate 8 (0 : Int), ([] : List ((Int × Int) × ByteArray))), (List.replicate 8 (0 : Int), ((0 : Int), (0 : Int), ([] : List Int)), List.replicate 16 ((0 : Int), (0 : Int))), ([] : List (Int × Int × Int)))).2.2.1) = false → conjP [((a.getD i.toNat ((0 : Int), (0 : Int), (0 : Int), (0 : Int), (0 : Int), (0 : Int), (0 : Int), (0 : Int), { data := { toList := ([] : List UInt8) } }, (List.replicate 8 (0 : Int), ([] : List ((Int × Int) × ByteArray))), (List.replicate 8 (0 : Int), ((0 : Int), (0 : Int), ([] : List Int)), List.replicate 16 ((0 : Int), (0 : Int))), ([] : List (Int × Int × Int)))).2.2.2.1 != (b.getD i.toNat ((0 : Int), (0 : Int), (0 : Int), (0 : Int), (0 : Int), (0 : Int), (0 : Int), (0 : Int), { data := { toList := ([] : List UInt8) } }, (List.replicate 8 (0 : Int), ([] : List ((Int × Int) × ByteArray))), (List.replicate 8 (0 : Int), ((0 : Int), (0 : Int), ([] : List Int)), List.replicate 16 ((0 : Int), (0 : Int))), ([] : List (Int × Int × Int)))).2.2.2.1) = false → conjP [((a.getD i.toNat ((0 : Int), (0 : Int), (0 : Int), (0 : Int), (0 : Int), (0 : Int), (0 : Int), (0 : Int), { data := { toList := ([] : List UInt8) } }, (List.replicate 8 (0 : Int), ([] : List ((Int × Int) × ByteArray))), (List.replicate 8 (0 : Int), ((0 : Int), (0 : Int), ([] : List Int)), List.replicate 16 ((0 : Int), (0 : Int))), ([] : List (Int × Int × Int)))).2.2.2.2.1 != (b.getD i.toNat ((0 : Int), (0 : Int), (0 : Int), (0 : Int), (0 : Int), (0 : Int), (0 : Int), (0 : Int), { data := { toList := ([] : List UInt8) } }, (List.replicate 8 (0 : Int), ([] : List ((Int × Int) × ByteArray))), (List.replicate 8 (0 : Int), ((0 : Int), (0 : Int), ([] : List Int)), List.replicate 16 ((0 : Int), (0 : Int))), ([] : List (Int × Int × Int)))).2.2.2.2.1) = false → conjP [((a.getD i.toNat ((0 : Int), (0 : Int), (0 : Int), (0 : Int), (0 : Int), (0 : Int), (0 : Int), (0 : Int), { data := { toList := ([] : List UInt8) } }, (List.replicate 8 (0 : Int), ([] : List ((Int × Int) × ByteArray))), (List.replicate 8 (0 : Int), ((0 : Int), (0 : Int), ([] : List Int)), List.replicate 16 ((0 : Int), (0 : Int))), ([] : List (Int × Int × Int)))).2.2.2.2.2.1 != (b.getD i.toNat ((0 : Int), (0 : Int), (0 : Int), (0 : Int), (0 : Int), (0 : Int), (0 : Int), (0 : Int), { data := { toList := ([] : List UInt8) } }, (List.replicate 8 (0 : Int), ([] : List ((Int × Int) × ByteArray))), (List.replicate 8 (0 : Int), ((0 : Int), (0 : Int), ([] : List Int)), List.replicate 16 ((0 : Int), (0 : Int))), ([] : List (Int × Int × Int)))).2.2.2.2.2.1) = false → conjP [((a.getD i.toNat ((0 : Int), (0 : Int), (0 : Int), (0 : Int), (0 : Int), (0 : Int), (0 : Int), (0 : Int), { data := { toList := ([] : List UInt8) } }, (List.replicate 8 (0 : Int), ([] : List ((Int × Int) × ByteArray))), (List.replicate 8 (0 : Int), ((0 : Int), (0 : Int), ([] : List Int)), List.replicate 16 ((0 : Int), (0 : Int))), ([] : List (Int × Int × Int)))).2.2.2.2.2.2.1 != (b.getD i.toNat ((0 : Int), (0 : Int), (0 : Int), (0 : Int), (0 : Int), (0 : Int), (0 : Int), (0 : Int), { data := { toList := ([] : List UInt8) } }, (List.replicate 8 (0 : Int), ([] : List ((Int × Int) × ByteArray))), (List.replicate 8 (0 : Int), ((0 : Int), (0 : Int), ([] : List Int)), List.replicate 16 ((0 : Int), (0 : Int))), ([] : List (Int × Int × Int)))).2.2.2.2.2.2.1) = false → conjP [((a.getD i.toNat ((0 : Int), (0 : Int), (0 : Int), (0 : Int), (0 : Int), (0 : Int), (0 : Int), (0 : Int), { data := { toList := ([] : List UInt8) } }, (List.replicate 8 (0 : Int), ([] : List ((Int × Int) × ByteArray))), (List.replicate 8 (0 : Int), ((0 : Int), (0 : Int), ([] : List Int)), List.replicate 16 ((0 : Int), (0 : Int))), ([] : List (Int × Int × Int)))).2.2.2.2.2.2.2.1 != (b.getD i.toNat ((0 : Int), (0 : Int), (0 : Int), (0 : Int), (0 : Int), (0 : Int), (0 : Int), (0 : Int), { data := { toList := ([] : List UInt8) } }, (List.replicate 8 (0 : Int), ([] : List ((Int × Int) × ByteArray))), (List.replicate 8 (0 : Int), ((0 : Int), (0 : Int), ([] : List Int)), List.replicate 16 ((0 : Int), (0 : Int))), ([] : List (Int × Int × Int)))).2.2.2.2.2.2.2.1) = false → conjP [(!(a.getD i.toNat ((0 : Int), (0 : Int), (0 : Int), (0 : Int), (0 : Int), (0 : Int), (0 : Int), (0 : Int), { data := { toList := ([] : List UInt8) } }, (List.replicate 8 (0 : Int), ([] : List ((Int × Int) × ByteArray))), (List.replicate 8 (0 : Int), ((0 : Int), (0 : Int), ([] : List Int)), List.replicate 16 ((0 : Int), (0 : Int))), ([] : List (Int × Int × Int)))).2.2.2.2.2.2.2.2.1.toList == (b.getD i.toNat ((0 : Int), (0 : Int), (0 : Int), (0 : Int), (0 : Int), (0 : Int), (0 : Int), (0 : Int), { data := { toList := ([] : List UInt8) } }, (List.replicate 8 (0 : Int), ([] : List ((Int × Int) × ByteArray))), (List.replicate 8 (0 : Int), ((0 : Int), (0 : Int), ([] : List Int)), List.replicate 16 ((0 : Int), (0 : Int))), ([] : List (Int × Int × Int)))).2.2.2.2.2.2.2.2.1.toList) = false → conjP [Pl.inB (tab 8 (a.getD i.toNat ((0 : Int), (0 : Int), (0 : Int), (0 : Int), (0 : Int), (0 : Int), (0 : Int), (0 : Int), { data := { toList := ([] : List UInt8) } }, (List.replicate 8 (0 : Int), ([] : List ((Int × Int) × ByteArray))), (List.replicate 8 (0 : Int), ((0 : Int), (0 : Int), ([] : List Int)), List.replicate 16 ((0 : Int), (0 : Int))), ([] : List (Int × Int × Int)))).2.2.2.2.2.2.2.2.2.1.1 (0 : Int), (a.getD i.toNat ((0 : Int), (0 : Int), (0 : Int), (0 : Int), (0 : Int), (0 : Int), (0 : Int), (0 : Int), { data := { toList := ([] : List UInt8) } }, (List.replicate 8 (0 : Int), ([] : List ((Int × Int) × ByteArray))), (List.replicate 8 (0 : Int), ((0 : Int), (0 : Int), ([] : List Int)), List.replicate 16 ((0 : Int), (0 : Int))), ([] : List (Int × Int × Int)))).2.2.2.2.2.2.2.2.2.1.2) ∧ Pl.inB (tab 8 (b.getD i.toNat ((0 : Int), (0 : Int), (0 : Int), (0 : Int), (0 : Int), (0 : Int), (0 : Int), (0 : Int), { data := { toList := ([] : List UInt8) } }, (List.replicate 8 (0 : Int), ([] : List ((Int × Int) × ByteArray))), (List.replicate 8 (0 : Int), ((0 : Int), (0 : Int), ([] : List Int)), List.replicate 16 ((0 : Int), (0 : Int))), ([] : List (Int × Int × Int)))).2.2.2.2.2.2.2.2.2.1.1 (0 : Int), (b.getD i.toNat ((0 : Int), (0 : Int), (0 : Int), (0 : Int), (0 : Int), (0 : Int), (0 : Int), (0 : Int), { data := { toList := ([] : List UInt8) } }, (List.replicate 8 (0 : Int), ([] : List ((Int × Int) × ByteArray))), (List.replicate 8 (0 : Int), ((0 : Int), (0 : Int), ([] : List Int)), List.replicate 16 ((0 : Int), (0 : Int))), ([] : List (Int × Int × Int)))).2.2.2.2.2.2.2.2.2.1.2), (!Pl.eqB (tab 8 (a.getD i.toNat ((0 : Int), (0 : Int), (0 : Int), (0 : Int), (0 : Int), (0 : Int), (0 : Int), (0 : Int), { data := { toList := ([] : List UInt8) } }, (List.replicate 8 (0 : Int), ([] : List ((Int × Int) × ByteArray))), (List.replicate 8 (0 : Int), ((0 : Int), (0 : Int), ([] : List Int)), List.replicate 16 ((0 : Int), (0 : Int))), ([] : List (Int × Int × Int)))).2.2.2.2.2.2.2.2.2.1.1 (0 : Int), (a.getD i.toNat ((0 : Int), (0 : Int), (0 : Int), (0 : Int), (0 : Int), (0 : Int), (0 : Int), (0 : Int), { data := { toList := ([] : List UInt8) } }, (List.replicate 8 (0 : Int), ([] : List ((Int × Int) × ByteArray))), (List.replicate 8 (0 : Int), ((0 : Int), (0 : Int), ([] : List Int)), List.replicate 16 ((0 : Int), (0 : Int))), ([] : List (Int × Int × Int)))).2.2.2.2.2.2.2.2.2.1.2) (tab 8 (b.getD i.toNat ((0 : Int), (0 : Int), (0 : Int), (0 : Int), (0 : Int), (0 : Int), (0 : Int), (0 : Int), { data := { toList := ([] : List UInt8) } }, (List.replicate 8 (0 : Int), ([] : List ((Int × Int) × ByteArray))), (List.replicate 8 (0 : Int), ((0 : Int), (0 : Int), ([] : List Int)), List.replicate 16 ((0 : Int), (0 : Int))), ([] : List (Int × Int × Int)))).2.2.2.2.2.2.2.2.2.1.1 (0 : Int), (b.getD i.toNat ((0 : Int), (0 : Int), (0 : Int), (0 : Int), (0 : Int), (0 : Int), (0 : Int), (0 : Int), { data := { toList := ([] : List UInt8) } }, (List.replicate 8 (0 : Int), ([] : List ((Int × Int) × ByteArray))), (List.replicate 8 (0 : Int), ((0 : Int), (0 : Int), ([] : List Int)), List.replicate 16 ((0 : Int), (0 : Int))), ([] : List (Int × Int × Int)))).2.2.2.2.2.2.2.2.2.1.2)) = false → conjP [Pl.inR (tab 8 (a.getD i.toNat ((0 : Int), (0 : Int), (0 : Int), (0 : Int), (0 : Int), (0 : Int), (0 : Int), (0 : Int), { data := { toList := ([] : List UInt8) } }, (List.replicate 8 (0 : Int), ([] : List ((Int × Int) × ByteArray))), (List.replicate 8 (0 : Int), ((0 : Int), (0 : Int), ([] : List Int)), List.replicate 16 ((0 : Int), (0 : Int))), ([] : List (Int × Int × Int)))).2.2.2.2.2.2.2.2.2.2.1.1 (0 : Int), (a.getD i.toNat ((0 : Int), (0 : Int), (0 : Int), (0 : Int), (0 : Int), (0 : Int), (0 : Int), (0 : Int), { data := { toList := ([] : List UInt8) } }, (List.replicate 8 (0 : Int), ([] : List ((Int × Int) × ByteArray))), (List.replicate 8 (0 : Int), ((0 : Int), (0 : Int), ([] : List Int)), List.replicate 16 ((0 : Int), (0 : Int))), ([] : List (Int × Int × Int)))).2.2.2.2.2.2.2.2.2.2.1.2.1, tab 16 (a.getD i.toNat ((0 : Int), (0 : Int), (0 : Int), (0 : Int), (0 : Int), (0 : Int), (0 : Int), (0 : Int), { data := { toList := ([] : List UInt8) } }, (List.replicate 8 (0 : Int), ([] : List ((Int × Int) × ByteArray))), (List.replicate 8 (0 : Int), ((0 : Int), (0 : Int), ([] : List Int)), List.replicate 16 ((0 : Int), (0 : Int))), ([] : List (Int × Int × Int)))).2.2.2.2.2.2.2.2.2.2.1.2.2 ((0 : Int), (0 : Int))) ∧ Pl.inR (tab 8 (b.getD i.toNat ((0 : Int), (0 : Int), (0 : Int), (0 : Int), (0 : Int), (0 : Int), (0 : Int), (0 : Int), { data := { toList := ([] : List UInt8) } }, (List.replicate 8 (0 : Int), ([] : List ((Int × Int) × ByteArray))), (List.replicate 8 (0 : Int), ((0 : Int), (0 : Int), ([] : List Int)), List.replicate 16 ((0 : Int), (0 : Int))), ([] : List (Int × Int × Int)))).2.2.2.2.2.2.2.2.2.2.1.1 (0 : Int), (b.getD i.toNat ((0 : Int), (0 : Int), (0 : Int), (0 : Int), (0 : Int), (0 : Int), (0 : Int), (0 : Int), { data := { toList := ([] : List UInt8) } }, (List.replicate 8 (0 : Int), ([] : List ((Int × Int) × ByteArray))), (List.replicate 8 (0 : Int), ((0 : Int), (0 : Int), ([] : List Int)), List.replicate 16 ((0 : Int), (0 : Int))), ([] : List (Int × Int × Int)))).2.2.2.2.2.2.2.2.2.2.1.2.1, tab 16 (b.getD i.toNat ((0 : Int), (0 : Int), (0 : Int), (0 : Int), (0 : Int), (0 : Int), (0 : Int), (0 : Int), { data := { toList := ([] : List UInt8) } }, (List.replicate 8 (0 : Int), ([] : List ((Int × Int) × ByteArray))), (List.replicate 8 (0 : Int), ((0 : Int), (0 : Int), ([] : List Int)), List.replicate 16 ((0 : Int), (0 : Int))), ([] : List (Int × Int × Int)))).2.2.2.2.2.2.2.2.2.2.1.2.2 ((0 : Int), (0 : Int))), (!Pl.eqR (tab 8 (a.getD i.toNat ((0 : Int), (0 : Int), (0 : Int), (0 : Int), (0 : Int), (0 : Int), (0 : Int), (0 : Int), { data := { toList := ([] : List UInt8) } }, (List.replicate 8 (0 : Int), ([] : List ((Int × Int) × ByteArray))), (List.replicate 8 (0 : Int), ((0 : Int), (0 : Int), ([] : List Int)), List.replicate 16 ((0 : Int), (0 : Int))), ([] : List (Int × Int × Int)))).2.2.2.2.2.2.2.2.2.2.1.1 (0 : Int), (a.getD i.toNat ((0 : Int), (0 : Int), (0 : Int), (0 : Int), (0 : Int), (0 : Int), (0 : Int), (0 : Int), { data := { toList := ([] : List UInt8) } }, (List.replicate 8 (0 : Int), ([] : List ((Int × Int) × ByteArray))), (List.replicate 8 (0 : Int), ((0 : Int), (0 : Int), ([] : List Int)), List.replicate 16 ((0 : Int), (0 : Int))), ([] : List (Int × Int × Int)))).2.2.2.2.2.2.2.2.2.2.1.2.1, tab 16 (a.getD i.toNat ((0 : Int), (0 : Int), (0 : Int), (0 : Int), (0 : Int), (0 : Int), (0 : Int), (0 : Int), { data := { toList := ([] : List UInt8) } }, (List.replicate 8 (0 : Int), ([] : List ((Int × Int) × ByteArray))), (List.replicate 8 (0 : Int), ((0 : Int), (0 : Int), ([] : List Int)), List.replicate 16 ((0 : Int), (0 : Int))), ([] : List (Int × Int × Int)))).2.2.2.2.2.2.2.2.2.2.1.2.2 ((0 : Int), (0 : Int))) (tab 8 (b.getD i.toNat ((0 : Int), (0 : Int), (0 : Int), (0 : Int), (0 : Int), (0 : Int), (0 : Int), (0 : Int), { data := { toList := ([] : List UInt8) } }, (List.replicate 8 (0 : Int), ([] : List ((Int × Int) × ByteArray))), (List.replicate 8 (0 : Int), ((0 : Int), (0 : Int), ([] : List Int)), List.replicate 16 ((0 : Int), (0 : Int))), ([] : List (Int × Int × Int)))).2.2.2.2.2.2.2.2.2.2.1.1 (0 : Int), (b.getD i.toNat ((0 : Int), (0 : Int), (0 : Int), (0 : Int), (0 : Int), (0 : Int), (0 : Int), (0 : Int), { data := { toList := ([] : List UInt8) } }, (List.replicate 8 (0 : Int), ([] : List ((Int × Int) × ByteArray))), (List.replicate 8 (0 : Int), ((0 : Int), (0 : Int), ([] : List Int)), List.replicate 16 ((0 : Int), (0 : Int))), ([] : List (Int × Int × Int)))).2.2.2.2.2.2.2.2.2.2.1.2.1, tab 16 (b.getD i.toNat ((0 : Int), (0 : Int), (0 : Int), (0 : Int), (0 : Int), (0 : Int), (0 : Int), (0 : Int), { data := { toList := ([] : List UInt8) } }, (List.replicate 8 (0 : Int), ([] : List ((Int × Int) × ByteArray))), (List.replicate 8 (0 : Int), ((0 : Int), (0 : Int), ([] : List Int)), List.replicate 16 ((0 : Int), (0 : Int))), ([] : List (Int × Int × Int)))).2.2.2.2.2.2.2.2.2.2.1.2.2 ((0 : Int), (0 : Int)))) = false → conjP [(↑(a.getD i.toNat ((0 : Int), (0 : Int), (0 : Int), (0 : Int), (0 : Int), (0 : Int), (0 : Int), (0 : Int), { data := { toList := ([] : List UInt8) } }, (List.replicate 8 (0 : Int), ([] : List ((Int × Int) × ByteArray))), (List.replicate 8 (0 : Int), ((0 : Int), (0 : Int), ([] : List Int)), List.replicate 16 ((0 : Int), (0 : Int))), ([] : List (Int × Int × Int)))).2.2.2.2.2.2.2.2.2.2.2.length : Int) ≤ (9223372036854775807 : Int)]]]]]]]]]]]) (
      .fork ((a.getD i.toNat ((0 : Int), (0 : Int), (0 : Int), (0 : Int), (0 : Int), (0 : Int), (0 : Int), (0 : Int), { data := { toList := ([] : List UInt8) } }, (List.replicate 8 (0 : Int), ([] : List ((Int × Int) × ByteArray))), (List.replicate 8 (0 : Int), ((0 : Int), (0 : Int), ([] : List Int)), List.replicate 16 ((0 : Int), (0 : Int))), ([] : List (Int × Int × Int)))).1 != (b.getD i.toNat ((0 : Int), (0 : Int), (0 : Int), (0 : Int), (0 : Int), (0 : Int), (0 : Int), (0 : Int), { data := { toList := ([] : List UInt8) } }, (List.replicate 8 (0 : Int), ([] : List ((Int × Int) × ByteArray))), (List.replicate 8 (0 : Int), ((0 : Int), (0 : Int), ([] : List Int)), List.replicate 16 ((0 : Int), (0 : Int))), ([] : List (Int × Int × Int)))).1 || ((a.getD i.toNat ((0 : Int), (0 : Int), (0 : Int), (0 : Int), (0 : Int), (0 : Int), (0 : Int), (0 : Int), { data := { toList := ([] : List UInt8) } }, (List.replicate 8 (0 : Int), ([] : List ((Int × Int) × ByteArray))), (List.replicate 8 (0 : Int), ((0 : Int), (0 : Int), ([] : List Int)), List.replicate 16 ((0 : Int), (0 : Int))), ([] : List (Int × Int × Int)))).2.1 != (b.getD i.toNat ((0 : Int), (0 : Int), (0 : Int), (0 : Int), (0 : Int), (0 : Int), (0 : Int), (0 : Int), { data := { toList := ([] : List UInt8) } }, (List.replicate 8 (0 : Int), ([] : List ((Int × Int) × ByteArray))), (List.replicate 8 (0 : Int), ((0 : Int), (0 : Int), ([] : List Int)), List.replicate 16 ((0 : Int), (0 : Int))), ([] : List (Int × Int × Int)))).2.1 || ((a.getD i.toNat ((0 : Int), (0 : Int), (0 : Int), (0 : Int), (0 : Int), (0 : Int), (0 : Int), (0 : Int), { data := { toList := ([] : List UInt8) } }, (List.replicate 8 (0 : Int), ([] : List ((Int × Int) × ByteArray))), (List.replicate 8 (0 : Int), ((0 : Int), (0 : Int), ([] : List Int)), List.replicate 16 ((0 : Int), (0 : Int))), ([] : List (Int × Int × Int)))).2.2.1 != (b.getD i.toNat ((0 : Int), (0 : Int), (0 : Int), (0 : Int), (0 : Int), (0 : Int), (0 : Int), (0 : Int), { data := { toList := ([] : List UInt8) } }, (List.replicate 8 (0 : Int), ([] : List ((Int × Int) × ByteArray))), (List.replicate 8 (0 : Int), ((0 : Int), (0 : Int), ([] : List Int)), List.replicate 16 ((0 : Int), (0 : Int))), ([] : List (Int × Int × Int)))).2.2.1 || ((a.getD i.toNat ((0 : Int), (0 : Int), (0 : Int), (0 : Int), (0 : Int), (0 : Int), (0 : Int), (0 : Int), { data := { toList := ([] : List UInt8) } }, (List.replicate 8 (0 : Int), ([] : List ((Int × Int) × ByteArray))), (List.replicate 8 (0 : Int), ((0 : Int), (0 : Int), ([] : List Int)), List.replicate 16 ((0 : Int), (0 : Int))), ([] : List (Int × Int × Int)))).2.2.2.1 != (b.getD i.toNat ((0 : Int), (0 : Int), (0 : Int), (0 : Int), (0 : Int), (0 : Int), (0 : Int), (0 : Int), { data := { toList := ([] : List UInt8) } }, (List.replicate 8 (0 : Int), ([] : List ((Int × Int) × ByteArray))), (List.replicate 8 (0 : Int), ((0 : Int), (0 : Int), ([] : List Int)), List.replicate 16 ((0 : Int), (0 : Int))), ([] : List (Int × Int × Int)))).2.2.2.1 || ((a.getD i.toNat ((0 : Int), (0 : Int), (0 : Int), (0 : Int), (0 : Int), (0 : Int), (0 : Int), (0 : Int), { data := { toList := ([] : List UInt8) } }, (List.replicate 8 (0 : Int), ([] : List ((Int × Int) × ByteArray))), (List.replicate 8 (0 : Int), ((0 : Int), (0 : Int), ([] : List Int)), List.replicate 16 ((0 : Int), (0 : Int))), ([] : List (Int × Int × Int)))).2.2.2.2.1 != (b.getD i.toNat ((0 : Int), (0 : Int), (0 : Int), (0 : Int), (0 : Int), (0 : Int), (0 : Int), (0 : Int), { data := { toList := ([] : List UInt8) } }, (List.replicate 8 (0 : Int), ([] : List ((Int × Int) × ByteArray))), (List.replicate 8 (0 : Int), ((0 : Int), (0 : Int), ([] : List Int)), List.replicate 16 ((0 : Int), (0 : Int))), ([] : List (Int × Int × Int)))).2.2.2.2.1 || ((a.getD i.toNat ((0 : Int), (0 : Int), (0 : Int), (0 : Int), (0 : Int), (0 : Int), (0 : Int), (0 : Int), { data := { toList := ([] : List UInt8) } }, (List.replicate 8 (0 : Int), ([] : List ((Int × Int) × ByteArray))), (List.replicate 8 (0 : Int), ((0 : Int), (0 : Int), ([] : List Int)), List.replicate 16 ((0 : Int), (0 : Int))), ([] : List (Int × Int × Int)))).2.2.2.2.2.1 != (b.getD i.toNat ((0 : Int), (0 : Int), (0 : Int), (0 : Int), (0 : Int), (0 : Int), (0 : Int), (0 : Int), { data := { toList := ([] : List UInt8) } }, (List.replicate 8 (0 : Int), ([] : List ((Int × Int) × ByteArray))), (List.replicate 8 (0 : Int), ((0 : Int), (0 : Int), ([] : List Int)), List.replicate 16 ((0 : Int), (0 : Int))), ([] : List (Int × Int × Int)))).2.2.2.2.2.1 || ((a.getD i.toNat ((0 : Int), (0 : Int), (0 : Int), (0 : Int), (0 : Int), (0 : Int), (0 : Int), (0 : Int), { data := { toList := ([] : List UInt8) } }, (List.replicate 8 (0 : Int), ([] : List ((Int × Int) × ByteArray))), (List.replicate 8 (0 : Int), ((0 : Int), (0 : Int), ([] : List Int)), List.replicate 16 ((0 : Int), (0 : Int))), ([] : List (Int × Int × Int)))).2.2.2.2.2.2.1 != (b.getD i.toNat ((0 : Int), (0 : Int), (0 : Int), (0 : Int), (0 : Int), (0 : Int), (0 : Int), (0 : Int), { data := { toList := ([] : List UInt8) } }, (List.replicate 8 (0 : Int), ([] : List ((Int × Int) × ByteArray))), (List.replicate 8 (0 : Int), ((0 : Int), (0 : Int), ([] : List Int)), List.replicate 16 ((0 : Int), (0 : Int))), ([] : List (Int × Int × Int)))).2.2.2.2.2.2.1 || ((a.getD i.toNat ((0 : Int), (0 : Int), (0 : Int), (0 : Int), (0 : Int), (0 : Int), (0 : Int), (0 : Int), { data := { toList := ([] : List UInt8) } }, (List.replicate 8 (0 : Int), ([] : List ((Int × Int) × ByteArray))), (List.replicate 8 (0 : Int), ((0 : Int), (0 : Int), ([] : List Int)), List.replicate 16 ((0 : Int), (0 : Int))), ([] : List (Int × Int × Int)))).2.2.2.2.2.2.2.1 != (b.getD i.toNat ((0 : Int), (0 : Int), (0 : Int), (0 : Int), (0 : Int), (0 : Int), (0 : Int), (0 : Int), { data := { toList := ([] : List UInt8) } }, (List.replicate 8 (0 : Int), ([] : List ((Int × Int) × ByteArray))), (List.replicate 8 (0 : Int), ((0 : Int), (0 : Int), ([] : List Int)), List.replicate 16 ((0 : Int), (0 : Int))), ([] : List (Int × Int × Int)))).2.2.2.2.2.2.2.1 || (!(a.getD i.toNat ((0 : Int), (0 : Int), (0 : Int), (0 : Int), (0 : Int), (0 : Int), (0 : Int), (0 : Int), { data := { toList := ([] : List UInt8) } }, (List.replicate 8 (0 : Int), ([] : List ((Int × Int) × ByteArray))), (List.replicate 8 (0 : Int), ((0 : Int), (0 : Int), ([] : List Int)), List.replicate 16 ((0 : Int), (0 : Int))), ([] : List (Int × Int × Int)))).2.2.2.2.2.2.2.2.1.toList == (b.getD i.toNat ((0 : Int), (0 : Int), (0 : Int), (0 : Int), (0 : Int), (0 : Int), (0 : Int), (0 : Int), { data := { toList := ([] : List UInt8) } }, (List.replicate 8 (0 : Int), ([] : List ((Int × Int) × ByteArray))), (List.replicate 8 (0 : Int), ((0 : Int), (0 : Int), ([] : List Int)), List.replicate 16 ((0 : Int), (0 : Int))), ([] : List (Int × Int × Int)))).2.2.2.2.2.2.2.2.1.toList || (!Pl.eqB (tab 8 (a.getD i.toNat ((0 : Int), (0 : Int), (0 : Int), (0 : Int), (0 : Int), (0 : Int), (0 : Int), (0 : Int), { data := { toList := ([] : List UInt8) } }, (List.replicate 8 (0 : Int), ([] : List ((Int × Int) × ByteArray))), (List.replicate 8 (0 : Int), ((0 : Int), (0 : Int), ([] : List Int)), List.replicate 16 ((0 : Int), (0 : Int))), ([] : List (Int × Int × Int)))).2.2.2.2.2.2.2.2.2.1.1 (0 : Int), (a.getD i.toNat ((0 : Int), (0 : Int), (0 : Int), (0 : Int), (0 : Int), (0 : Int), (0 : Int), (0 : Int), { data := { toList := ([] : List UInt8) } }, (List.replicate 8 (0 : Int), ([] : List ((Int × Int) × ByteArray))), (List.replicate 8 (0 : Int), ((0 : Int), (0 : Int), ([] : List Int)), List.replicate 16 ((0 : Int), (0 : Int))), ([] : List (Int × Int × Int)))).2.2.2.2.2.2.2.2.2.1.2) (tab 8 (b.getD i.toNat ((0 : Int), (0 : Int), (0 : Int), (0 : Int), (0 : Int), (0 : Int), (0 : Int), (0 : Int), { data := { toList := ([] : List UInt8) } }, (List.replicate 8 (0 : Int), ([] : List ((Int × Int) × ByteArray))), (List.replicate 8 (0 : Int), ((0 : Int), (0 : Int), ([] : List Int)), List.replicate 16 ((0 : Int), (0 : Int))), ([] : List (Int × Int × Int)))).2.2.2.2.2.2.2.2.2.1.1 (0 : Int), (b.getD i.toNat ((0 : Int), (0 : Int), (0 : Int), (0 : Int), (0 : Int), (0 : Int), (0 : Int), (0 : Int), { data := { toList := ([] : List UInt8) } }, (List.replicate 8 (0 : Int), ([] : List ((Int × Int) × ByteArray))), (List.replicate 8 (0 : Int), ((0 : Int), (0 : Int), ([] : List Int)), List.replicate 16 ((0 : Int), (0 : Int))), ([] : List (Int × Int × Int)))).2.2.2.2.2.2.2.2.2.1.2) || (!Pl.eqR (tab 8 (a.getD i.toNat ((0 : Int), (0 : Int), (0 : Int), (0 : Int), (0 : Int), (0 : Int), (0 : Int), (0 : Int), { data := { toList := ([] : List UInt8) } }, (List.replicate 8 (0 : Int), ([] : List ((Int × Int) × ByteArray))), (List.replicate 8 (0 : Int), ((0 : Int), (0 : Int), ([] : List Int)), List.replicate 16 ((0 : Int), (0 : Int))), ([] : List (Int × Int × Int)))).2.2.2.2.2.2.2.2.2.2.1.1 (0 : Int), (a.getD i.toNat ((0 : Int), (0 : Int), (0 : Int), (0 : Int), (0 : Int), (0 : Int), (0 : Int), (0 : Int), { data := { toList := ([] : List UInt8) } }, (List.replicate 8 (0 : Int), ([] : List ((Int × Int) × ByteArray))), (List.replicate 8 (0 : Int), ((0 : Int), (0 : Int), ([] : List Int)), List.replicate 16 ((0 : Int), (0 : Int))), ([] : List (Int × Int × Int)))).2.2.2.2.2.2.2.2.2.2.1.2.1, tab 16 (a.getD i.toNat ((0 : Int), (0 : Int), (0 : Int), (0 : Int), (0 : Int), (0 : Int), (0 : Int), (0 : Int), { data := { toList := ([] : List UInt8) } }, (List.replicate 8 (0 : Int), ([] : List ((Int × Int) × ByteArray))), (List.replicate 8 (0 : Int), ((0 : Int), (0 : Int), ([] : List Int)), List.replicate 16 ((0 : Int), (0 : Int))), ([] : List (Int × Int × Int)))).2.2.2.2.2.2.2.2.2.2.1.2.2 ((0 : Int), (0 : Int))) (tab 8 (b.getD i.toNat ((0 : Int), (0 : Int), (0 : Int), (0 : Int), (0 : Int), (0 : Int), (0 : Int), (0 : Int), { data := { toList := ([] : List UInt8) } }, (List.replicate 8 (0 : Int), ([] : List ((Int × Int) × ByteArray))), (List.replicate 8 (0 : Int), ((0 : Int), (0 : Int), ([] : List Int)), List.replicate 16 ((0 : Int), (0 : Int))), ([] : List (Int × Int × Int)))).2.2.2.2.2.2.2.2.2.2.1.1 (0 : Int), (b.getD i.toNat ((0 : Int), (0 : Int), (0 : Int), (0 : Int), (0 : Int), (0 : Int), (0 : Int), (0 : Int), { data := { toList := ([] : List UInt8) } }, (List.replicate 8 (0 : Int), ([] : List ((Int × Int) × ByteArray))), (List.replicate 8 (0 : Int), ((0 : Int), (0 : Int), ([] : List Int)), List.replicate 16 ((0 : Int), (0 : Int))), ([] : List (Int × Int × Int)))).2.2.2.2.2.2.2.2.2.2.1.2.1, tab 16 (b.getD i.toNat ((0 : Int), (0 : Int), (0 : Int), (0 : Int), (0 : Int), (0 : Int), (0 : Int), (0 : Int), { data := { toList := ([] : List UInt8) } }, (List.replicate 8 (0 : Int), ([] : List ((Int × Int) × ByteArray))), (List.replicate 8 (0 : Int), ((0 : Int), (0 : Int), ([] : List Int)), List.replicate 16 ((0 : Int), (0 : Int))), ([] : List (Int × Int × Int)))).2.2.2.2.2.2.2.2.2.2.1.2.2 ((0 : Int), (0 : Int))) || !Pl.eqC (a.getD i.toNat ((0 : Int), (0 : Int), (0 : Int), (0 : Int), (0 : Int), (0 : Int), (0 : Int), (0 : Int), { data := { toList := ([] : List UInt8) } }, (List.replicate 8 (0 : Int), ([] : List ((Int × Int) × ByteArray))), (List.replicate 8 (0 : Int), ((0 : Int), (0 : Int), ([] : List Int)), List.replicate 16 ((0 : Int), (0 : Int))), ([] : List (Int × Int × Int)))).2.2.2.2.2.2.2.2.2.2.2 (b.getD i.toNat ((0 : Int), (0 : Int), (0 : Int), (0 : Int), (0 : Int), (0 : Int), (0 : Int), (0 : Int), { data := { toList := ([] : List UInt8) } }, (List.replicate 8 (0 : Int), ([] : List ((Int × Int) × ByteArray))), (List.replicate 8 (0 : Int), ((0 : Int), (0 : Int), ([] : List Int)), List.replicate 16 ((0 : Int), (0 : Int))), ([] : List (Int × Int × Int)))).2.2.2.2.2.2.2.2.2.2.2))))))))))) (
       .fork (Pl.eqM (List.drop i.toNat a) (List.drop i.toNat b)) (
        .req (False) (
         .leaf (Option.none))) (
        .req (True) (
         .leaf (Option.none)))) (
       .req (IntKind.i64.wrap (i + (1 : Int)) = IntKind.i64.wrap (i + (1 : Int)) ∧ (↑a.length : Int) = (↑a.length : Int) ∧ a = a ∧ b = b) (
        .leaf (Option.some { a := a, b := b, i0 := IntKind.i64.wrap (i + (1 : Int)) }))))))))) (
 .fork (Pl.eqM (List.drop i.toNat a) (List.drop i.toNat b)) (
  .req (True) (
   .leaf (Option.none))) (
  .req (False) (
   .leaf (Option.none)))) : Tree (Option Pl.ASm)) := by kernel_rfl
noncomputable abbrev smP : Nat × (St → Tree Out) := (0, LSm.sp)
theorem tSm (a b : List MsgD) : @Eq _
  (fnT s3 [smP] 100 Try.f15 [msgs, msgs] [i64] (a, b, ()))
  (.fork ((↑a.length : Int) != (↑b.length : Int)) (
 .leaf (((1 : Int), ()))) (
 .req ((0 : Int) ≤ (0 : Int) ∧ (0 : Int) ≤ (↑a.length : Int) ∧ a.length = b.length ∧ (↑a.length : Int) ≤ (9223372036854775807 : Int) ∧ (∀ (m : Pl.MsgD), m ∈ a → Pl.smM m) ∧ ∀ (m : Pl.MsgD), m ∈ b → Pl.smM m) (
  .req ((0 : Int) = (0 : Int) ∧ (↑a.length : Int) = (↑a.length : Int) ∧ a = a ∧ b = b) (
   .fork (Pl.eqM a b) (
    .leaf (((0 : Int), ()))) (
    .leaf (((1 : Int), ())))))) : Tree (Int × PUnit)) := by kernel_rfl
end Pl
namespace Pl
open Go Sx Go.Proofs Go.RowKit
abbrev MsgN : Type := Int × Int × Int × Int × Int × Int × Int × Int × ByteArray × BagND × RingND × List (Int × Int × Int)
theorem eqM_cons (x y : MsgN) (r s : List MsgN) : eqM (x :: r) (y :: s) = ((!(x.1 != y.1 || (x.2.1 != y.2.1 || (x.2.2.1 != y.2.2.1 || (x.2.2.2.1 != y.2.2.2.1 || (x.2.2.2.2.1 != y.2.2.2.2.1 || (x.2.2.2.2.2.1 != y.2.2.2.2.2.1 || (x.2.2.2.2.2.2.1 != y.2.2.2.2.2.2.1 || (x.2.2.2.2.2.2.2.1 != y.2.2.2.2.2.2.2.1 || (!(x.2.2.2.2.2.2.2.2.1.toList == y.2.2.2.2.2.2.2.2.1.toList) || (!(eqB x.2.2.2.2.2.2.2.2.2.1 y.2.2.2.2.2.2.2.2.2.1) || (!(eqR x.2.2.2.2.2.2.2.2.2.2.1 y.2.2.2.2.2.2.2.2.2.2.1) || !(eqC x.2.2.2.2.2.2.2.2.2.2.2 y.2.2.2.2.2.2.2.2.2.2.2))))))))))))) && eqM r s) := by
  obtain ⟨x1, x2, x3, x4, x5, x6, x7, x8, x9, x10, x11, x12⟩ := x
  obtain ⟨y1, y2, y3, y4, y5, y6, y7, y8, y9, y10, y11, y12⟩ := y
  unfold eqM eqB eqR eqC
  rw [Bool.eq_iff_iff]
  simp only [decide_eq_true_eq, List.cons.injEq, Bool.and_eq_true, beq_iff_eq, bytes_inj, Bool.not_eq_true', Bool.or_eq_false_iff, bne_eq_false_iff_eq, Bool.not_eq_false', Prod.mk.injEq]
theorem lSm : LpsOK Try.prog Try.f15 [smP] := by
  refine .cons (LSm.sound s3_ok (lps := []) (n := 100) (inner rfl) (fun _ => rfl) ?_) .nil
  rintro ⟨a, b, i⟩ ⟨h1, h2, h3, h4, h5, h6⟩
  simp only at h1 h2 h3 h4 h5 h6
  by_cases c : i < (a.length : Int)
  · have hlt : i.toNat < a.length := by omega
    have hlt' : i.toNat < b.length := by omega
    have hmx := h5 _ (List.getElem_mem hlt)
    have hmy := h6 _ (List.getElem_mem hlt')
    obtain ⟨x, hx, dx⟩ := cutN h1 hlt
    obtain ⟨y, hy, dy⟩ := cutN h1 hlt'
    rw [rSm, getD_get _ hlt, getD_get _ hlt', IntWalk.i64_in (i + 1) (by omega)]
    rw [hx] at hmx ⊢
    rw [hy] at hmy ⊢
    have hc := eqM_cons x y (a.drop (i + 1).toNat) (b.drop (i + 1).toNat)
    erw [← dx, ← dy] at hc
    obtain ⟨bx, rx, cx⟩ := id hmx
    obtain ⟨bY, ry, cy⟩ := id hmy
    have x4 : ∀ z, tab 8 x.2.2.2.2.2.2.2.2.2.1.1 z = x.2.2.2.2.2.2.2.2.2.1.1 := fun z => tab_eq bx.1
    have x5 : ∀ z, tab 8 x.2.2.2.2.2.2.2.2.2.2.1.1 z = x.2.2.2.2.2.2.2.2.2.2.1.1 := fun z => tab_eq rx.1
    have x6 : ∀ z, tab 16 x.2.2.2.2.2.2.2.2.2.2.1.2.2 z = x.2.2.2.2.2.2.2.2.2.2.1.2.2 := fun z => tab_eq rx.2.1
    have y4 : ∀ z, tab 8 y.2.2.2.2.2.2.2.2.2.1.1 z = y.2.2.2.2.2.2.2.2.2.1.1 := fun z => tab_eq bY.1
    have y5 : ∀ z, tab 8 y.2.2.2.2.2.2.2.2.2.2.1.1 z = y.2.2.2.2.2.2.2.2.2.2.1.1 := fun z => tab_eq ry.1
    have y6 : ∀ z, tab 16 y.2.2.2.2.2.2.2.2.2.2.1.2.2 z = y.2.2.2.2.2.2.2.2.2.2.1.2.2 := fun z => tab_eq ry.2.1
    rw [x4, x5, x6, y4, y5, y6]
    refine ⟨fun _ => ⟨⟨h1, c⟩, ⟨h1, c⟩, ⟨h1, by omega⟩, ⟨h1, by omega⟩, fun _ _ _ _ _ _ _ _ _ => ⟨⟨bx, bY⟩, fun _ => ⟨⟨rx, ry⟩, fun _ => cx⟩⟩, fun e => ?_, fun e => ?_⟩, fun e => absurd c (of_decide_eq_false e)⟩
    · have hf : eqM (a.drop i.toNat) (b.drop i.toNat) = false := hc.trans (by
        have e' := e
        rw [show (_ : Bool) = true from e']; rfl)
      rw [hf]
      exact ⟨fun g => (by cases g), fun _ => ⟨trivial, trivial⟩⟩
    · refine ⟨by repeat' (first | exact trivial | rfl | apply And.intro), ⟨by dsimp only; omega, by dsimp only; omega, h3, h4, h5, h6⟩, by simp only [LSm]; omega, ?_⟩
      simp only [LSm]
      have hf : eqM (a.drop i.toNat) (b.drop i.toNat) = eqM (a.drop (i + 1).toNat) (b.drop (i + 1).toNat) := hc.trans (by
        have e' := e
        rw [show (_ : Bool) = false from e']; rfl)
      rw [hf]
  · rw [rSm, drop_end c, drop_end (l := b) (by omega)]
    exact ⟨fun e => absurd (of_decide_eq_true e) c, fun _ => ⟨fun _ => ⟨trivial, trivial⟩, fun e => by simp [eqM] at e⟩⟩
theorem same23_ok : PureOK Try.prog 15 [msgs, msgs] [i64] (fun x => (List.length (α := MsgD) x.1 : Int) ≤ 9223372036854775807 ∧ (∀ m ∈ (x.1 : List MsgD), smM m) ∧ ∀ m ∈ (x.2.1 : List MsgD), smM m) (fun x => (if eqM x.1 x.2.1 then 0 else 1, ())) :=
  fn_pure (E := s3) (n := 100) s3_ok Try.func15 (by kernel_rfl) lSm fun x h => by
    obtain ⟨a, b, _⟩ : List MsgD × List MsgD × Unit := x
    obtain ⟨h, g1, g2⟩ : (List.length (α := MsgD) a : Int) ≤ 9223372036854775807 ∧ (∀ m ∈ a, smM m) ∧ ∀ m ∈ b, smM m := h
    refine Tree.all_eq (tSm a b) ?_
    refine ⟨fun e => ?_, fun e => ⟨⟨by omega, by omega, ?_, h, g1, g2⟩, by repeat' (first | exact trivial | rfl | apply And.intro), fun d => ?_, fun d => ?_⟩⟩
    · have e : ((List.length (α := MsgD) a : Int) != (List.length (α := MsgD) b : Int)) = true := e
      have hne : a ≠ b := fun g => by rw [g] at e; simp at e
      show (1, ()) = (if eqM a b then (0 : Int) else 1, ())
      unfold eqM; rw [@decide_eq_false _ (Classical.propDecidable _) hne]; rfl
    · have e : ((List.length (α := MsgD) a : Int) != (List.length (α := MsgD) b : Int)) = false := e
      simp only [bne_eq_false_iff_eq] at e
      omega
    · show (0, ()) = (if eqM a b then (0 : Int) else 1, ()); rw [d]; rfl
    · show (1, ()) = (if eqM a b then (0 : Int) else 1, ()); rw [d]; rfl
end Pl
namespace Pl
open Go Sx Go.Proofs Go.RowKit
noncomputable abbrev KSmN : Nat × Sx.Spec := (15, pureSp [msgs, msgs] [i64] (fun x => (List.length (α := MsgD) x.1 : Int) ≤ 9223372036854775807 ∧ (∀ m ∈ (x.1 : List MsgD), smM m) ∧ ∀ m ∈ (x.2.1 : List MsgD), smM m) (fun x => (if eqM x.1 x.2.1 then 0 else 1, ())))
abbrev KLg : Nat × Sx.Spec := (14, pureSp [callsN] [.bool] (fun x => ∀ c ∈ (x.1 : List CallND), ∀ m ∈ (c.2.2 : List MsgD), inM m) (fun x => (lgL x.1 0 0, ())))
noncomputable abbrev o1 : Ex := mkExM Try.prog [KCp, KLn]
theorem o1_ok : o1.Sound := mkExM_sound ⟨pureSp_ok copied_ok, fnI_ok (E := E0) E0_ok Try.func9 (by kernel_rfl) .nil, trivial⟩
noncomputable abbrev o2 : Ex := mkExM Try.prog [(13, fnI o1 [] 100 Try.f13)]
theorem o2_ok : o2.Sound := mkExM_sound ⟨fnI_ok (E := o1) o1_ok Try.func13 (by kernel_rfl) .nil, trivial⟩
noncomputable abbrev o3 : Ex := mkExM Try.prog [(13, fnI o1 [] 100 Try.f13), (10, fnI o2 [] 100 Try.f10), (8, fnI o1 [] 100 Try.f8), KLn, (12, fnI o2 [] 100 Try.f12), KAwN, KSmN, KLg]
theorem o3_ok : o3.Sound := mkExM_sound ⟨fnI_ok (E := o1) o1_ok Try.func13 (by kernel_rfl) .nil, fnI_ok (E := o2) o2_ok Try.func10 (by kernel_rfl) .nil, fnI_ok (E := o1) o1_ok Try.func8 (by kernel_rfl) .nil, fnI_ok (E := E0) E0_ok Try.func9 (by kernel_rfl) .nil, fnI_ok (E := o2) o2_ok Try.func12 (by kernel_rfl) .nil, pureSp_ok aw_okN, pureSp_ok same23_ok, pureSp_ok light_okN, trivial⟩
theorem tNl (c : CallND) : @Eq _
  (fnT o3 [] 100 Try.f6 [CallN] [.bool] (c, ()))
  (.req (∀ (c_1 : TD Pl.CallN), c_1 ∈ [c] → ∀ (m : TD Pl.MsgT), m ∈ c_1.snd.snd → Pl.inM m) (
 .fork (!Pl.lgL [c] (0 : Int) (0 : Int)) (
  .req (True) (
   .leaf ((true, ())))) (
  .req (True) (
   .fork (decide (c.2.1 < (0 : Int)) || decide (c.2.1 ≥ (0 : Int))) (
    .req (True) (
     .fork (decide (c.2.1 < (0 : Int)) || decide (c.2.1 ≥ (0 : Int))) (
      .req (True) (
       .fork (decide (c.2.1 < (0 : Int)) || decide (c.2.1 ≥ (0 : Int))) (
        .req ((2 : Int) ≤ (9223372036854775807 : Int) ∧ (∀ (m : TD Pl.MsgT), m ∈ [((0 : Int), (0 : Int), (0 : Int), (0 : Int), (0 : Int), (0 : Int), (0 : Int), (0 : Int), { data := { toList := ([] : List UInt8) } }, (List.replicate 8 (0 : Int), ([] : List ((Int × Int) × ByteArray))), (List.replicate 8 (0 : Int), ((0 : Int), (0 : Int), ([] : List Int)), List.replicate 16 ((0 : Int), (0 : Int))), ([] : List (Int × Int × Int))), ((0 : Int), (0 : Int), (0 : Int), (0 : Int), (0 : Int), (0 : Int), (0 : Int), (0 : Int), { data := { toList := ([] : List UInt8) } }, (List.replicate 8 (0 : Int), ([] : List ((Int × Int) × ByteArray))), (List.replicate 8 (0 : Int), ((0 : Int), (0 : Int), ([] : List Int)), List.replicate 16 ((0 : Int), (0 : Int))), ([] : List (Int × Int × Int)))] → Pl.smM m) ∧ ∀ (m : TD Pl.MsgT), m ∈ [((0 : Int), (0 : Int), (0 : Int), (0 : Int), (0 : Int), (0 : Int), (0 : Int), (0 : Int), { data := { toList := ([] : List UInt8) } }, (List.replicate 8 (0 : Int), ([] : List ((Int × Int) × ByteArray))), (List.replicate 8 (0 : Int), ((0 : Int), (0 : Int), ([] : List Int)), List.replicate 16 ((0 : Int), (0 : Int))), ([] : List (Int × Int × Int))), ((0 : Int), (0 : Int), (0 : Int), (0 : Int), (0 : Int), (0 : Int), (0 : Int), (0 : Int), { data := { toList := ([] : List UInt8) } }, (List.replicate 8 (0 : Int), ([] : List ((Int × Int) × ByteArray))), (List.replicate 8 (0 : Int), ((0 : Int), (0 : Int), ([] : List Int)), List.replicate 16 ((0 : Int), (0 : Int))), ([] : List (Int × Int × Int)))] → Pl.smM m) (
         .fork ((if Pl.eqM [((0 : Int), (0 : Int), (0 : Int), (0 : Int), (0 : Int), (0 : Int), (0 : Int), (0 : Int), { data := { toList := ([] : List UInt8) } }, (List.replicate 8 (0 : Int), ([] : List ((Int × Int) × ByteArray))), (List.replicate 8 (0 : Int), ((0 : Int), (0 : Int), ([] : List Int)), List.replicate 16 ((0 : Int), (0 : Int))), ([] : List (Int × Int × Int))), ((0 : Int), (0 : Int), (0 : Int), (0 : Int), (0 : Int), (0 : Int), (0 : Int), (0 : Int), { data := { toList := ([] : List UInt8) } }, (List.replicate 8 (0 : Int), ([] : List ((Int × Int) × ByteArray))), (List.replicate 8 (0 : Int), ((0 : Int), (0 : Int), ([] : List Int)), List.replicate 16 ((0 : Int), (0 : Int))), ([] : List (Int × Int × Int)))] [((0 : Int), (0 : Int), (0 : Int), (0 : Int), (0 : Int), (0 : Int), (0 : Int), (0 : Int), { data := { toList := ([] : List UInt8) } }, (List.replicate 8 (0 : Int), ([] : List ((Int × Int) × ByteArray))), (List.replicate 8 (0 : Int), ((0 : Int), (0 : Int), ([] : List Int)), List.replicate 16 ((0 : Int), (0 : Int))), ([] : List (Int × Int × Int))), ((0 : Int), (0 : Int), (0 : Int), (0 : Int), (0 : Int), (0 : Int), (0 : Int), (0 : Int), { data := { toList := ([] : List UInt8) } }, (List.replicate 8 (0 : Int), ([] : List ((Int × Int) × ByteArray))), (List.replicate 8 (0 : Int), ((0 : Int), (0 : Int), ([] : List Int)), List.replicate 16 ((0 : Int), (0 : Int))), ([] : List (Int × Int × Int)))] = true then (0 : Int) else (1 : Int)) == (0 : Int)) (
          .req (True) (
           .leaf ((true, ())))) (
          .leaf ((false, ()))))) (
        .fail "nil check"))) (
      .fail "nil check"))) (
    .fail "nil check")))) : Tree (Bool × PUnit)) := by kernel_rfl
end Pl
namespace Pl
open Go Sx Go.Proofs Go.RowKit
theorem good_msg {m : MsgD} (h : Sx.Good MsgT m) : inM m := by
  obtain ⟨_, _, _, _, _, _, _, _, _, ⟨⟨hb, _⟩, hv, _⟩, ⟨⟨hs, _⟩, _, hp, _⟩, hc, _⟩ := h
  refine ⟨hb, ?_, hs, hp⟩
  have : List.length (α := ValD) m.2.2.2.2.2.2.2.2.2.1.2 ≤ 9223372036854775807 := hv
  omega
theorem good_call {c : CallND} (h : Sx.Good CallN c) : ∀ m ∈ (c.2.2 : List MsgD), inM m := fun m hm => good_msg (h.2.2.2 m hm)
theorem eqM_self (a : List MsgD) : eqM a a = true := @decide_eq_true _ (Classical.propDecidable _) rfl
def zS : MsgD := (0, 0, 0, 0, 0, 0, 0, 0, ByteArray.mk (Array.mk []), (List.replicate 8 0, []), (List.replicate 8 0, (0, 0, []), List.replicate 16 (0, 0)), [])
theorem smM_z : smM zS := by
  refine ⟨⟨rfl, ?_⟩, ⟨rfl, rfl, ?_⟩, ?_⟩ <;> decide
theorem netnil_ok : PureOK Try.prog 6 [CallN] [.bool] (fun x => ∀ m ∈ (x.1.2.2 : List MsgD), inM m) (fun _ => (true, ())) :=
  fn_pure (E := o3) (n := 100) o3_ok Try.func6 (by kernel_rfl) .nil fun x h => by
    obtain ⟨c, _⟩ : CallND × Unit := x
    have h : ∀ m ∈ (c.2.2 : List MsgD), inM m := h
    refine Tree.all_eq (tNl c) ?_
    have hd : (decide (c.2.1 < 0) || decide (c.2.1 ≥ 0)) = true := by
      rcases Int.lt_or_le c.2.1 0 with g | g
      · rw [decide_eq_true g]; rfl
      · rw [decide_eq_true (show c.2.1 ≥ 0 from g), Bool.or_true]
    rw [hd, if_pos (eqM_self _)]
    have hz : ∀ m ∈ [zS, zS], smM m := fun m hm => by
      simp only [List.mem_cons, List.not_mem_nil, or_false] at hm
      rcases hm with rfl | rfl <;> exact smM_z
    refine ⟨fun d hd m hm => ?_, fun _ => ⟨trivial, rfl⟩, fun _ => ⟨trivial, fun _ => ⟨trivial, fun _ => ⟨trivial, fun _ => ⟨⟨by decide, hz, hz⟩, fun _ => ⟨trivial, rfl⟩, fun e => by cases e⟩, fun e => by cases e⟩, fun e => by cases e⟩, fun e => by cases e⟩⟩
    have hd : d = c := List.mem_singleton.1 hd
    subst hd
    exact h m hm
end Pl
namespace Pl
open Go Sx Go.Proofs Go.RowKit
def seqM (n : Nat) : List MsgD := List.map (fun (j : Nat) => mkM 1 (j : Int)) (List.range n)
structure AOa where
  b : Bool
  n : Int
  i : Int
  o : List MsgD
def LOa : LoopC AOa where
  n0 := 1
  det st := match boolS st 1, intS st 19, intS st 20, rowC st 0 0 MsgT with | some b, some n, some i, some o => some ⟨b, n, i, o⟩ | _, _, _, _ => none
  rows := [(1, .cell 0 0)]
  inv a := ⟨[(20, iv a.i), (19, iv a.n), (5, .one (.ptr 0 0)), (0, iv a.n), (1, .one (.bool a.b))],
    [(0, .blk [.row 1]), (1, .own MsgT a.o)], 2⟩
  ok a := 0 ≤ a.i ∧ a.i ≤ a.n ∧ a.n < 60 ∧ a.o = seqM a.i.toNat
  mu a := (a.n - a.i).toNat
  fin a := .leaf ⟨2, ⟨[(5, .one (.ptr 0 0)), (0, iv a.n), (1, .one (.bool a.b))],
    [(0, .blk [.row 1]), (1, .own MsgT (seqM a.n.toNat))], 2⟩⟩
theorem rOa (b : Bool) (n i : Int) (o : List MsgD) : @Eq _
  (LOa.round n6 [] 100 Try.f3 0 ⟨b, n, i, o⟩)
  (.fork (decide (i < n)) (
 .req (o.length ≤ 500 ∧ (1 : Int) < (4611686018427387904 : Int) ∧ ∀ (m : TD Pl.MsgT), m ∈ [((1 : Int), (0 : Int), (0 : Int), i, (0 : Int), (0 : Int), (0 : Int), (0 : Int), { data := { toList := ([] : List UInt8) } }, (List.replicate 8 (0 : Int), ([] : List ((Int × Int) × ByteArray))), (List.replicate 8 (0 : Int), ((0 : Int), (0 : Int), ([] : List Int)), List.replicate 16 ((0 : Int), (0 : Int))), ([] : List (Int × Int × Int)))] → Pl.okM m) (
  .fork ((Pl.sendF o [((1 : Int), (0 : Int), (0 : Int), i, (0 : Int), (0 : Int), (0 : Int), (0 : Int), { data := { toList := ([] : List UInt8) } }, (List.replicate 8 (0 : Int), ([] : List ((Int × Int) × ByteArray))), (List.replicate 8 (0 : Int), ((0 : Int), (0 : Int), ([] : List Int)), List.replicate 16 ((0 : Int), (0 : Int))), ([] : List (Int × Int × Int)))]).2 != (1 : Int)) (
   .req (False) (
    .leaf (Option.none))) (
   .req (IntKind.i64.wrap (i + (1 : Int)) = IntKind.i64.wrap (i + (1 : Int)) ∧ n = n ∧ n = n ∧ b = b ∧ (Pl.sendF o [((1 : Int), (0 : Int), (0 : Int), i, (0 : Int), (0 : Int), (0 : Int), (0 : Int), { data := { toList := ([] : List UInt8) } }, (List.replicate 8 (0 : Int), ([] : List ((Int × Int) × ByteArray))), (List.replicate 8 (0 : Int), ((0 : Int), (0 : Int), ([] : List Int)), List.replicate 16 ((0 : Int), (0 : Int))), ([] : List (Int × Int × Int)))]).1 = (Pl.sendF o [((1 : Int), (0 : Int), (0 : Int), i, (0 : Int), (0 : Int), (0 : Int), (0 : Int), { data := { toList := ([] : List UInt8) } }, (List.replicate 8 (0 : Int), ([] : List ((Int × Int) × ByteArray))), (List.replicate 8 (0 : Int), ((0 : Int), (0 : Int), ([] : List Int)), List.replicate 16 ((0 : Int), (0 : Int))), ([] : List (Int × Int × Int)))]).1) (
    .leaf (Option.some { b := b, n := n, i := IntKind.i64.wrap (i + (1 : Int)), o := (Pl.sendF o [((1 : Int), (0 : Int), (0 : Int), i, (0 : Int), (0 : Int), (0 : Int), (0 : Int), { data := { toList := ([] : List UInt8) } }, (List.replicate 8 (0 : Int), ([] : List ((Int × Int) × ByteArray))), (List.replicate 8 (0 : Int), ((0 : Int), (0 : Int), ([] : List Int)), List.replicate 16 ((0 : Int), (0 : Int))), ([] : List (Int × Int × Int)))]).1 }))))) (
 .req (n = n ∧ b = b ∧ o = Pl.seqM n.toNat) (
  .leaf (Option.none))) : Tree (Option Pl.AOa)) := by kernel_rfl
noncomputable abbrev oaP : Nat × (St → Tree Out) := (0, LOa.sp)
structure AOb where
  b : Bool
  n : Int
  i : Int
  o : List MsgD
def LOb : LoopC AOb where
  n0 := 2
  det st := match boolS st 1, intS st 30, intS st 31, rowC st 0 0 MsgT with | some b, some n, some i, some o => some ⟨b, n, i, o⟩ | _, _, _, _ => none
  rows := [(2, .cell 0 0)]
  inv a := ⟨[(31, iv a.i), (30, iv a.n), (5, .one (.ptr 0 0)), (0, iv a.n), (1, .one (.bool a.b))],
    [(0, .blk [.row 2]), (2, .own MsgT a.o)], 3⟩
  ok a := 0 ≤ a.i ∧ a.i ≤ a.n ∧ a.n < 60 ∧ a.o = (if a.b = true then seqM (a.n - a.i).toNat else (seqM a.n.toNat).drop a.i.toNat)
  mu a := (a.n - a.i).toNat
  fin a := .leaf ⟨4, ⟨[(5, .one (.ptr 0 0))],
    [(0, .blk [.row 2]), (2, .own MsgT [])], 3⟩⟩
theorem rOb (b : Bool) (n i : Int) (o : List MsgD) : @Eq _
  (LOb.round n6 [] 100 Try.f3 1 ⟨b, n, i, o⟩)
  (.fork (decide (i < n)) (
 .fork (b) (
  .req (o.length ≤ 500 ∧ ∀ (m : Pl.MsgD), m ∈ o → Pl.okM m) (
   .req (True) (
    .fork (!(Pl.takeF o (IntKind.i64.wrap ((↑o.length : Int) - (1 : Int)))).2.2 || (Pl.takeF o (IntKind.i64.wrap ((↑o.length : Int) - (1 : Int)))).2.1.2.2.2.1 != IntKind.i64.wrap (IntKind.i64.wrap (n - (1 : Int)) - i)) (
     .req (False) (
      .leaf (Option.none))) (
     .req (IntKind.i64.wrap (i + (1 : Int)) = IntKind.i64.wrap (i + (1 : Int)) ∧ n = n ∧ n = n ∧ b = b ∧ (Pl.takeF o (IntKind.i64.wrap ((↑o.length : Int) - (1 : Int)))).1 = (Pl.takeF o (IntKind.i64.wrap ((↑o.length : Int) - (1 : Int)))).1) (
      .leaf (Option.some { b := b, n := n, i := IntKind.i64.wrap (i + (1 : Int)), o := (Pl.takeF o (IntKind.i64.wrap ((↑o.length : Int) - (1 : Int)))).1 })))))) (
  .req (o.length ≤ 500 ∧ ∀ (m : Pl.MsgD), m ∈ o → Pl.okM m) (
   .req (True) (
    .fork (!(Pl.takeF o (0 : Int)).2.2 || (Pl.takeF o (0 : Int)).2.1.2.2.2.1 != i) (
     .req (False) (
      .leaf (Option.none))) (
     .req (IntKind.i64.wrap (i + (1 : Int)) = IntKind.i64.wrap (i + (1 : Int)) ∧ n = n ∧ n = n ∧ b = b ∧ (Pl.takeF o (0 : Int)).1 = (Pl.takeF o (0 : Int)).1) (
      .leaf (Option.some { b := b, n := n, i := IntKind.i64.wrap (i + (1 : Int)), o := (Pl.takeF o (0 : Int)).1 }))))))) (
 .req (o = ([] : List (Int × Int × Int × Int × Int × Int × Int × Int × ByteArray × (List Int × List ((Int × Int) × ByteArray)) × (List Int × (Int × Int × List Int) × List (Int × Int)) × List (Int × Int × Int)))) (
  .leaf (Option.none))) : Tree (Option Pl.AOb)) := by kernel_rfl
noncomputable abbrev obP : Nat × (St → Tree Out) := (1, LOb.sp)
theorem tOr (n : Int) (b : Bool) : @Eq _
  (fnT n6 [oaP, obP] 100 Try.f3 [i64, .bool] [.bool] (n, b, ()))
  (.req ((60 : Int) ≠ (0 : Int)) (
 .req ((0 : Int) ≤ (0 : Int) ∧ (0 : Int) ≤ IntKind.i64.wrap ((IntKind.u64.wrap n).tmod (60 : Int)) ∧ IntKind.i64.wrap ((IntKind.u64.wrap n).tmod (60 : Int)) < (60 : Int) ∧ ([] : List (Int × Int × Int × Int × Int × Int × Int × Int × ByteArray × (List Int × List ((Int × Int) × ByteArray)) × (List Int × (Int × Int × List Int) × List (Int × Int)) × List (Int × Int × Int))) = Pl.seqM 0) (
  .req ((0 : Int) = (0 : Int) ∧ IntKind.i64.wrap ((IntKind.u64.wrap n).tmod (60 : Int)) = IntKind.i64.wrap ((IntKind.u64.wrap n).tmod (60 : Int)) ∧ IntKind.i64.wrap ((IntKind.u64.wrap n).tmod (60 : Int)) = IntKind.i64.wrap ((IntKind.u64.wrap n).tmod (60 : Int)) ∧ b = b ∧ ([] : List (Int × Int × Int × Int × Int × Int × Int × Int × ByteArray × (List Int × List ((Int × Int) × ByteArray)) × (List Int × (Int × Int × List Int) × List (Int × Int)) × List (Int × Int × Int))) = ([] : List (Int × Int × Int × Int × Int × Int × Int × Int × ByteArray × (List Int × List ((Int × Int) × ByteArray)) × (List Int × (Int × Int × List Int) × List (Int × Int)) × List (Int × Int × Int)))) (
   .req ((0 : Int) ≤ (0 : Int) ∧ (0 : Int) ≤ IntKind.i64.wrap ((IntKind.u64.wrap n).tmod (60 : Int)) ∧ IntKind.i64.wrap ((IntKind.u64.wrap n).tmod (60 : Int)) < (60 : Int) ∧ Pl.seqM (IntKind.i64.wrap ((IntKind.u64.wrap n).tmod (60 : Int))).toNat = if b = true then Pl.seqM (IntKind.i64.wrap ((IntKind.u64.wrap n).tmod (60 : Int)) - (0 : Int)).toNat else Pl.seqM (IntKind.i64.wrap ((IntKind.u64.wrap n).tmod (60 : Int))).toNat) (
    .req ((0 : Int) = (0 : Int) ∧ IntKind.i64.wrap ((IntKind.u64.wrap n).tmod (60 : Int)) = IntKind.i64.wrap ((IntKind.u64.wrap n).tmod (60 : Int)) ∧ IntKind.i64.wrap ((IntKind.u64.wrap n).tmod (60 : Int)) = IntKind.i64.wrap ((IntKind.u64.wrap n).tmod (60 : Int)) ∧ b = b ∧ Pl.seqM (IntKind.i64.wrap ((IntKind.u64.wrap n).tmod (60 : Int))).toNat = Pl.seqM (IntKind.i64.wrap ((IntKind.u64.wrap n).tmod (60 : Int))).toNat) (
     .req (0 ≤ 500 ∧ ∀ (m : Pl.MsgD), m ∈ ([] : List (Int × Int × Int × Int × Int × Int × Int × Int × ByteArray × (List Int × List ((Int × Int) × ByteArray)) × (List Int × (Int × Int × List Int) × List (Int × Int)) × List (Int × Int × Int))) → Pl.okM m) (
      .fork (!(Pl.takeF (([] : List (Int × Int × Int × Int × Int × Int × Int × Int × ByteArray × (List Int × List ((Int × Int) × ByteArray)) × (List Int × (Int × Int × List Int) × List (Int × Int)) × List (Int × Int × Int)))) (0 : Int)).2.2) (
       .fork ((↑(Pl.takeF (([] : List (Int × Int × Int × Int × Int × Int × Int × Int × ByteArray × (List Int × List ((Int × Int) × ByteArray)) × (List Int × (Int × Int × List Int) × List (Int × Int)) × List (Int × Int × Int)))) (0 : Int)).1.length : Int) == (0 : Int)) (
        .req (True) (
         .leaf ((true, ())))) (
        .leaf ((false, ())))) (
       .leaf ((false, ()))))))))) : Tree (Bool × PUnit)) := by kernel_rfl
end Pl
namespace Pl
open Go Sx Go.Proofs Go.RowKit
theorem seqM_len (n : Nat) : (seqM n).length = n := by simp [seqM]
theorem seqM_succ (n : Nat) : seqM (n + 1) = seqM n ++ [mkM 1 (n : Int)] := by simp [seqM, List.range_succ]
theorem seqM_okM (n : Nat) : ∀ m ∈ seqM n, okM m := fun m hm => by
  simp only [seqM, List.mem_map] at hm
  obtain ⟨k, _, rfl⟩ := hm
  exact okM_mk _ _
theorem seqM_get {n k : Nat} (h : k < n) : (seqM n).getD k zM = mkM 1 (k : Int) := by
  simp [seqM, List.getD_eq_getElem?_getD, h]
theorem sendF_one {o : List MsgD} {m : MsgD} (h : o.length < 500) : sendF o [m] = (o ++ [m], 1) := by
  have e : List.take (500 - o.length) [m] = [m] := List.take_of_length_le (by simp; omega)
  have e2 : min [m].length (500 - o.length) = 1 := by rw [List.length_singleton]; omega
  unfold sendF
  rw [e, e2]; rfl
theorem takeF_at {o : List MsgD} {i : Int} (h0 : 0 ≤ i) (h1 : i < o.length) : takeF o i = (o.eraseIdx i.toNat, o.getD i.toNat zM, true) := by
  unfold takeF; rw [if_pos ⟨h0, h1⟩]
theorem lOa : LpsOK Try.prog Try.f3 [oaP] := by
  refine .cons (LOa.sound n6_ok (lps := []) (n := 100) (inner rfl) (fun _ => rfl) ?_) .nil
  rintro ⟨b, n, i, o⟩ ⟨h1, h2, h3, h4⟩
  simp only at h1 h2 h3 h4
  subst h4
  have hl := seqM_len i.toNat
  have hsend : sendF (seqM i.toNat) [mkM 1 i] = (seqM (i + 1).toNat, 1) := by
    rw [sendF_one (by omega), show (i + 1).toNat = i.toNat + 1 by omega, seqM_succ, show ((i.toNat : Nat) : Int) = i by omega]
  rw [rOa]
  refine ⟨fun c => ?_, fun c => ?_⟩
  · have c : i < n := of_decide_eq_true c
    refine ⟨⟨by omega, by decide, fun m hm => ?_⟩, fun e => ?_, fun _ => ⟨by repeat' (first | exact trivial | rfl | apply And.intro), ?_⟩⟩
    · have hm : m ∈ [mkM 1 i] := hm
      rw [List.mem_singleton] at hm; subst hm; exact okM_mk _ _
    · exfalso
      have e : ((sendF (seqM i.toNat) [mkM 1 i]).2 != 1) = true := e
      rw [hsend] at e; exact absurd e (by simp)
    · rw [IntWalk.i64_in (i + 1) (by omega)]
      refine ⟨⟨by dsimp only; omega, by dsimp only; omega, h3, ?_⟩, by simp only [LOa]; omega, rfl⟩
      show (sendF (seqM i.toNat) [mkM 1 i]).1 = seqM (i + 1).toNat
      rw [hsend]
  · have c : ¬ i < n := of_decide_eq_false c
    exact ⟨⟨rfl, rfl, by rw [show i = n by omega]⟩, trivial⟩
theorem lOb : LpsOK Try.prog Try.f3 [oaP, obP] := by
  refine .cons (lOa 0 _ rfl) (.cons (LOb.sound n6_ok (lps := []) (n := 100) (inner rfl) (fun _ => rfl) ?_) .nil)
  rintro ⟨b, n, i, o⟩ ⟨h1, h2, h3, h4⟩
  simp only at h1 h2 h3 h4
  rw [rOb]
  have hok : o.length ≤ 500 ∧ ∀ m ∈ o, okM m := by
    rw [h4]
    cases b with
    | true => simp only [if_true]; exact ⟨by rw [seqM_len]; omega, seqM_okM _⟩
    | false => simp only [Bool.false_eq_true, if_false]; exact ⟨by rw [List.length_drop, seqM_len]; omega, fun m hm => seqM_okM _ m (List.mem_of_mem_drop hm)⟩
  refine ⟨fun c => ?_, fun c => ?_⟩
  · have c : i < n := of_decide_eq_true c
    have next : ∀ o', o' = (if b = true then seqM (n - (i + 1)).toNat else (seqM n.toNat).drop (i + 1).toNat) → LOb.Next ⟨b, n, i, o⟩ (some ⟨b, n, IntKind.i64.wrap (i + 1), o'⟩) := by
      intro o' e
      rw [IntWalk.i64_in (i + 1) (by omega)]
      exact ⟨⟨by dsimp only; omega, by dsimp only; omega, h3, e⟩, by simp only [LOb]; omega, rfl⟩
    refine ⟨fun hb => ?_, fun hb => ?_⟩
    · have hb : b = true := hb
      subst hb
      simp only [if_true] at h4 next
      have hl : o.length = (n - i).toNat := by rw [h4, seqM_len]
      have htk : takeF o (IntKind.i64.wrap ((o.length : Int) - 1)) = (seqM (n - (i + 1)).toNat, mkM 1 (n - 1 - i), true) := by
        rw [IntWalk.i64_in _ (by omega), takeF_at (by omega) (by omega), h4]
        have e1 : (((seqM (n - i).toNat).length : Int) - 1).toNat = (n - (i + 1)).toNat := by rw [seqM_len]; omega
        have e2 : (n - i).toNat = (n - (i + 1)).toNat + 1 := by omega
        rw [e1, seqM_get (by omega), e2, seqM_succ]
        have e3 : List.eraseIdx (seqM (n - (i + 1)).toNat ++ [mkM 1 (((n - (i + 1)).toNat : Nat) : Int)]) (n - (i + 1)).toNat = seqM (n - (i + 1)).toNat := by
          rw [List.eraseIdx_append_of_length_le (by rw [seqM_len]; omega), seqM_len, Nat.sub_self]; simp
        rw [e3, show (((n - (i + 1)).toNat : Nat) : Int) = n - 1 - i by omega]
      rw [htk]
      refine ⟨hok, trivial, fun e => ?_, fun _ => ⟨by repeat' (first | exact trivial | rfl | apply And.intro), next _ rfl⟩⟩
      exfalso
      rw [IntWalk.i64_in (n - 1) (by omega), IntWalk.i64_in _ (by omega)] at e
      have e : (!true || (n - 1 - i != n - 1 - i)) = true := e
      simp at e
    · have hb : b = false := hb
      subst hb
      simp only [Bool.false_eq_true, if_false] at h4 next
      have hd : (seqM n.toNat).drop i.toNat = mkM 1 i :: (seqM n.toNat).drop (i + 1).toNat := by
        have hlt : i.toNat < (seqM n.toNat).length := by rw [seqM_len]; omega
        rw [List.drop_eq_getElem_cons hlt, show (i + 1).toNat = i.toNat + 1 by omega]
        congr 1
        have := seqM_get (n := n.toNat) (k := i.toNat) (by omega)
        rw [getD_get _ hlt] at this
        rw [this, show ((i.toNat : Nat) : Int) = i by omega]
      have htk : takeF o 0 = ((seqM n.toNat).drop (i + 1).toNat, mkM 1 i, true) := by
        rw [h4, hd, takeF_at (by omega) (by simp)]; rfl
      rw [htk]
      refine ⟨hok, trivial, fun e => ?_, fun _ => ⟨by repeat' (first | exact trivial | rfl | apply And.intro), next _ rfl⟩⟩
      exfalso
      have e : (!true || (i != i)) = true := e
      simp at e
  · have c : ¬ i < n := of_decide_eq_false c
    have hi : i = n := by omega
    refine ⟨?_, trivial⟩
    rw [h4, hi]
    cases b with
    | true => simp only [if_true]; rw [show (n - n).toNat = 0 by omega]; rfl
    | false => simp only [Bool.false_eq_true, if_false]; rw [List.drop_of_length_le (by rw [seqM_len]; omega)]
theorem n60_in {n : Int} : 0 ≤ IntKind.i64.wrap ((IntKind.u64.wrap n).tmod 60) ∧ IntKind.i64.wrap ((IntKind.u64.wrap n).tmod 60) < 60 := by
  have h := u64_range n
  have h1 : 0 ≤ (IntKind.u64.wrap n).tmod 60 := Int.tmod_nonneg _ h.1
  have h2 : (IntKind.u64.wrap n).tmod 60 < 60 := Int.tmod_lt_of_pos _ (by omega)
  rw [IntWalk.i64_in ((IntKind.u64.wrap n).tmod 60) (by omega)]
  exact ⟨h1, h2⟩
theorem order_ok : PureOK Try.prog 3 [i64, .bool] [.bool] (fun _ => True) (fun _ => (true, ())) :=
  fn_pure (E := n6) (n := 100) n6_ok Try.func3 (by kernel_rfl) lOb fun x _ => by
    obtain ⟨n, b, _⟩ : Int × Bool × Unit := x
    refine Tree.all_eq (tOr n b) ?_
    have hm := n60_in (n := n)
    revert hm
    generalize IntKind.i64.wrap ((IntKind.u64.wrap n).tmod 60) = N
    rintro ⟨m1, m2⟩
    refine ⟨by decide, ⟨by omega, by omega, m2, rfl⟩, by repeat' (first | exact trivial | rfl | apply And.intro), ⟨by omega, by omega, m2, ?_⟩, by repeat' (first | exact trivial | rfl | apply And.intro), ⟨by omega, fun m hm => by cases hm⟩, fun _ => ⟨fun _ => ⟨trivial, rfl⟩, fun e => by cases e⟩, fun e => by cases e⟩
    show seqM N.toNat = if b = true then seqM (N - 0).toNat else (seqM N.toNat).drop 0
    rw [Int.sub_zero]; cases b <;> rfl
end Pl
namespace Pl
open Go Sx Go.Proofs Go.RowKit
noncomputable abbrev n7 : Ex := mkExM Try.prog [KAtN, KSd]
theorem n7_ok : n7.Sound := mkExM_sound ⟨mutSp_ok at_okN, mutSp_ok send_ok, trivial⟩
theorem tDb (o : List MsgD) (i : Int) : @Eq _
  (fnM true n7 [] 100 Try.f12 (.row MsgT) [i64] [.bool] o (i, ()))
  (.req (o.length ≤ 500 ∧ ∀ (m : Pl.MsgD), m ∈ o → Pl.okM m) (
 .fork ((Pl.atF o i).2.2) (
  .req ((Pl.atF o i).1.length ≤ 500 ∧ (1 : Int) < (4611686018427387904 : Int) ∧ ∀ (m : TD Pl.MsgT), m ∈ [((Pl.atF o i).2.1.1, (Pl.atF o i).2.1.2.1, (Pl.atF o i).2.1.2.2.1, (Pl.atF o i).2.1.2.2.2.1, (Pl.atF o i).2.1.2.2.2.2.1, (Pl.atF o i).2.1.2.2.2.2.2.1, (Pl.atF o i).2.1.2.2.2.2.2.2.1, (Pl.atF o i).2.1.2.2.2.2.2.2.2.1, (Pl.atF o i).2.1.2.2.2.2.2.2.2.2.1, (tab 8 (Pl.atF o i).2.1.2.2.2.2.2.2.2.2.2.1.1 (0 : Int), (Pl.atF o i).2.1.2.2.2.2.2.2.2.2.2.1.2), (tab 8 (Pl.atF o i).2.1.2.2.2.2.2.2.2.2.2.2.1.1 (0 : Int), (Pl.atF o i).2.1.2.2.2.2.2.2.2.2.2.2.1.2.1, tab 16 (Pl.atF o i).2.1.2.2.2.2.2.2.2.2.2.2.1.2.2 ((0 : Int), (0 : Int))), (Pl.atF o i).2.1.2.2.2.2.2.2.2.2.2.2.2)] → Pl.okM m) (
   .leaf (((Pl.sendF (Pl.atF o i).1 [((Pl.atF o i).2.1.1, (Pl.atF o i).2.1.2.1, (Pl.atF o i).2.1.2.2.1, (Pl.atF o i).2.1.2.2.2.1, (Pl.atF o i).2.1.2.2.2.2.1, (Pl.atF o i).2.1.2.2.2.2.2.1, (Pl.atF o i).2.1.2.2.2.2.2.2.1, (Pl.atF o i).2.1.2.2.2.2.2.2.2.1, (Pl.atF o i).2.1.2.2.2.2.2.2.2.2.1, (tab 8 (Pl.atF o i).2.1.2.2.2.2.2.2.2.2.2.1.1 (0 : Int), (Pl.atF o i).2.1.2.2.2.2.2.2.2.2.2.1.2), (tab 8 (Pl.atF o i).2.1.2.2.2.2.2.2.2.2.2.2.1.1 (0 : Int), (Pl.atF o i).2.1.2.2.2.2.2.2.2.2.2.2.1.2.1, tab 16 (Pl.atF o i).2.1.2.2.2.2.2.2.2.2.2.2.1.2.2 ((0 : Int), (0 : Int))), (Pl.atF o i).2.1.2.2.2.2.2.2.2.2.2.2.2)]).1, (Pl.sendF (Pl.atF o i).1 [((Pl.atF o i).2.1.1, (Pl.atF o i).2.1.2.1, (Pl.atF o i).2.1.2.2.1, (Pl.atF o i).2.1.2.2.2.1, (Pl.atF o i).2.1.2.2.2.2.1, (Pl.atF o i).2.1.2.2.2.2.2.1, (Pl.atF o i).2.1.2.2.2.2.2.2.1, (Pl.atF o i).2.1.2.2.2.2.2.2.2.1, (Pl.atF o i).2.1.2.2.2.2.2.2.2.2.1, (tab 8 (Pl.atF o i).2.1.2.2.2.2.2.2.2.2.2.1.1 (0 : Int), (Pl.atF o i).2.1.2.2.2.2.2.2.2.2.2.1.2), (tab 8 (Pl.atF o i).2.1.2.2.2.2.2.2.2.2.2.2.1.1 (0 : Int), (Pl.atF o i).2.1.2.2.2.2.2.2.2.2.2.2.1.2.1, tab 16 (Pl.atF o i).2.1.2.2.2.2.2.2.2.2.2.2.1.2.2 ((0 : Int), (0 : Int))), (Pl.atF o i).2.1.2.2.2.2.2.2.2.2.2.2.2)]).2 == (1 : Int), ())))) (
  .leaf (((Pl.atF o i).1, false, ())))) : Tree (List (Int × Int × Int × Int × Int × Int × Int × Int × ByteArray × (List Int × List ((Int × Int) × ByteArray)) × (List Int × (Int × Int × List Int) × List (Int × Int)) × List (Int × Int × Int)) × Bool × PUnit)) := by kernel_rfl
def dblF (o : List MsgD) (i : Int) : List MsgD × Bool := if 0 ≤ i ∧ i < (o.length : Int) then ((sendF o [o.getD i.toNat zM]).1, (sendF o [o.getD i.toNat zM]).2 == 1) else (o, false)
def capM (i : Int) : Nat := min i.toNat 500
structure AFa where
  j : Int
  n : Int
  i : Int
  o : List MsgD
def LFa : LoopC AFa where
  n0 := 1
  det st := match intS st 1, intS st 18, intS st 19, rowC st 0 0 MsgT with | some j, some n, some i, some o => some ⟨j, n, i, o⟩ | _, _, _, _ => none
  rows := [(1, .cell 0 0)]
  inv a := ⟨[(19, iv a.i), (18, iv a.n), (5, .one (.ptr 0 0)), (0, iv a.n), (1, iv a.j)],
    [(0, .blk [.row 1]), (1, .own MsgT a.o)], 2⟩
  ok a := 0 ≤ a.i ∧ a.i ≤ a.n ∧ a.n < 510 ∧ a.o = seqM (capM a.i)
  mu a := (a.n - a.i).toNat
  fin a := .leaf ⟨2, ⟨[(5, .one (.ptr 0 0)), (0, iv a.n), (1, iv a.j)],
    [(0, .blk [.row 1]), (1, .own MsgT (seqM (capM a.n)))], 2⟩⟩
theorem rFa (j n i : Int) (o : List MsgD) : @Eq _
  (LFa.round n6 [] 100 Try.f4 0 ⟨j, n, i, o⟩)
  (.fork (decide (i < n)) (
 .req (o.length ≤ 500 ∧ (1 : Int) < (4611686018427387904 : Int) ∧ ∀ (m : TD Pl.MsgT), m ∈ [((1 : Int), (0 : Int), (0 : Int), i, (0 : Int), (0 : Int), (0 : Int), (0 : Int), { data := { toList := ([] : List UInt8) } }, (List.replicate 8 (0 : Int), ([] : List ((Int × Int) × ByteArray))), (List.replicate 8 (0 : Int), ((0 : Int), (0 : Int), ([] : List Int)), List.replicate 16 ((0 : Int), (0 : Int))), ([] : List (Int × Int × Int)))] → Pl.okM m) (
  .fork ((Pl.sendF o [((1 : Int), (0 : Int), (0 : Int), i, (0 : Int), (0 : Int), (0 : Int), (0 : Int), { data := { toList := ([] : List UInt8) } }, (List.replicate 8 (0 : Int), ([] : List ((Int × Int) × ByteArray))), (List.replicate 8 (0 : Int), ((0 : Int), (0 : Int), ([] : List Int)), List.replicate 16 ((0 : Int), (0 : Int))), ([] : List (Int × Int × Int)))]).2 != if (if IntKind.i64.wrap ((500 : Int) - i) > (0 : Int) then IntKind.i64.wrap ((500 : Int) - i) else (0 : Int)) < (1 : Int) then if IntKind.i64.wrap ((500 : Int) - i) > (0 : Int) then IntKind.i64.wrap ((500 : Int) - i) else (0 : Int) else (1 : Int)) (
   .req (False) (
    .leaf (Option.none))) (
   .req (IntKind.i64.wrap (i + (1 : Int)) = IntKind.i64.wrap (i + (1 : Int)) ∧ n = n ∧ n = n ∧ j = j ∧ (Pl.sendF o [((1 : Int), (0 : Int), (0 : Int), i, (0 : Int), (0 : Int), (0 : Int), (0 : Int), { data := { toList := ([] : List UInt8) } }, (List.replicate 8 (0 : Int), ([] : List ((Int × Int) × ByteArray))), (List.replicate 8 (0 : Int), ((0 : Int), (0 : Int), ([] : List Int)), List.replicate 16 ((0 : Int), (0 : Int))), ([] : List (Int × Int × Int)))]).1 = (Pl.sendF o [((1 : Int), (0 : Int), (0 : Int), i, (0 : Int), (0 : Int), (0 : Int), (0 : Int), { data := { toList := ([] : List UInt8) } }, (List.replicate 8 (0 : Int), ([] : List ((Int × Int) × ByteArray))), (List.replicate 8 (0 : Int), ((0 : Int), (0 : Int), ([] : List Int)), List.replicate 16 ((0 : Int), (0 : Int))), ([] : List (Int × Int × Int)))]).1) (
    .leaf (Option.some { j := j, n := n, i := IntKind.i64.wrap (i + (1 : Int)), o := (Pl.sendF o [((1 : Int), (0 : Int), (0 : Int), i, (0 : Int), (0 : Int), (0 : Int), (0 : Int), { data := { toList := ([] : List UInt8) } }, (List.replicate 8 (0 : Int), ([] : List ((Int × Int) × ByteArray))), (List.replicate 8 (0 : Int), ((0 : Int), (0 : Int), ([] : List Int)), List.replicate 16 ((0 : Int), (0 : Int))), ([] : List (Int × Int × Int)))]).1 }))))) (
 .req (n = n ∧ j = j ∧ o = Pl.seqM (Pl.capM n)) (
  .leaf (Option.none))) : Tree (Option Pl.AFa)) := by kernel_rfl
noncomputable abbrev faP : Nat × (St → Tree Out) := (0, LFa.sp)
end Pl
namespace Pl
open Go Sx Go.Proofs Go.RowKit
theorem dbl_okN : MutOK true Try.prog 12 (.row MsgT) [i64] [.bool] (fun x => netP x.1) (fun x => ((dblF x.1 x.2.1).1, (dblF x.1 x.2.1).2, ())) :=
  fn_mut (E := n7) (n := 100) n7_ok Try.func12 (by kernel_rfl) .nil fun o x h => by
    obtain ⟨i, _⟩ : Int × Unit := x
    obtain ⟨h1, h2⟩ : List.length (α := MsgD) o ≤ 500 ∧ ∀ m ∈ (o : List MsgD), okM m := h
    refine Tree.all_eq (tDb o i) ?_
    show Tree.all _ fun y => y = ((dblF o i).1, (dblF o i).2, ())
    unfold dblF
    by_cases c : 0 ≤ i ∧ i < (List.length (α := MsgD) o : Int)
    · have hlt : i.toNat < List.length (α := MsgD) o := by omega
      have ha : atF o i = (o, (o : List MsgD)[i.toNat], true) := by unfold atF; rw [if_pos c, getD_get _ hlt]
      rw [if_pos c, ha, getD_get _ hlt]
      have hm := h2 _ (List.getElem_mem hlt)
      generalize (o : List MsgD)[i.toNat] = C at *
      obtain ⟨m1, m2, m3, m4, m5, m6⟩ := id hm
      have e4 : ∀ z, tab 8 C.2.2.2.2.2.2.2.2.2.1.1 z = C.2.2.2.2.2.2.2.2.2.1.1 := fun z => tab_eq m4
      have e5 : ∀ z, tab 8 C.2.2.2.2.2.2.2.2.2.2.1.1 z = C.2.2.2.2.2.2.2.2.2.2.1.1 := fun z => tab_eq m5
      have e6 : ∀ z, tab 16 C.2.2.2.2.2.2.2.2.2.2.1.2.2 z = C.2.2.2.2.2.2.2.2.2.2.1.2.2 := fun z => tab_eq m6
      refine ⟨⟨h1, h2⟩, fun _ => ⟨⟨h1, by decide, fun m hm' => ?_⟩, ?_⟩, fun e => by cases e⟩
      · have hm' : m = _ := List.mem_singleton.1 hm'
        rw [hm']
        erw [e4, e5, e6]; exact hm
      · erw [e4, e5, e6]; rfl
    · have ha : atF o i = (o, zM, false) := by unfold atF; rw [if_neg c]
      rw [if_neg c, ha]
      refine And.intro ⟨h1, h2⟩ (And.intro (fun e => ?_) (fun _ => rfl))
      exact absurd (show false = true from e) (by decide)
theorem lFa : LpsOK Try.prog Try.f4 [faP] := by
  refine .cons (LFa.sound n6_ok (lps := []) (n := 100) (inner rfl) (fun _ => rfl) ?_) .nil
  rintro ⟨j, n, i, o⟩ ⟨h1, h2, h3, h4⟩
  simp only at h1 h2 h3 h4
  subst h4
  have hl := seqM_len (capM i)
  have hc : capM i = min i.toNat 500 := rfl
  have hsend : sendF (seqM (capM i)) [mkM 1 i] = (seqM (capM (i + 1)), if i < 500 then 1 else 0) := by
    by_cases q : i < 500
    · rw [sendF_one (by omega), if_pos q, show capM (i + 1) = capM i + 1 by unfold capM; omega, seqM_succ, show ((capM i : Nat) : Int) = i by omega]
    · have e0 : 500 - (seqM (capM i)).length = 0 := by omega
      unfold sendF
      rw [e0, if_neg q, show capM (i + 1) = capM i by unfold capM; omega]
      simp
  rw [rFa]
  refine ⟨fun c => ?_, fun c => ?_⟩
  · have c : i < n := of_decide_eq_true c
    refine ⟨⟨by omega, by decide, fun m hm => ?_⟩, fun e => ?_, fun _ => ⟨by repeat' (first | exact trivial | rfl | apply And.intro), ?_⟩⟩
    · have hm : m ∈ [mkM 1 i] := hm
      rw [List.mem_singleton] at hm; subst hm; exact okM_mk _ _
    · exfalso
      rw [IntWalk.i64_in (500 - i) (by omega)] at e
      have e : ((sendF (seqM (capM i)) [mkM 1 i]).2 != (if (if 500 - i > 0 then 500 - i else 0) < 1 then if 500 - i > 0 then 500 - i else 0 else 1)) = true := e
      rw [hsend] at e
      have e := bne_iff_ne.1 e
      refine e ?_
      show (if i < 500 then (1 : Int) else 0) = _
      by_cases q : i < 500
      · rw [if_pos q, if_pos (show 500 - i > 0 by omega), if_neg (by omega)]
      · rw [if_neg q, if_neg (show ¬ 500 - i > 0 by omega), if_pos (by omega)]
    · rw [IntWalk.i64_in (i + 1) (by omega)]
      refine ⟨⟨by dsimp only; omega, by dsimp only; omega, h3, ?_⟩, by simp only [LFa]; omega, rfl⟩
      show (sendF (seqM (capM i)) [mkM 1 i]).1 = seqM (capM (i + 1))
      rw [hsend]
  · have c : ¬ i < n := of_decide_eq_false c
    exact ⟨⟨rfl, rfl, by rw [show i = n by omega]⟩, trivial⟩
abbrev KDbN : Nat × Sx.Spec := (12, mutSp true (.row MsgT) [i64] [.bool] (fun x => netP x.1) (fun x => ((dblF x.1 x.2.1).1, (dblF x.1 x.2.1).2, ())))
noncomputable abbrev n9 : Ex := mkExM Try.prog [KNn, KSd, KTkN, KAtN, KLn, KAwN, KDbN]
theorem n9_ok : n9.Sound := mkExM_sound ⟨fnI_ok (E := E0) E0_ok Try.func7 (by kernel_rfl) .nil, mutSp_ok send_ok, mutSp_ok take_okN, mutSp_ok at_okN, fnI_ok (E := E0) E0_ok Try.func9 (by kernel_rfl) .nil, pureSp_ok aw_okN, mutSp_ok dbl_okN, trivial⟩
end Pl
