import Derived.Test.YtcjhmlfdmddhkaaGoPl5
import Derived.Test.YtcjhmlfdmddhkaaSx31
namespace Pl
open Go Sx Go.Proofs Go.RowKit
abbrev Entry : Ty := .cat i64 i64
abbrev EntryD : Type := Int × Int
noncomputable abbrev N1 : Ex := mkEx Try.prog [(66, pureSp [ints] [i64] (fun x => (List.length (α := Int) x.1 : Int) < big) (fun x => (orL x.1, ()))), (67, pureSp [i64, i64] [i64] (fun _ => True) (fun x => (cmpI x.1 x.2.1, ())))]
theorem N1_ok : N1.Sound := mkEx_sound ⟨pureSp_ok or_ok, pureSp_ok cmp_ok, trivial⟩
theorem bodyE1 : Try.f60.body = some (bodyOf Try.f60) := by kernel_rfl
def cmpE (a b : EntryD) : Int := orL [cmpI a.1 b.1, cmpI a.2 b.2]
theorem tE1 (a b c d : Int) : @Eq _
  (fnT N1 [] 100 Try.f60 [Entry, Entry] [i64] ((a, b), (c, d), ()))
  (.req (True) (
 .req (True) (
  .req ((2 : Int) < (4611686018427387904 : Int)) (
   .leaf ((Pl.orL [Pl.cmpI a c, Pl.cmpI b d], ()))))) : Tree (Int × PUnit)) := by kernel_rfl
theorem ecmp_ok : PureOK Try.prog 60 [Entry, Entry] [i64] (fun _ => True) (fun x => (cmpE x.1 x.2.1, ())) :=
  fn_pure (E := N1) (n := 100) N1_ok Try.func60 bodyE1 .nil fun x _ => Tree.all_eq (tE1 x.1.1 x.1.2 x.2.1.1 x.2.1.2) ⟨trivial, trivial, by decide, rfl⟩
noncomputable abbrev N2 : Ex := mkEx Try.prog [(60, pureSp [Entry, Entry] [i64] (fun _ => True) (fun x => (cmpE x.1 x.2.1, ())))]
theorem N2_ok : N2.Sound := mkEx_sound ⟨pureSp_ok ecmp_ok, trivial⟩
theorem bodyE2 : Try.f38.body = some (bodyOf Try.f38) := by kernel_rfl
def joinE (a b : EntryD) : EntryD := if cmpE b a > 0 then b else a
theorem tE2 (a b c d : Int) : @Eq _
  (fnT N2 [] 100 Try.f38 [Entry, Entry] [Entry] ((a, b), (c, d), ()))
  (.req (True) (
 .fork (decide (Pl.cmpE (c, d) (a, b) > (0 : Int))) (
  .leaf (((c, d), ()))) (
  .leaf (((a, b), ())))) : Tree ((Int × Int) × PUnit)) := by kernel_rfl
theorem ejoin_ok : PureOK Try.prog 38 [Entry, Entry] [Entry] (fun _ => True) (fun x => (joinE x.1 x.2.1, ())) :=
  fn_pure (E := N2) (n := 100) N2_ok Try.func38 bodyE2 .nil fun x _ => Tree.all_eq (tE2 x.1.1 x.1.2 x.2.1.1 x.2.1.2) (by
    simp only [Tree.all, decide_eq_true_eq, decide_eq_false_iff_not]
    refine ⟨trivial, fun c => ?_, fun c => ?_⟩
    · show _ = (joinE (x.1.1, x.1.2) (x.2.1.1, x.2.1.2), ()); rw [joinE, if_pos c]
    · show _ = (joinE (x.1.1, x.1.2) (x.2.1.1, x.2.1.2), ()); rw [joinE, if_neg c])
theorem bodyE3 : Try.f55.body = some (bodyOf Try.f55) := by kernel_rfl
theorem bodyE4 : Try.f33.body = some (bodyOf Try.f33) := by kernel_rfl
noncomputable abbrev N3 : Ex := mkEx Try.prog [(55, fnI E0 [] 100 Try.f55)]
theorem N3_ok : N3.Sound := mkEx_sound ⟨fnI_ok (E := E0) E0_ok Try.func55 bodyE3 .nil, trivial⟩
theorem tE4 (a b : Int) : @Eq _
  (fnT N3 [] 100 Try.f33 [Entry] [.bool] ((a, b), ()))
  (.fork (a == (0 : Int) && (b == (0 : Int) && true)) (
 .leaf ((true, ()))) (
 .fork (decide (a ≥ (1 : Int))) (
  .fork (decide (a ≤ (1000000 : Int))) (
   .fork (decide (b ≥ (0 : Int))) (
    .leaf ((decide (b < (8 : Int)), ()))) (
    .leaf ((false, ())))) (
   .leaf ((false, ())))) (
  .leaf ((false, ())))) : Tree (Bool × PUnit)) := by kernel_rfl
def mayE (e : EntryD) : Bool := (e.1 == 0 && e.2 == 0) || (decide (1 ≤ e.1) && decide (e.1 ≤ 1000000) && nodeB e.2)
theorem emay_ok : PureOK Try.prog 33 [Entry] [.bool] (fun _ => True) (fun x => (mayE x.1, ())) :=
  fn_pure (E := N3) (n := 100) N3_ok Try.func33 bodyE4 .nil fun x _ => Tree.all_eq (tE4 x.1.1 x.1.2) (by
    obtain ⟨⟨a, b⟩, _⟩ : EntryD × Unit := x
    show Tree.all _ fun y => y = (mayE (a, b), ())
    have e1 : (decide (a ≥ 1) : Bool) = decide (1 ≤ a) := rfl
    simp only [Tree.all, mayE, Bool.and_true, e1]
    refine ⟨fun c => by rw [c]; rfl, fun c => ⟨fun d => ⟨fun e => ⟨fun f => ?_, fun f => ?_⟩, fun e => ?_⟩, fun d => ?_⟩⟩
    · rw [c, d, e]; simp only [nodeB, f]; rfl
    · rw [c, d, e]; simp only [nodeB, f]; rfl
    · rw [c, d, e]; rfl
    · rw [c, d]; rfl)
end Pl
