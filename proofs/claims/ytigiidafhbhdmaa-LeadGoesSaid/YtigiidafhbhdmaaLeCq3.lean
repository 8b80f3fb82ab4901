import Derived.Test.YtigiidafhbhdmaaSx30
import Derived.Test.YtigiidafhbhdmaaProg
import Derived.IntWalk
import Derived.Shelf.Slices.Clone
import Derived.Ground.Names2Prog
import Derived.Test.YtigiidafhbhdmaaSx31
namespace Pl
open Go Sx Go.Proofs
abbrev i64 : Ty := .int .i64
abbrev ints : Ty := .slice i64
abbrev Plan : Ty := .cat i64 (.cat i64 ints)
abbrev iv (n : Int) : Tv := .one (.int .i64 n)
abbrev bv (n : Bool) : Tv := .one (.bool n)
abbrev cv (n : Bool) : Tv := .one (.cbool n)
noncomputable abbrev E0 : Ex := mkEx Try.prog []
theorem E0_ok : E0.Sound := mkEx_sound trivial
abbrev big : Int := 4611686018427387904
def intAt (slots : List (Nat × Tv)) (s : Nat) : Option Int := match Sx.look slots s with | some (.one (.cint _ i)) => some i | some (.one (.int _ i)) => some i | _ => none

theorem getD_lt {l : List Int} {i : Int} (h0 : 0 ≤ i) (h1 : i < l.length) : l.drop i.toNat = l.getD i.toNat 0 :: l.drop (i.toNat + 1) := by
  have hi : i.toNat < l.length := by omega
  rw [List.drop_eq_getElem_cons hi]
  simp [List.getD_eq_getElem?_getD, hi]

theorem wrap1 {i : Int} (h0 : 0 ≤ i) (h1 : i < big) : IntKind.i64.wrap (i + 1) = i + 1 := by
  unfold big at h1
  exact IntWalk.i64_in _ (by omega)

abbrev PlanD : Type := Int × Int × List Int
def sameF (a b : PlanD) : Bool := decide (a = b)
end Pl

namespace Go.Proofs
open Go.Shelf
def Try.laysClone_ren : Go.Shelf.Ren := ⟨fun | 15 => 35 | n => n, fun | 22 => 23 | 3 => 3 | 4 => 4 | n => n, fun | n => n⟩
theorem Try.laysClone : Go.Proofs.Lays2.n15 Try.prog Try.laysClone_ren := {
  mixed := by kernel_rfl
  f15 := Try.func35.trans (congrArg some (by kernel_rfl))
  t3 := Try.underlying3
  a3 := Try.isAgg3
  z3 := Try.sizeOf3
  v3 := Try.zeroValue3
  t4 := Try.underlying4
  a4 := Try.isAgg4
  z4 := Try.sizeOf4
  v4 := Try.zeroValue4
  t22 := Try.underlying23
  a22 := Try.isAgg23
  z22 := Try.sizeOf23
  v22 := Try.zeroValue23
  i3 := by kernel_rfl }
end Go.Proofs
namespace Pl
open Go Sx Go.Proofs Go.RowKit

theorem own_reads {w : World} {base e : Nat} {v : Value} {xs : List Int} (h : w.ownsRow base e 1 v xs.length (xs.map (Value.int .i64))) : v = .slice none 0 0 ∧ xs = [] ∨ ∃ g cap cur T, v = .slice (some ⟨g, 0, none⟩) xs.length cap ∧ base ≤ g ∧ w.heap[g]? = some (.cells cur T (0, 0)) ∧ xs.length ≤ cap ∧ ∀ (i : Nat) (x : Int), xs[i]? = some x → cur[i]? = some (Value.int .i64 x) := by
  rcases h.2 with ⟨e0, e1⟩ | ⟨g, cap, cur, rfl, hb, hg, hn, _, hs, ht⟩
  · exact .inl ⟨e0, List.eq_nil_of_length_eq_zero e1⟩
  · refine .inr ⟨g, cap, cur, _, rfl, hb, hg, hn, fun i x hx => ?_⟩
    have hi : i < xs.length := (List.getElem?_eq_some_iff.1 hx).1
    have h2 : (cur.toList.take (xs.length * 1))[i]? = some (Value.int .i64 x) := by rw [ht]; simp [hx]
    rw [Nat.mul_one, List.getElem?_take_of_lt hi] at h2
    simpa using h2

def IntsAt (Q : Nat → Prop) (w : World) (xs : List Int) (A : Option Addr) : Prop :=
  ∀ (i : Nat) (x : Int), xs[i]? = some x → ∃ b o, A = some ⟨b, o, none⟩ ∧ Q b ∧ w.cell? ⟨b, o + i, none⟩ = some (Value.int .i64 x)
def IntsV (Q : Nat → Prop) (w : World) (xs : List Int) (v : Value) : Prop := ∃ A cap, v = .slice A xs.length cap ∧ xs.length ≤ cap ∧ IntsAt Q w xs A

theorem ints_iff {Q : Nat → Prop} {w : World} {xs : List Int} {cs : List Value} : ReadsC Q w ints xs cs ↔ ∃ v, cs = [v] ∧ IntsV Q w xs v := by
  constructor
  · rintro ⟨A, cap, rfl, hcap, hrow⟩
    refine ⟨_, rfl, A, cap, rfl, hcap, fun i x hx => ?_⟩
    obtain ⟨b, o, h, hQ, cs, _, hc, hrd⟩ := hrow i x hx
    have hrd : cs = [Value.int .i64 x] := hrd
    subst hrd
    have := hc 0 (by simp)
    exact ⟨b, o, h, hQ, by simpa [Ty.size] using this⟩
  · rintro ⟨v, rfl, A, cap, rfl, hcap, hrow⟩
    refine ⟨A, cap, rfl, hcap, fun i x hx => ?_⟩
    obtain ⟨b, o, h, hQ, hc⟩ := hrow i x hx
    refine ⟨b, o, h, hQ, [Value.int .i64 x], rfl, fun j hj => ?_, rfl⟩
    have hj0 : j = 0 := by simp at hj; omega
    subst hj0
    simpa [Ty.size] using hc

theorem clone_raw (Q : Nat → Prop) (w : World) (xs : List Int) (v : Value) (h : IntsV Q w xs v) (hbig : (xs.length : Int) < 17592186044416) :
    Calls Try.prog 35 #[v] w fun e w' => ∃ v', e = .returned v' ∧ IntsV (fun b => w.heap.size ≤ b ∧ b < w'.heap.size) w' xs v' ∧ Below w.heap.size w w' := by
  obtain ⟨A, cap, rfl, hcap, hrow⟩ := h
  have fin : ∀ (e : Ending) (w' : World) (v' : Value), e = .returned v' → w'.ownsRow w.heap.size 3 1 v' xs.length (xs.map (Value.int .i64)) → Below w.heap.size w w' →
      ∃ v', e = .returned v' ∧ IntsV (fun b => w.heap.size ≤ b ∧ b < w'.heap.size) w' xs v' ∧ Below w.heap.size w w' := by
    intro e w' v' he hown hb
    refine ⟨v', he, ?_, hb⟩
    rcases own_reads hown with ⟨e1, e2⟩ | ⟨g, c, cur, T, e1, hg, hh, hc, hx⟩
    · subst e2
      exact ⟨none, 0, e1, Nat.le_refl _, fun i x hi => by simp at hi⟩
    · refine ⟨some ⟨g, 0, none⟩, c, e1, hc, fun i x hi => ⟨g, 0, rfl, ⟨hg, (Array.getElem?_eq_some_iff.1 hh).1⟩, ?_⟩⟩
      have := hx i x hi
      simp [World.cell?, hh, this]
  cases A with
  | none =>
    refine (Any.slices_Clone_int_nil Try.laysClone _ cap w).mono ?_
    rintro e w' ⟨rfl, rfl⟩
    cases xs with
    | nil => exact fin _ _ _ rfl ⟨rfl, .inl ⟨rfl, rfl⟩⟩ (Below.refl _ _)
    | cons x t => obtain ⟨b, o, h, _⟩ := hrow 0 x rfl; cases h
  | some a =>
    cases hxs : xs with
    | nil =>
      subst hxs
      refine (Any.slices_Clone_int_zero Try.laysClone a cap w).mono ?_
      rintro e w' ⟨v', he, hown, _, hb⟩
      exact fin _ _ _ he hown hb
    | cons x t =>
      obtain ⟨b, o, h, _⟩ := hrow 0 x (by rw [hxs]; rfl)
      injection h with h; subst h
      rw [← hxs]
      refine (Any.slices_Clone_int Try.laysClone b o xs.length cap xs w (Nat.le_refl _) (by omega) ?_).mono ?_
      · intro j hj
        obtain ⟨b', o', h', _, hc⟩ := hrow j (xs.getD j 0) (by simp [List.getD_eq_getElem?_getD, List.getElem?_eq_getElem hj])
        injection h' with h'
        have hb' : b = b' := congrArg Addr.block h'
        have ho' : o = o' := congrArg Addr.off h'
        subst hb'; subst ho'
        exact hc
      · rintro e w' ⟨v', he, hown, _, hb⟩
        rw [List.take_of_length_le (Nat.le_refl _)] at hown
        exact fin _ _ _ he hown hb

theorem clone_ok : PureOK Try.prog 35 [ints] [ints] (fun x => (List.length (α := Int) x.1 : Int) < 17592186044416) (fun x => x) := by
  rintro R w ⟨xs, u⟩ args hR ⟨cs, r, e, hrd, er⟩ hpre
  obtain ⟨v, rfl, hv⟩ := ints_iff.1 hrd
  subst er; subst e
  refine (clone_raw R w xs v hv hpre).mono ?_
  rintro e w' ⟨v', he, hv', hb⟩
  refine ⟨[v'], he, ⟨[v'], [], rfl, ints_iff.2 ⟨v', rfl, ?_⟩, rfl⟩, hb⟩
  obtain ⟨A, cap, e1, e2, e3⟩ := hv'
  exact ⟨A, cap, e1, e2, fun i x hx => by obtain ⟨b, o, h1, h2, h3⟩ := e3 i x hx; exact ⟨b, o, h1, .inr h2, h3⟩⟩
end Pl
namespace Pl
open Go Sx Go.Proofs Go.RowKit
def idxF (v : Int) : List Int → Int → Int
  | [], _ => -1
  | x :: r, i => if x = v then i else idxF v r (i + 1)
def atL (l : List Int) (i : Int) : Int := if i < (l.length : Int) then l.getD i.toNat 0 else -1
theorem bodyIx : Try.f41.body = some (bodyOf Try.f41) := by kernel_rfl
theorem bodyCt : Try.f24.body = some (bodyOf Try.f24) := by kernel_rfl
theorem bodyAt : Try.f36.body = some (bodyOf Try.f36) := by kernel_rfl
theorem bodyHas : Try.f55.body = some (bodyOf Try.f55) := by kernel_rfl
theorem bodyMem : Try.f39.body = some (bodyOf Try.f39) := by kernel_rfl
theorem bodyMov : Try.f17.body = some (bodyOf Try.f17) := by kernel_rfl
theorem tAt (l : List Int) (i : Int) : @Eq _
  (fnT E0 [] 100 Try.f36 [ints, i64] [i64] (l, i, ()))
  (.fork (decide (i < (↑l.length : Int))) (
 .req ((0 : Int) ≤ i ∧ i < (↑l.length : Int)) (
  .req ((0 : Int) ≤ i ∧ i < (↑l.length : Int)) (
   .leaf ((l.getD i.toNat (0 : Int), ()))))) (
 .leaf (((-1 : Int), ()))) : Tree (Int × PUnit)) := by kernel_rfl
structure AIx where
  l : List Int
  v : Int
  i0 : Int
def LIx : LoopC AIx where
  n0 := 1
  det st := match rowS st 0 i64, intS st 1, intS st 8 with | some l, some v, some i0 => some ⟨l, v, i0⟩ | _, _, _ => none
  inv a := ⟨[(8, iv a.i0), (7, iv (↑a.l.length : Int)), (0, .one (.row 0)), (1, iv a.v)],
    [(0, .ro i64 a.l)], 1⟩
  ok a := 0 ≤ a.i0 ∧ a.i0 ≤ a.l.length ∧ (a.l.length : Int) < big
  mu a := a.l.length - a.i0.toNat
  fin a := .fork ((a.l.drop a.i0.toNat).contains a.v) (.leaf ⟨1, ⟨[(4, iv (idxF a.v (a.l.drop a.i0.toNat) a.i0))], [], 1⟩⟩) (.leaf ⟨2, ⟨[], [], 1⟩⟩)
noncomputable abbrev C1 : Ex := mkEx Try.prog [(36, pureSp [ints, i64] [i64] (fun x => 0 ≤ x.2.1) (fun x => (atL x.1 x.2.1, ()))), (24, pureSp [ints, i64] [.bool] (fun x => (List.length (α := Int) x.1 : Int) < big) (fun x => (List.contains (α := Int) x.1 x.2.1, ())))]
structure AHs where
  l : List Int
  v : Int
  i0 : Int
  i1 : Int
def LHs : LoopC AHs where
  n0 := 1
  det st := match rowS st 0 i64, intS st 1, intS st 7, intS st 5 with | some l, some v, some i0, some i1 => some ⟨l, v, i0, i1⟩ | _, _, _, _ => none
  inv a := ⟨[(7, iv a.i0), (5, iv a.i1), (0, .one (.row 0)), (1, iv a.v)],
    [(0, .ro i64 a.l)], 1⟩
  ok a := 0 ≤ a.i0 ∧ a.i0 ≤ 16 ∧ 0 ≤ a.i1 ∧ a.i1 ≤ a.i0
  mu a := 16 - a.i0.toNat
  fin a := .leaf ⟨2, ⟨[(5, iv (a.i1 + cntB (fun p => atL a.l (p : Int) == a.v) (16 - a.i0.toNat) a.i0.toNat))], [], 1⟩⟩
structure AMe where
  l : List Int
  i0 : Int
  l1 : List Int
def LMe : LoopC AMe where
  n0 := 1
  det st := match rowS st 0 i64, intS st 5, rowS st 3 i64 with | some l, some i0, some l1 => some ⟨l, i0, l1⟩ | _, _, _ => none
  rows := [(1, .slot 3)]
  inv a := ⟨[(5, iv a.i0), (3, .one (.row 1)), (0, .one (.row 0))],
    [(0, .ro i64 a.l), (1, .own i64 a.l1)], 2⟩
  ok a := 0 ≤ a.i0 ∧ a.i0 ≤ 8 ∧ (a.l1.length : Int) ≤ a.i0 ∧ (a.l.length : Int) < big
  mu a := 8 - a.i0.toNat
  fin a := .leaf ⟨2, ⟨[(3, .one (.row 1))], [(1, .own i64 (a.l1 ++ fltB (fun n => a.l.contains (n : Int)) (8 - a.i0.toNat) a.i0.toNat))], 2⟩⟩
structure AMo where
  l : List Int
  m : List Int
  i0 : Int
  i1 : Int
def LMo : LoopC AMo where
  n0 := 2
  det st := match rowS st 0 i64, rowS st 1 i64, intS st 7, intS st 5 with | some l, some m, some i0, some i1 => some ⟨l, m, i0, i1⟩ | _, _, _, _ => none
  inv a := ⟨[(7, iv a.i0), (5, iv a.i1), (0, .one (.row 0)), (1, .one (.row 1))],
    [(0, .ro i64 a.l), (1, .ro i64 a.m)], 2⟩
  ok a := 0 ≤ a.i0 ∧ a.i0 ≤ 16 ∧ 0 ≤ a.i1 ∧ a.i1 ≤ a.i0
  mu a := 16 - a.i0.toNat
  fin a := .leaf ⟨2, ⟨[(5, iv (a.i1 + cntB (fun p => !(atL a.l (p : Int) == atL a.m (p : Int))) (16 - a.i0.toNat) a.i0.toNat))], [], 2⟩⟩
theorem rIx (l : List Int) (v i0 : Int) : @Eq _
  (LIx.round E0 [] 100 Try.f41 0 ⟨l, v, i0⟩)
  (.fork (decide (i0 < (↑l.length : Int))) (
 .req ((0 : Int) ≤ i0 ∧ i0 < (↑l.length : Int)) (
  .req ((0 : Int) ≤ i0 ∧ i0 < (↑l.length : Int)) (
   .fork (v == l.getD i0.toNat (0 : Int)) (
    .fork ((List.drop i0.toNat l).contains v) (
     .req (i0 = Pl.idxF v (List.drop i0.toNat l) i0) (
      .leaf (Option.none))) (
     .req (False) (
      .leaf (Option.none)))) (
    .req (IntKind.i64.wrap (i0 + (1 : Int)) = IntKind.i64.wrap (i0 + (1 : Int)) ∧ (↑l.length : Int) = (↑l.length : Int) ∧ v = v ∧ l = l) (
     .leaf (Option.some { l := l, v := v, i0 := IntKind.i64.wrap (i0 + (1 : Int)) })))))) (
 .fork ((List.drop i0.toNat l).contains v) (
  .req (False) (
   .leaf (Option.none))) (
  .req (True) (
   .leaf (Option.none)))) : Tree (Option Pl.AIx)) := by kernel_rfl
theorem rHs (l : List Int) (v i0 i1 : Int) : @Eq _
  (LHs.round C1 [] 100 Try.f55 0 ⟨l, v, i0, i1⟩)
  (.fork (decide (i0 < (16 : Int))) (
 .req ((0 : Int) ≤ i0) (
  .fork (Pl.atL l i0 == v) (
   .req (IntKind.i64.wrap (i0 + (1 : Int)) = IntKind.i64.wrap (i0 + (1 : Int)) ∧ IntKind.i64.wrap (i1 + (1 : Int)) = IntKind.i64.wrap (i1 + (1 : Int)) ∧ v = v ∧ l = l) (
    .leaf (Option.some { l := l, v := v, i0 := IntKind.i64.wrap (i0 + (1 : Int)), i1 := IntKind.i64.wrap (i1 + (1 : Int)) }))) (
   .req (IntKind.i64.wrap (i0 + (1 : Int)) = IntKind.i64.wrap (i0 + (1 : Int)) ∧ i1 = i1 ∧ v = v ∧ l = l) (
    .leaf (Option.some { l := l, v := v, i0 := IntKind.i64.wrap (i0 + (1 : Int)), i1 := i1 }))))) (
 .req (i1 = i1 + cntB (fun p => Pl.atL l (↑p : Int) == v) (16 - i0.toNat) i0.toNat) (
  .leaf (Option.none))) : Tree (Option Pl.AHs)) := by kernel_rfl
theorem rMe (l : List Int) (i0 : Int) (l1 : List Int) : @Eq _
  (LMe.round C1 [] 100 Try.f39 0 ⟨l, i0, l1⟩)
  (.fork (decide (i0 < (8 : Int))) (
 .req ((↑l.length : Int) < (4611686018427387904 : Int)) (
  .fork (l.contains i0) (
   .req ((l1.length + 1) * 9 ≤ 70368744177664) (
    .req (IntKind.i64.wrap (i0 + (1 : Int)) = IntKind.i64.wrap (i0 + (1 : Int)) ∧ l = l ∧ l1 ++ [i0] = l1 ++ [i0]) (
     .leaf (Option.some { l := l, i0 := IntKind.i64.wrap (i0 + (1 : Int)), l1 := l1 ++ [i0] })))) (
   .req (IntKind.i64.wrap (i0 + (1 : Int)) = IntKind.i64.wrap (i0 + (1 : Int)) ∧ l = l ∧ l1 = l1) (
    .leaf (Option.some { l := l, i0 := IntKind.i64.wrap (i0 + (1 : Int)), l1 := l1 }))))) (
 .req (l1 = l1 ++ fltB (fun n => l.contains (↑n : Int)) (8 - i0.toNat) i0.toNat) (
  .leaf (Option.none))) : Tree (Option Pl.AMe)) := by kernel_rfl
theorem rMo (l m : List Int) (i0 i1 : Int) : @Eq _
  (LMo.round C1 [] 100 Try.f17 0 ⟨l, m, i0, i1⟩)
  (.fork (decide (i0 < (16 : Int))) (
 .req ((0 : Int) ≤ i0) (
  .req ((0 : Int) ≤ i0) (
   .fork (Pl.atL l i0 != Pl.atL m i0) (
    .req (IntKind.i64.wrap (i0 + (1 : Int)) = IntKind.i64.wrap (i0 + (1 : Int)) ∧ IntKind.i64.wrap (i1 + (1 : Int)) = IntKind.i64.wrap (i1 + (1 : Int)) ∧ l = l ∧ m = m) (
     .leaf (Option.some { l := l, m := m, i0 := IntKind.i64.wrap (i0 + (1 : Int)), i1 := IntKind.i64.wrap (i1 + (1 : Int)) }))) (
    .req (IntKind.i64.wrap (i0 + (1 : Int)) = IntKind.i64.wrap (i0 + (1 : Int)) ∧ i1 = i1 ∧ l = l ∧ m = m) (
     .leaf (Option.some { l := l, m := m, i0 := IntKind.i64.wrap (i0 + (1 : Int)), i1 := i1 })))))) (
 .req (i1 = i1 + cntB (fun p => !Pl.atL l (↑p : Int) == Pl.atL m (↑p : Int)) (16 - i0.toNat) i0.toNat) (
  .leaf (Option.none))) : Tree (Option Pl.AMo)) := by kernel_rfl
theorem tIx (l : List Int) (v : Int) : @Eq _
  (fnT E0 [(0, LIx.sp)] 100 Try.f41 [ints, i64] [i64] (l, v, ()))
  (.req ((0 : Int) ≤ (0 : Int) ∧ (0 : Int) ≤ (↑l.length : Int) ∧ (↑l.length : Int) < (4611686018427387904 : Int)) (
 .req ((0 : Int) = (0 : Int) ∧ (↑l.length : Int) = (↑l.length : Int) ∧ v = v ∧ l = l) (
  .fork (l.contains v) (
   .leaf ((Pl.idxF v l (0 : Int), ()))) (
   .leaf (((-1 : Int), ()))))) : Tree (Int × PUnit)) := by kernel_rfl
theorem tHs (l : List Int) (v : Int) : @Eq _
  (fnT C1 [(0, LHs.sp)] 100 Try.f55 [ints, i64] [i64] (l, v, ()))
  (.req ((0 : Int) ≤ (0 : Int) ∧ (0 : Int) ≤ (16 : Int) ∧ (0 : Int) ≤ (0 : Int) ∧ (0 : Int) ≤ (0 : Int)) (
 .req ((0 : Int) = (0 : Int) ∧ (0 : Int) = (0 : Int) ∧ v = v ∧ l = l) (
  .leaf (((0 : Int) + cntB (fun p => Pl.atL l (↑p : Int) == v) 16 0, ())))) : Tree (Int × PUnit)) := by kernel_rfl
theorem tMe (l : List Int) : @Eq _
  (fnT C1 [(0, LMe.sp)] 100 Try.f39 [ints] [ints] (l, ()))
  (.req ((0 : Int) ≤ (0 : Int) ∧ (0 : Int) ≤ (8 : Int) ∧ (0 : Int) ≤ (0 : Int) ∧ (↑l.length : Int) < (4611686018427387904 : Int)) (
 .req ((0 : Int) = (0 : Int) ∧ l = l ∧ ([] : List Int) = ([] : List Int)) (
  .leaf ((([] : List Int) ++ fltB (fun n => l.contains (↑n : Int)) 8 0, ())))) : Tree (List Int × PUnit)) := by kernel_rfl
theorem tMo (l m : List Int) : @Eq _
  (fnT C1 [(0, LMo.sp)] 100 Try.f17 [ints, ints] [i64] (l, m, ()))
  (.req ((0 : Int) ≤ (0 : Int) ∧ (0 : Int) ≤ (16 : Int) ∧ (0 : Int) ≤ (0 : Int) ∧ (0 : Int) ≤ (0 : Int)) (
 .req ((0 : Int) = (0 : Int) ∧ (0 : Int) = (0 : Int) ∧ l = l ∧ m = m) (
  .leaf (((0 : Int) + cntB (fun p => !Pl.atL l (↑p : Int) == Pl.atL m (↑p : Int)) 16 0, ())))) : Tree (Int × PUnit)) := by kernel_rfl
end Pl
namespace Pl
open Go Sx Go.Proofs Go.RowKit
theorem at_t (l : List Int) (i : Int) (h : 0 ≤ i) : (fnT E0 [] 100 Try.f36 [ints, i64] [i64] (l, i, ())).all fun y => y = (atL l i, ()) := by
  rw [tAt]
  simp only [Tree.all, decide_eq_true_eq, decide_eq_false_iff_not, atL]
  exact ⟨fun c => ⟨⟨h, c⟩, ⟨h, c⟩, by rw [if_pos c]⟩, fun c => by rw [if_neg c]⟩
theorem at_ok : PureOK Try.prog 36 [ints, i64] [i64] (fun x => 0 ≤ x.2.1) (fun x => (atL x.1 x.2.1, ())) :=
  fn_pure (E := E0) (n := 100) E0_ok Try.func36 bodyAt .nil fun x h => at_t x.1 x.2.1 h
theorem idxF_ge (v : Int) : ∀ (l : List Int) (i : Int), 0 ≤ i → l.contains v = true → 0 ≤ idxF v l i ∧ i ≤ idxF v l i ∧ idxF v l i < i + l.length ∧ l.getD (idxF v l i - i).toNat 0 = v
  | [], i, h0, h => by simp at h
  | x :: r, i, h0, h => by
    simp only [idxF]
    split
    · rename_i e; simp [h0, e]; omega
    · rename_i e
      have : r.contains v = true := by simp at h ⊢; rcases h with h | h; exact absurd h.symm e; exact h
      obtain ⟨a, b, c, d⟩ := idxF_ge v r (i + 1) (by omega) this
      refine ⟨a, by omega, by simp; omega, ?_⟩
      rw [show (idxF v r (i + 1) - i).toNat = (idxF v r (i + 1) - (i + 1)).toNat + 1 by omega]
      exact d
theorem lIx : LpsOK Try.prog Try.f41 [(0, LIx.sp)] := by
  refine .cons (LIx.sound E0_ok (lps := []) (n := 100) (inner rfl) (fun _ => rfl) ?_) .nil
  rintro ⟨l, v, i⟩ ⟨h1, h2, h3⟩
  simp only at h1 h2 h3
  rw [rIx]
  simp only [Tree.all, true_and, and_true, LoopC.Next, decide_eq_true_eq, decide_eq_false_iff_not, beq_iff_eq, beq_eq_false_iff_ne, ne_eq]
  refine ⟨fun c => ⟨⟨h1, c⟩, ⟨h1, c⟩, fun d => ⟨fun e => ?_, fun e => ?_⟩, fun d => ?_⟩, fun c => ⟨fun e => ?_, fun _ => trivial⟩⟩
  · rw [drop_cons 0 h1 c, idxF, if_pos d.symm]
  · rw [drop_cons 0 h1 c] at e; simp [d] at e
  · rw [i64_inc (by omega) (by unfold big at h3; omega)]
    refine ⟨⟨by dsimp only; omega, by dsimp only; omega, h3⟩, by simp only [LIx]; omega, ?_⟩
    simp only [LIx]
    rw [drop_cons 0 h1 c, idxF, if_neg (fun e => d e.symm), List.contains_cons]
    have : (v == l.getD i.toNat 0) = false := by simpa using d
    rw [this]; simp
  · rw [drop_end c] at e; simp at e
def indexF (l : List Int) (v : Int) : Int := if l.contains v then idxF v l 0 else -1
theorem index_t (l : List Int) (v : Int) (h : (l.length : Int) < big) : (fnT E0 [(0, LIx.sp)] 100 Try.f41 [ints, i64] [i64] (l, v, ())).all fun y => y = (indexF l v, ()) := by
  rw [tIx]
  simp only [Tree.all, true_and, and_true]
  exact ⟨⟨by omega, by omega, h⟩, fun c => by rw [indexF, if_pos c], fun c => by rw [indexF, if_neg (by rw [c]; decide)]⟩
theorem index_ok : PureOK Try.prog 41 [ints, i64] [i64] (fun x => (List.length (α := Int) x.1 : Int) < big) (fun x => (indexF x.1 x.2.1, ())) :=
  fn_pure (E := E0) (n := 100) E0_ok Try.func41 bodyIx lIx fun x h => index_t x.1 x.2.1 h
abbrev KIx : Nat × Sx.Spec := (41, pureSp [ints, i64] [i64] (fun x => (List.length (α := Int) x.1 : Int) < big) (fun x => (indexF x.1 x.2.1, ())))
noncomputable abbrev C0 : Ex := mkEx Try.prog [KIx]
theorem C0_ok : C0.Sound := mkEx_sound ⟨pureSp_ok index_ok, trivial⟩
theorem tCt (l : List Int) (v : Int) : @Eq _
  (fnT C0 [] 100 Try.f24 [ints, i64] [.bool] (l, v, ()))
  (.req ((↑l.length : Int) < (4611686018427387904 : Int)) (
 .leaf ((decide ((if l.contains v = true then Pl.idxF v l (0 : Int) else (-1 : Int)) ≥ (0 : Int)), ()))) : Tree (Bool × PUnit)) := by kernel_rfl
theorem contains_t (l : List Int) (v : Int) (h : (l.length : Int) < big) : (fnT C0 [] 100 Try.f24 [ints, i64] [.bool] (l, v, ())).all fun y => y = (l.contains v, ()) := by
  rw [tCt]
  simp only [Tree.all]
  refine ⟨h, ?_⟩
  cases hc : l.contains v with
  | true => have := (idxF_ge v l 0 (by omega) hc).1; rw [if_pos rfl]; simp [this]
  | false => rw [if_neg (by decide)]; simp
theorem contains_ok : PureOK Try.prog 24 [ints, i64] [.bool] (fun x => (List.length (α := Int) x.1 : Int) < big) (fun x => (List.contains (α := Int) x.1 x.2.1, ())) :=
  fn_pure (E := C0) (n := 100) C0_ok Try.func24 bodyCt .nil fun x h => contains_t x.1 x.2.1 h
theorem C1_ok : C1.Sound := mkEx_sound ⟨pureSp_ok at_ok, pureSp_ok contains_ok, trivial⟩
def hasL (l : List Int) (v : Int) : Int := cntB (fun p => atL l (p : Int) == v) 16 0
def memL (l : List Int) : List Int := fltB (fun n => l.contains (n : Int)) 8 0
def movL (l m : List Int) : Int := cntB (fun p => !(atL l (p : Int) == atL m (p : Int))) 16 0
theorem lHs : LpsOK Try.prog Try.f55 [(0, LHs.sp)] := by
  refine .cons (LHs.sound C1_ok (lps := []) (n := 100) (inner rfl) (fun _ => rfl) ?_) .nil
  rintro ⟨l, v, i, k⟩ ⟨h1, h2, h3, h4⟩
  simp only at h1 h2 h3 h4
  rw [rHs]
  simp only [Tree.all, true_and, and_true, LoopC.Next, decide_eq_true_eq, decide_eq_false_iff_not]
  refine ⟨fun c => ⟨h1, fun d => ?_, fun d => ?_⟩, fun c => by rw [cntB_end _ c]; omega⟩
  all_goals
    rw [i64_inc (by omega) (by omega)]
    try rw [i64_inc (i := k) (by omega) (by omega)]
    refine ⟨⟨by dsimp only; omega, by dsimp only; omega, by dsimp only; omega, by dsimp only; omega⟩, by simp only [LHs]; omega, ?_⟩
    simp only [LHs]
    rw [cntB_step _ h1 c, show ((i.toNat : Nat) : Int) = i by omega, d]
    simp <;> omega
theorem has_t (l : List Int) (v : Int) : (fnT C1 [(0, LHs.sp)] 100 Try.f55 [ints, i64] [i64] (l, v, ())).all fun y => y = (hasL l v, ()) := by
  rw [tHs]
  simp only [Tree.all, true_and, and_true]
  exact ⟨by omega, by simp [hasL]⟩
theorem has_ok : PureOK Try.prog 55 [ints, i64] [i64] (fun _ => True) (fun x => (hasL x.1 x.2.1, ())) :=
  fn_pure (E := C1) (n := 100) C1_ok Try.func55 bodyHas lHs fun x _ => has_t x.1 x.2.1
theorem lMe : LpsOK Try.prog Try.f39 [(0, LMe.sp)] := by
  refine .cons (LMe.sound C1_ok (lps := []) (n := 100) (inner rfl) (fun _ => rfl) ?_) .nil
  rintro ⟨l, i, k⟩ ⟨h1, h2, h3, h4⟩
  simp only at h1 h2 h3 h4
  rw [rMe]
  simp only [Tree.all, true_and, and_true, LoopC.Next, decide_eq_true_eq, decide_eq_false_iff_not]
  refine ⟨fun c => ⟨h4, fun d => ⟨by omega, ?_⟩, fun d => ?_⟩, fun c => by rw [fltB_end _ c]; simp⟩
  all_goals
    rw [i64_inc (by omega) (by omega)]
    refine ⟨⟨by dsimp only; omega, by dsimp only; omega, by simp; omega, h4⟩, by simp only [LMe]; omega, ?_⟩
    simp only [LMe]
    rw [fltB_step _ h1 c, show ((i.toNat : Nat) : Int) = i by omega, d]
    simp
theorem mem_t (l : List Int) (h : (l.length : Int) < big) : (fnT C1 [(0, LMe.sp)] 100 Try.f39 [ints] [ints] (l, ())).all fun y => y = (memL l, ()) := by
  rw [tMe]
  simp only [Tree.all, true_and, and_true]
  exact ⟨⟨by omega, by omega, by omega, h⟩, rfl⟩
theorem mem_ok : PureOK Try.prog 39 [ints] [ints] (fun x => (List.length (α := Int) x.1 : Int) < big) (fun x => (memL x.1, ())) :=
  fn_pure (E := C1) (n := 100) C1_ok Try.func39 bodyMem lMe fun x h => mem_t x.1 h
theorem lMo : LpsOK Try.prog Try.f17 [(0, LMo.sp)] := by
  refine .cons (LMo.sound C1_ok (lps := []) (n := 100) (inner rfl) (fun _ => rfl) ?_) .nil
  rintro ⟨l, m, i, k⟩ ⟨h1, h2, h3, h4⟩
  simp only at h1 h2 h3 h4
  rw [rMo]
  simp only [Tree.all, true_and, and_true, LoopC.Next, decide_eq_true_eq, decide_eq_false_iff_not]
  refine ⟨fun c => ⟨h1, h1, fun d => ?_, fun d => ?_⟩, fun c => by rw [cntB_end _ c]; omega⟩
  all_goals
    rw [i64_inc (by omega) (by omega)]
    try rw [i64_inc (i := k) (by omega) (by omega)]
    refine ⟨⟨by dsimp only; omega, by dsimp only; omega, by dsimp only; omega, by dsimp only; omega⟩, by simp only [LMo]; omega, ?_⟩
    simp only [LMo]
    have d' : (!(atL l i == atL m i)) = _ := d
    rw [cntB_step _ h1 c, show ((i.toNat : Nat) : Int) = i by omega, d']
    simp <;> omega
theorem mov_t (l m : List Int) : (fnT C1 [(0, LMo.sp)] 100 Try.f17 [ints, ints] [i64] (l, m, ())).all fun y => y = (movL l m, ()) := by
  rw [tMo]
  simp only [Tree.all, true_and, and_true]
  exact ⟨by omega, by simp [movL]⟩
theorem mov_ok : PureOK Try.prog 17 [ints, ints] [i64] (fun _ => True) (fun x => (movL x.1 x.2.1, ())) :=
  fn_pure (E := C1) (n := 100) C1_ok Try.func17 bodyMov lMo fun x _ => mov_t x.1 x.2.1
end Pl
namespace Pl
open Go Sx Go.Proofs Go.RowKit
theorem bodyM64 : Try.f66.body = some (bodyOf Try.f66) := by kernel_rfl
theorem bodyM32 : Try.f65.body = some (bodyOf Try.f65) := by kernel_rfl
theorem bodyMul : Try.f62.body = some (bodyOf Try.f62) := by kernel_rfl
theorem bodyRep : Try.f54.body = some (bodyOf Try.f54) := by kernel_rfl
noncomputable abbrev D1 : Ex := mkEx Try.prog [(66, fnI E0 [] 100 Try.f66), (65, fnI E0 [] 100 Try.f65)]
theorem D1_ok : D1.Sound := mkEx_sound ⟨fnI_ok (E := E0) E0_ok Try.func66 bodyM64 .nil, fnI_ok (E := E0) E0_ok Try.func65 bodyM32 .nil, trivial⟩
noncomputable abbrev D2 : Ex := mkExC Try.prog [(62, fnI D1 [] 100 Try.f62)]
theorem D2_ok : D2.Sound := mkExC_sound ⟨fnI_ok (E := D1) D1_ok Try.func62 bodyMul .nil, trivial⟩
noncomputable def repSp : Sx.Spec := concSp 1 1 8 (fnI D2 [] 100 Try.f54)
theorem repSp_ok : SpecOK Try.prog 54 repSp := concSp_ok (fnI_ok (E := D2) D2_ok Try.func54 bodyRep .nil)
theorem tRp (e n : Int) : @Eq _
  (((repSp [.one (.sub 0 0 1 1), .one (.int .i64 n)] [(0, .blk [.int .i64 e])] 1).getD (.fail "x")).bind fun d => .leaf (d.next))
  (.fork (decide (n = (1 : Int))) (
 .req ((0 : Int) ≤ (32 : Int)) (
  .req ((0 : Int) ≤ (32 : Int)) (
   .req ((0 : Int) ≤ (32 : Int)) (
    .req ((0 : Int) ≤ (32 : Int)) (
     .req ((0 : Int) ≤ (32 : Int)) (
      .leaf (2))))))) (
 .fork (decide (n = (2 : Int))) (
  .req ((0 : Int) ≤ (32 : Int)) (
   .req ((0 : Int) ≤ (32 : Int)) (
    .req ((0 : Int) ≤ (32 : Int)) (
     .req ((0 : Int) ≤ (32 : Int)) (
      .req ((0 : Int) ≤ (32 : Int)) (
       .leaf (2))))))) (
  .fork (decide (n = (3 : Int))) (
   .req ((0 : Int) ≤ (32 : Int)) (
    .req ((0 : Int) ≤ (32 : Int)) (
     .req ((0 : Int) ≤ (32 : Int)) (
      .req ((0 : Int) ≤ (32 : Int)) (
       .req ((0 : Int) ≤ (32 : Int)) (
        .leaf (2))))))) (
   .fork (decide (n = (4 : Int))) (
    .req ((0 : Int) ≤ (32 : Int)) (
     .req ((0 : Int) ≤ (32 : Int)) (
      .req ((0 : Int) ≤ (32 : Int)) (
       .req ((0 : Int) ≤ (32 : Int)) (
        .req ((0 : Int) ≤ (32 : Int)) (
         .leaf (2))))))) (
    .fork (decide (n = (5 : Int))) (
     .req ((0 : Int) ≤ (32 : Int)) (
      .req ((0 : Int) ≤ (32 : Int)) (
       .req ((0 : Int) ≤ (32 : Int)) (
        .req ((0 : Int) ≤ (32 : Int)) (
         .req ((0 : Int) ≤ (32 : Int)) (
          .leaf (2))))))) (
     .fork (decide (n = (6 : Int))) (
      .req ((0 : Int) ≤ (32 : Int)) (
       .req ((0 : Int) ≤ (32 : Int)) (
        .req ((0 : Int) ≤ (32 : Int)) (
         .req ((0 : Int) ≤ (32 : Int)) (
          .req ((0 : Int) ≤ (32 : Int)) (
           .leaf (2))))))) (
      .fork (decide (n = (7 : Int))) (
       .req ((0 : Int) ≤ (32 : Int)) (
        .req ((0 : Int) ≤ (32 : Int)) (
         .req ((0 : Int) ≤ (32 : Int)) (
          .req ((0 : Int) ≤ (32 : Int)) (
           .req ((0 : Int) ≤ (32 : Int)) (
            .leaf (2))))))) (
       .fork (decide (n = (8 : Int))) (
        .req ((0 : Int) ≤ (32 : Int)) (
         .req ((0 : Int) ≤ (32 : Int)) (
          .req ((0 : Int) ≤ (32 : Int)) (
           .req ((0 : Int) ≤ (32 : Int)) (
            .req ((0 : Int) ≤ (32 : Int)) (
             .leaf (2))))))) (
        .fail "no such number")))))))) : Tree (Nat)) := by kernel_rfl
end Pl
namespace Pl
open Go Sx Go.Proofs Go.RowKit
abbrev KAt : Nat × Sx.Spec := (36, pureSp [ints, i64] [i64] (fun x => 0 ≤ x.2.1) (fun x => (atL x.1 x.2.1, ())))
abbrev KCt : Nat × Sx.Spec := (24, pureSp [ints, i64] [.bool] (fun x => (List.length (α := Int) x.1 : Int) < big) (fun x => (List.contains (α := Int) x.1 x.2.1, ())))
abbrev KHas : Nat × Sx.Spec := (55, pureSp [ints, i64] [i64] (fun _ => True) (fun x => (hasL x.1 x.2.1, ())))
abbrev KMe : Nat × Sx.Spec := (39, pureSp [ints] [ints] (fun x => (List.length (α := Int) x.1 : Int) < big) (fun x => (memL x.1, ())))
abbrev KMo : Nat × Sx.Spec := (17, pureSp [ints, ints] [i64] (fun _ => True) (fun x => (movL x.1 x.2.1, ())))
noncomputable abbrev KRp : Nat × Sx.Spec := (54, repSp)
theorem bodyQ : Try.f40.body = some (bodyOf Try.f40) := by kernel_rfl
noncomputable abbrev C2 : Ex := mkExM Try.prog [KHas, KMe, KRp]
theorem C2_ok : C2.Sound := mkExM_sound ⟨pureSp_ok has_ok, pureSp_ok mem_ok, repSp_ok, trivial⟩
def NQ : Bool → Nat
  | true => 30
  | false => 40
def KQ : Bool → Int
  | true => 0
  | false => 1
def qLoop (now : List Int) (each : Int) (rich : Bool) : List Int → Int → List Int → Int → List Int × Int
  | [], _, out, more => (out, more)
  | m :: r, i, out, more => if decide (more > 0) && (decide (hasL now m > each) == rich) then qLoop now each rich r (i + 1) (out.set i.toNat (out.getD i.toNat 0 + 1)) (more - 1) else qLoop now each rich r (i + 1) out more
structure AQ where
  now : List Int
  l0 : List Int
  l1 : List Int
  n2 : Int
  n3 : Int
  i4 : Int
  i5 : Int
def LQ (b : Bool) : LoopC AQ where
  n0 := NQ b + 1
  det st := match rowS st 0 i64, rowS st 8 i64, rowS st 35 i64, intS st 7, intS st 6, intS st 36, intS st 37 with | some now, some l0, some l1, some n2, some n3, some i4, some i5 => some ⟨now, l0, l1, n2, n3, i4, i5⟩ | _, _, _, _, _, _, _ => none
  inv a := ⟨[(8, .one (.row (NQ b))), (37, iv a.i5), (36, iv a.i4), (35, .one (.row 2)), (10, .one (.cbool b)), (31, .one (.cint .i64 (KQ b))), (30, .one (.cint IntKind.i64 (2 : Int))), (29, .one (.sub 5 0 2 2)), (7, iv a.n2), (6, iv a.n3), (5, .one (.row 2)), (0, .one (.row 0))],
    [(NQ b, .own i64 a.l0), (5, .blk [SV.cbool true, SV.cbool false]), (2, .ro i64 a.l1), (0, .ro i64 a.now)], NQ b + 1⟩
  ok a := a.i4 = a.l1.length ∧ a.l0.length = a.l1.length ∧ 0 ≤ a.i5 ∧ a.i5 ≤ a.i4 ∧ a.l1.length ≤ 8 ∧ 0 ≤ a.n2 ∧ ∀ x ∈ a.l0, 0 ≤ x ∧ x + a.n2 ≤ 40
  mu a := a.l1.length - a.i5.toNat
  fin a := .leaf ⟨4, ⟨[(8, .one (.row (NQ b))), (31, .one (.cint .i64 (KQ b))), (30, .one (.cint .i64 (2 : Int))), (29, .one (.sub 5 0 2 2)), (7, iv (qLoop a.now a.n3 b (a.l1.drop a.i5.toNat) a.i5 a.l0 a.n2).2), (6, iv a.n3), (5, .one (.row 2)), (0, .one (.row 0))],
    [(NQ b, .own i64 (qLoop a.now a.n3 b (a.l1.drop a.i5.toNat) a.i5 a.l0 a.n2).1), (5, .blk [SV.cbool true, SV.cbool false]), (2, .ro i64 a.l1), (0, .ro i64 a.now)], NQ b + 1⟩⟩
noncomputable def spQ : St → Tree Out := fun st => match Sx.look st.slots 10 with | some (.one (.cbool true)) => viaN 30 [(8, i64)] (LQ true).sp st | some (.one (.cbool false)) => viaN 40 [(8, i64)] (LQ false).sp st | _ => .fail "rich"
theorem rQt (now l0 l1 : List Int) (n2 n3 i4 i5 : Int) : @Eq _
  ((LQ true).round C2 [] 100 Try.f40 1 ⟨now, l0, l1, n2, n3, i4, i5⟩)
  (.fork (decide (i5 < i4)) (
 .req ((0 : Int) ≤ i5 ∧ i5 < (↑l1.length : Int)) (
  .req ((0 : Int) ≤ i5 ∧ i5 < (↑l1.length : Int)) (
   .req (decide (n2 > (0 : Int)) = true → conjP [True]) (
    .fork (decide (n2 > (0 : Int)) && decide (Pl.hasL now (l1.getD i5.toNat (0 : Int)) > n3) == true) (
     .req ((0 : Int) ≤ i5 ∧ i5 < (↑l0.length : Int)) (
      .req ((0 : Int) ≤ i5 ∧ i5 < (↑l0.length : Int)) (
       .req ((0 : Int) ≤ i5 ∧ i5 < (↑l0.length : Int)) (
        .req ((0 : Int) ≤ i5 ∧ i5 < (↑l0.length : Int)) (
         .req (IntKind.i64.wrap (i5 + (1 : Int)) = IntKind.i64.wrap (i5 + (1 : Int)) ∧ i4 = i4 ∧ 0 = 0 ∧ 2 = 2 ∧ 2 = 2 ∧ IntKind.i64.wrap (n2 - (1 : Int)) = IntKind.i64.wrap (n2 - (1 : Int)) ∧ n3 = n3 ∧ l0.set i5.toNat (IntKind.i64.wrap (l0.getD i5.toNat (0 : Int) + (1 : Int))) = l0.set i5.toNat (IntKind.i64.wrap (l0.getD i5.toNat (0 : Int) + (1 : Int))) ∧ l1 = l1 ∧ now = now) (
          .leaf (Option.some { now := now, l0 := l0.set i5.toNat (IntKind.i64.wrap (l0.getD i5.toNat (0 : Int) + (1 : Int))), l1 := l1, n2 := IntKind.i64.wrap (n2 - (1 : Int)), n3 := n3, i4 := i4, i5 := IntKind.i64.wrap (i5 + (1 : Int)) }))))))) (
     .req (IntKind.i64.wrap (i5 + (1 : Int)) = IntKind.i64.wrap (i5 + (1 : Int)) ∧ i4 = i4 ∧ 0 = 0 ∧ 2 = 2 ∧ 2 = 2 ∧ n2 = n2 ∧ n3 = n3 ∧ l0 = l0 ∧ l1 = l1 ∧ now = now) (
      .leaf (Option.some { now := now, l0 := l0, l1 := l1, n2 := n2, n3 := n3, i4 := i4, i5 := IntKind.i64.wrap (i5 + (1 : Int)) }))))))) (
 .req (0 = 0 ∧ 2 = 2 ∧ 2 = 2 ∧ n2 = (Pl.qLoop now n3 true (List.drop i5.toNat l1) i5 l0 n2).2 ∧ n3 = n3 ∧ l0 = (Pl.qLoop now n3 true (List.drop i5.toNat l1) i5 l0 n2).1 ∧ l1 = l1 ∧ now = now) (
  .leaf (Option.none))) : Tree (Option Pl.AQ)) := by kernel_rfl
theorem rQf (now l0 l1 : List Int) (n2 n3 i4 i5 : Int) : @Eq _
  ((LQ false).round C2 [] 100 Try.f40 1 ⟨now, l0, l1, n2, n3, i4, i5⟩)
  (.fork (decide (i5 < i4)) (
 .req ((0 : Int) ≤ i5 ∧ i5 < (↑l1.length : Int)) (
  .req ((0 : Int) ≤ i5 ∧ i5 < (↑l1.length : Int)) (
   .req (decide (n2 > (0 : Int)) = true → conjP [True]) (
    .fork (decide (n2 > (0 : Int)) && decide (Pl.hasL now (l1.getD i5.toNat (0 : Int)) > n3) == false) (
     .req ((0 : Int) ≤ i5 ∧ i5 < (↑l0.length : Int)) (
      .req ((0 : Int) ≤ i5 ∧ i5 < (↑l0.length : Int)) (
       .req ((0 : Int) ≤ i5 ∧ i5 < (↑l0.length : Int)) (
        .req ((0 : Int) ≤ i5 ∧ i5 < (↑l0.length : Int)) (
         .req (IntKind.i64.wrap (i5 + (1 : Int)) = IntKind.i64.wrap (i5 + (1 : Int)) ∧ i4 = i4 ∧ 0 = 0 ∧ 2 = 2 ∧ 2 = 2 ∧ IntKind.i64.wrap (n2 - (1 : Int)) = IntKind.i64.wrap (n2 - (1 : Int)) ∧ n3 = n3 ∧ l0.set i5.toNat (IntKind.i64.wrap (l0.getD i5.toNat (0 : Int) + (1 : Int))) = l0.set i5.toNat (IntKind.i64.wrap (l0.getD i5.toNat (0 : Int) + (1 : Int))) ∧ l1 = l1 ∧ now = now) (
          .leaf (Option.some { now := now, l0 := l0.set i5.toNat (IntKind.i64.wrap (l0.getD i5.toNat (0 : Int) + (1 : Int))), l1 := l1, n2 := IntKind.i64.wrap (n2 - (1 : Int)), n3 := n3, i4 := i4, i5 := IntKind.i64.wrap (i5 + (1 : Int)) }))))))) (
     .req (IntKind.i64.wrap (i5 + (1 : Int)) = IntKind.i64.wrap (i5 + (1 : Int)) ∧ i4 = i4 ∧ 0 = 0 ∧ 2 = 2 ∧ 2 = 2 ∧ n2 = n2 ∧ n3 = n3 ∧ l0 = l0 ∧ l1 = l1 ∧ now = now) (
      .leaf (Option.some { now := now, l0 := l0, l1 := l1, n2 := n2, n3 := n3, i4 := i4, i5 := IntKind.i64.wrap (i5 + (1 : Int)) }))))))) (
 .req (0 = 0 ∧ 2 = 2 ∧ 2 = 2 ∧ n2 = (Pl.qLoop now n3 false (List.drop i5.toNat l1) i5 l0 n2).2 ∧ n3 = n3 ∧ l0 = (Pl.qLoop now n3 false (List.drop i5.toNat l1) i5 l0 n2).1 ∧ l1 = l1 ∧ now = now) (
  .leaf (Option.none))) : Tree (Option Pl.AQ)) := by kernel_rfl
theorem tQ (now ms : List Int) : @Eq _
  (fnO C2 [(1, spQ)] 100 Try.f40 [ints, ints] [ints] (now, ms, ()))
  (.req ((↑ms.length : Int) < (4611686018427387904 : Int)) (
 .fork ((↑(Pl.memL ms).length : Int) == (0 : Int)) (
  .leaf ((([] : List Int), ()))) (
  .req ((↑(Pl.memL ms).length : Int) ≠ (0 : Int)) (
   .req ((↑(Pl.memL ms).length : Int) ≠ (0 : Int)) (
    .fork (decide ((↑(Pl.memL ms).length : Int) = (1 : Int))) (
     .req ((0 : Int) ≤ (32 : Int)) (
      .req ((0 : Int) ≤ (32 : Int)) (
       .req ((0 : Int) ≤ (32 : Int)) (
        .req ((0 : Int) ≤ (32 : Int)) (
         .req ((0 : Int) ≤ (32 : Int)) (
          .req ((↑(Pl.memL ms).length : Int) = (↑(Pl.memL ms).length : Int) ∧ 1 = (Pl.memL ms).length ∧ (0 : Int) ≤ (0 : Int) ∧ (0 : Int) ≤ (↑(Pl.memL ms).length : Int) ∧ (Pl.memL ms).length ≤ 8 ∧ (0 : Int) ≤ Int.tmod (16 : Int) (↑(Pl.memL ms).length : Int) ∧ ∀ (x : Int), x ∈ [IntKind.i64.wrap (Int.tdiv (16 : Int) (↑(Pl.memL ms).length : Int))] → (0 : Int) ≤ x ∧ x + Int.tmod (16 : Int) (↑(Pl.memL ms).length : Int) ≤ (40 : Int)) (
           .req ((0 : Int) = (0 : Int) ∧ (↑(Pl.memL ms).length : Int) = (↑(Pl.memL ms).length : Int) ∧ 0 = 0 ∧ 2 = 2 ∧ 2 = 2 ∧ Int.tmod (16 : Int) (↑(Pl.memL ms).length : Int) = Int.tmod (16 : Int) (↑(Pl.memL ms).length : Int) ∧ IntKind.i64.wrap (Int.tdiv (16 : Int) (↑(Pl.memL ms).length : Int)) = IntKind.i64.wrap (Int.tdiv (16 : Int) (↑(Pl.memL ms).length : Int)) ∧ [IntKind.i64.wrap (Int.tdiv (16 : Int) (↑(Pl.memL ms).length : Int))] = [IntKind.i64.wrap (Int.tdiv (16 : Int) (↑(Pl.memL ms).length : Int))] ∧ Pl.memL ms = Pl.memL ms ∧ now = now) (
            .req ((↑(Pl.memL ms).length : Int) = (↑(Pl.memL ms).length : Int) ∧ (Pl.qLoop now (IntKind.i64.wrap (Int.tdiv (16 : Int) (↑(Pl.memL ms).length : Int))) true (List.drop 0 (Pl.memL ms)) (0 : Int) [IntKind.i64.wrap (Int.tdiv (16 : Int) (↑(Pl.memL ms).length : Int))] (Int.tmod (16 : Int) (↑(Pl.memL ms).length : Int))).1.length = (Pl.memL ms).length ∧ (0 : Int) ≤ (0 : Int) ∧ (0 : Int) ≤ (↑(Pl.memL ms).length : Int) ∧ (Pl.memL ms).length ≤ 8 ∧ (0 : Int) ≤ (Pl.qLoop now (IntKind.i64.wrap (Int.tdiv (16 : Int) (↑(Pl.memL ms).length : Int))) true (List.drop 0 (Pl.memL ms)) (0 : Int) [IntKind.i64.wrap (Int.tdiv (16 : Int) (↑(Pl.memL ms).length : Int))] (Int.tmod (16 : Int) (↑(Pl.memL ms).length : Int))).2 ∧ ∀ (x : Int), x ∈ (Pl.qLoop now (IntKind.i64.wrap (Int.tdiv (16 : Int) (↑(Pl.memL ms).length : Int))) true (List.drop 0 (Pl.memL ms)) (0 : Int) [IntKind.i64.wrap (Int.tdiv (16 : Int) (↑(Pl.memL ms).length : Int))] (Int.tmod (16 : Int) (↑(Pl.memL ms).length : Int))).1 → (0 : Int) ≤ x ∧ x + (Pl.qLoop now (IntKind.i64.wrap (Int.tdiv (16 : Int) (↑(Pl.memL ms).length : Int))) true (List.drop 0 (Pl.memL ms)) (0 : Int) [IntKind.i64.wrap (Int.tdiv (16 : Int) (↑(Pl.memL ms).length : Int))] (Int.tmod (16 : Int) (↑(Pl.memL ms).length : Int))).2 ≤ (40 : Int)) (
             .req ((0 : Int) = (0 : Int) ∧ (↑(Pl.memL ms).length : Int) = (↑(Pl.memL ms).length : Int) ∧ 0 = 0 ∧ 2 = 2 ∧ 2 = 2 ∧ (Pl.qLoop now (IntKind.i64.wrap (Int.tdiv (16 : Int) (↑(Pl.memL ms).length : Int))) true (List.drop 0 (Pl.memL ms)) (0 : Int) [IntKind.i64.wrap (Int.tdiv (16 : Int) (↑(Pl.memL ms).length : Int))] (Int.tmod (16 : Int) (↑(Pl.memL ms).length : Int))).2 = (Pl.qLoop now (IntKind.i64.wrap (Int.tdiv (16 : Int) (↑(Pl.memL ms).length : Int))) true (List.drop 0 (Pl.memL ms)) (0 : Int) [IntKind.i64.wrap (Int.tdiv (16 : Int) (↑(Pl.memL ms).length : Int))] (Int.tmod (16 : Int) (↑(Pl.memL ms).length : Int))).2 ∧ IntKind.i64.wrap (Int.tdiv (16 : Int) (↑(Pl.memL ms).length : Int)) = IntKind.i64.wrap (Int.tdiv (16 : Int) (↑(Pl.memL ms).length : Int)) ∧ (Pl.qLoop now (IntKind.i64.wrap (Int.tdiv (16 : Int) (↑(Pl.memL ms).length : Int))) true (List.drop 0 (Pl.memL ms)) (0 : Int) [IntKind.i64.wrap (Int.tdiv (16 : Int) (↑(Pl.memL ms).length : Int))] (Int.tmod (16 : Int) (↑(Pl.memL ms).length : Int))).1 = (Pl.qLoop now (IntKind.i64.wrap (Int.tdiv (16 : Int) (↑(Pl.memL ms).length : Int))) true (List.drop 0 (Pl.memL ms)) (0 : Int) [IntKind.i64.wrap (Int.tdiv (16 : Int) (↑(Pl.memL ms).length : Int))] (Int.tmod (16 : Int) (↑(Pl.memL ms).length : Int))).1 ∧ Pl.memL ms = Pl.memL ms ∧ now = now) (
              .leaf (((Pl.qLoop now (IntKind.i64.wrap (Int.tdiv (16 : Int) (↑(Pl.memL ms).length : Int))) false (List.drop 0 (Pl.memL ms)) (0 : Int) (Pl.qLoop now (IntKind.i64.wrap (Int.tdiv (16 : Int) (↑(Pl.memL ms).length : Int))) true (List.drop 0 (Pl.memL ms)) (0 : Int) [IntKind.i64.wrap (Int.tdiv (16 : Int) (↑(Pl.memL ms).length : Int))] (Int.tmod (16 : Int) (↑(Pl.memL ms).length : Int))).1 (Pl.qLoop now (IntKind.i64.wrap (Int.tdiv (16 : Int) (↑(Pl.memL ms).length : Int))) true (List.drop 0 (Pl.memL ms)) (0 : Int) [IntKind.i64.wrap (Int.tdiv (16 : Int) (↑(Pl.memL ms).length : Int))] (Int.tmod (16 : Int) (↑(Pl.memL ms).length : Int))).2).1, ())))))))))))) (
     .fork (decide ((↑(Pl.memL ms).length : Int) = (2 : Int))) (
      .req ((0 : Int) ≤ (32 : Int)) (
       .req ((0 : Int) ≤ (32 : Int)) (
        .req ((0 : Int) ≤ (32 : Int)) (
         .req ((0 : Int) ≤ (32 : Int)) (
          .req ((0 : Int) ≤ (32 : Int)) (
           .req ((↑(Pl.memL ms).length : Int) = (↑(Pl.memL ms).length : Int) ∧ 2 = (Pl.memL ms).length ∧ (0 : Int) ≤ (0 : Int) ∧ (0 : Int) ≤ (↑(Pl.memL ms).length : Int) ∧ (Pl.memL ms).length ≤ 8 ∧ (0 : Int) ≤ Int.tmod (16 : Int) (↑(Pl.memL ms).length : Int) ∧ ∀ (x : Int), x ∈ [IntKind.i64.wrap (Int.tdiv (16 : Int) (↑(Pl.memL ms).length : Int)), IntKind.i64.wrap (Int.tdiv (16 : Int) (↑(Pl.memL ms).length : Int))] → (0 : Int) ≤ x ∧ x + Int.tmod (16 : Int) (↑(Pl.memL ms).length : Int) ≤ (40 : Int)) (
            .req ((0 : Int) = (0 : Int) ∧ (↑(Pl.memL ms).length : Int) = (↑(Pl.memL ms).length : Int) ∧ 0 = 0 ∧ 2 = 2 ∧ 2 = 2 ∧ Int.tmod (16 : Int) (↑(Pl.memL ms).length : Int) = Int.tmod (16 : Int) (↑(Pl.memL ms).length : Int) ∧ IntKind.i64.wrap (Int.tdiv (16 : Int) (↑(Pl.memL ms).length : Int)) = IntKind.i64.wrap (Int.tdiv (16 : Int) (↑(Pl.memL ms).length : Int)) ∧ [IntKind.i64.wrap (Int.tdiv (16 : Int) (↑(Pl.memL ms).length : Int)), IntKind.i64.wrap (Int.tdiv (16 : Int) (↑(Pl.memL ms).length : Int))] = [IntKind.i64.wrap (Int.tdiv (16 : Int) (↑(Pl.memL ms).length : Int)), IntKind.i64.wrap (Int.tdiv (16 : Int) (↑(Pl.memL ms).length : Int))] ∧ Pl.memL ms = Pl.memL ms ∧ now = now) (
             .req ((↑(Pl.memL ms).length : Int) = (↑(Pl.memL ms).length : Int) ∧ (Pl.qLoop now (IntKind.i64.wrap (Int.tdiv (16 : Int) (↑(Pl.memL ms).length : Int))) true (List.drop 0 (Pl.memL ms)) (0 : Int) [IntKind.i64.wrap (Int.tdiv (16 : Int) (↑(Pl.memL ms).length : Int)), IntKind.i64.wrap (Int.tdiv (16 : Int) (↑(Pl.memL ms).length : Int))] (Int.tmod (16 : Int) (↑(Pl.memL ms).length : Int))).1.length = (Pl.memL ms).length ∧ (0 : Int) ≤ (0 : Int) ∧ (0 : Int) ≤ (↑(Pl.memL ms).length : Int) ∧ (Pl.memL ms).length ≤ 8 ∧ (0 : Int) ≤ (Pl.qLoop now (IntKind.i64.wrap (Int.tdiv (16 : Int) (↑(Pl.memL ms).length : Int))) true (List.drop 0 (Pl.memL ms)) (0 : Int) [IntKind.i64.wrap (Int.tdiv (16 : Int) (↑(Pl.memL ms).length : Int)), IntKind.i64.wrap (Int.tdiv (16 : Int) (↑(Pl.memL ms).length : Int))] (Int.tmod (16 : Int) (↑(Pl.memL ms).length : Int))).2 ∧ ∀ (x : Int), x ∈ (Pl.qLoop now (IntKind.i64.wrap (Int.tdiv (16 : Int) (↑(Pl.memL ms).length : Int))) true (List.drop 0 (Pl.memL ms)) (0 : Int) [IntKind.i64.wrap (Int.tdiv (16 : Int) (↑(Pl.memL ms).length : Int)), IntKind.i64.wrap (Int.tdiv (16 : Int) (↑(Pl.memL ms).length : Int))] (Int.tmod (16 : Int) (↑(Pl.memL ms).length : Int))).1 → (0 : Int) ≤ x ∧ x + (Pl.qLoop now (IntKind.i64.wrap (Int.tdiv (16 : Int) (↑(Pl.memL ms).length : Int))) true (List.drop 0 (Pl.memL ms)) (0 : Int) [IntKind.i64.wrap (Int.tdiv (16 : Int) (↑(Pl.memL ms).length : Int)), IntKind.i64.wrap (Int.tdiv (16 : Int) (↑(Pl.memL ms).length : Int))] (Int.tmod (16 : Int) (↑(Pl.memL ms).length : Int))).2 ≤ (40 : Int)) (
              .req ((0 : Int) = (0 : Int) ∧ (↑(Pl.memL ms).length : Int) = (↑(Pl.memL ms).length : Int) ∧ 0 = 0 ∧ 2 = 2 ∧ 2 = 2 ∧ (Pl.qLoop now (IntKind.i64.wrap (Int.tdiv (16 : Int) (↑(Pl.memL ms).length : Int))) true (List.drop 0 (Pl.memL ms)) (0 : Int) [IntKind.i64.wrap (Int.tdiv (16 : Int) (↑(Pl.memL ms).length : Int)), IntKind.i64.wrap (Int.tdiv (16 : Int) (↑(Pl.memL ms).length : Int))] (Int.tmod (16 : Int) (↑(Pl.memL ms).length : Int))).2 = (Pl.qLoop now (IntKind.i64.wrap (Int.tdiv (16 : Int) (↑(Pl.memL ms).length : Int))) true (List.drop 0 (Pl.memL ms)) (0 : Int) [IntKind.i64.wrap (Int.tdiv (16 : Int) (↑(Pl.memL ms).length : Int)), IntKind.i64.wrap (Int.tdiv (16 : Int) (↑(Pl.memL ms).length : Int))] (Int.tmod (16 : Int) (↑(Pl.memL ms).length : Int))).2 ∧ IntKind.i64.wrap (Int.tdiv (16 : Int) (↑(Pl.memL ms).length : Int)) = IntKind.i64.wrap (Int.tdiv (16 : Int) (↑(Pl.memL ms).length : Int)) ∧ (Pl.qLoop now (IntKind.i64.wrap (Int.tdiv (16 : Int) (↑(Pl.memL ms).length : Int))) true (List.drop 0 (Pl.memL ms)) (0 : Int) [IntKind.i64.wrap (Int.tdiv (16 : Int) (↑(Pl.memL ms).length : Int)), IntKind.i64.wrap (Int.tdiv (16 : Int) (↑(Pl.memL ms).length : Int))] (Int.tmod (16 : Int) (↑(Pl.memL ms).length : Int))).1 = (Pl.qLoop now (IntKind.i64.wrap (Int.tdiv (16 : Int) (↑(Pl.memL ms).length : Int))) true (List.drop 0 (Pl.memL ms)) (0 : Int) [IntKind.i64.wrap (Int.tdiv (16 : Int) (↑(Pl.memL ms).length : Int)), IntKind.i64.wrap (Int.tdiv (16 : Int) (↑(Pl.memL ms).length : Int))] (Int.tmod (16 : Int) (↑(Pl.memL ms).length : Int))).1 ∧ Pl.memL ms = Pl.memL ms ∧ now = now) (
               .leaf (((Pl.qLoop now (IntKind.i64.wrap (Int.tdiv (16 : Int) (↑(Pl.memL ms).length : Int))) false (List.drop 0 (Pl.memL ms)) (0 : Int) (Pl.qLoop now (IntKind.i64.wrap (Int.tdiv (16 : Int) (↑(Pl.memL ms).length : Int))) true (List.drop 0 (Pl.memL ms)) (0 : Int) [IntKind.i64.wrap (Int.tdiv (16 : Int) (↑(Pl.memL ms).length : Int)), IntKind.i64.wrap (Int.tdiv (16 : Int) (↑(Pl.memL ms).length : Int))] (Int.tmod (16 : Int) (↑(Pl.memL ms).length : Int))).1 (Pl.qLoop now (IntKind.i64.wrap (Int.tdiv (16 : Int) (↑(Pl.memL ms).length : Int))) true (List.drop 0 (Pl.memL ms)) (0 : Int) [IntKind.i64.wrap (Int.tdiv (16 : Int) (↑(Pl.memL ms).length : Int)), IntKind.i64.wrap (Int.tdiv (16 : Int) (↑(Pl.memL ms).length : Int))] (Int.tmod (16 : Int) (↑(Pl.memL ms).length : Int))).2).1, ())))))))))))) (
      .fork (decide ((↑(Pl.memL ms).length : Int) = (3 : Int))) (
       .req ((0 : Int) ≤ (32 : Int)) (
        .req ((0 : Int) ≤ (32 : Int)) (
         .req ((0 : Int) ≤ (32 : Int)) (
          .req ((0 : Int) ≤ (32 : Int)) (
           .req ((0 : Int) ≤ (32 : Int)) (
            .req ((↑(Pl.memL ms).length : Int) = (↑(Pl.memL ms).length : Int) ∧ 3 = (Pl.memL ms).length ∧ (0 : Int) ≤ (0 : Int) ∧ (0 : Int) ≤ (↑(Pl.memL ms).length : Int) ∧ (Pl.memL ms).length ≤ 8 ∧ (0 : Int) ≤ Int.tmod (16 : Int) (↑(Pl.memL ms).length : Int) ∧ ∀ (x : Int), x ∈ [IntKind.i64.wrap (Int.tdiv (16 : Int) (↑(Pl.memL ms).length : Int)), IntKind.i64.wrap (Int.tdiv (16 : Int) (↑(Pl.memL ms).length : Int)), IntKind.i64.wrap (Int.tdiv (16 : Int) (↑(Pl.memL ms).length : Int))] → (0 : Int) ≤ x ∧ x + Int.tmod (16 : Int) (↑(Pl.memL ms).length : Int) ≤ (40 : Int)) (
             .req ((0 : Int) = (0 : Int) ∧ (↑(Pl.memL ms).length : Int) = (↑(Pl.memL ms).length : Int) ∧ 0 = 0 ∧ 2 = 2 ∧ 2 = 2 ∧ Int.tmod (16 : Int) (↑(Pl.memL ms).length : Int) = Int.tmod (16 : Int) (↑(Pl.memL ms).length : Int) ∧ IntKind.i64.wrap (Int.tdiv (16 : Int) (↑(Pl.memL ms).length : Int)) = IntKind.i64.wrap (Int.tdiv (16 : Int) (↑(Pl.memL ms).length : Int)) ∧ [IntKind.i64.wrap (Int.tdiv (16 : Int) (↑(Pl.memL ms).length : Int)), IntKind.i64.wrap (Int.tdiv (16 : Int) (↑(Pl.memL ms).length : Int)), IntKind.i64.wrap (Int.tdiv (16 : Int) (↑(Pl.memL ms).length : Int))] = [IntKind.i64.wrap (Int.tdiv (16 : Int) (↑(Pl.memL ms).length : Int)), IntKind.i64.wrap (Int.tdiv (16 : Int) (↑(Pl.memL ms).length : Int)), IntKind.i64.wrap (Int.tdiv (16 : Int) (↑(Pl.memL ms).length : Int))] ∧ Pl.memL ms = Pl.memL ms ∧ now = now) (
              .req ((↑(Pl.memL ms).length : Int) = (↑(Pl.memL ms).length : Int) ∧ (Pl.qLoop now (IntKind.i64.wrap (Int.tdiv (16 : Int) (↑(Pl.memL ms).length : Int))) true (List.drop 0 (Pl.memL ms)) (0 : Int) [IntKind.i64.wrap (Int.tdiv (16 : Int) (↑(Pl.memL ms).length : Int)), IntKind.i64.wrap (Int.tdiv (16 : Int) (↑(Pl.memL ms).length : Int)), IntKind.i64.wrap (Int.tdiv (16 : Int) (↑(Pl.memL ms).length : Int))] (Int.tmod (16 : Int) (↑(Pl.memL ms).length : Int))).1.length = (Pl.memL ms).length ∧ (0 : Int) ≤ (0 : Int) ∧ (0 : Int) ≤ (↑(Pl.memL ms).length : Int) ∧ (Pl.memL ms).length ≤ 8 ∧ (0 : Int) ≤ (Pl.qLoop now (IntKind.i64.wrap (Int.tdiv (16 : Int) (↑(Pl.memL ms).length : Int))) true (List.drop 0 (Pl.memL ms)) (0 : Int) [IntKind.i64.wrap (Int.tdiv (16 : Int) (↑(Pl.memL ms).length : Int)), IntKind.i64.wrap (Int.tdiv (16 : Int) (↑(Pl.memL ms).length : Int)), IntKind.i64.wrap (Int.tdiv (16 : Int) (↑(Pl.memL ms).length : Int))] (Int.tmod (16 : Int) (↑(Pl.memL ms).length : Int))).2 ∧ ∀ (x : Int), x ∈ (Pl.qLoop now (IntKind.i64.wrap (Int.tdiv (16 : Int) (↑(Pl.memL ms).length : Int))) true (List.drop 0 (Pl.memL ms)) (0 : Int) [IntKind.i64.wrap (Int.tdiv (16 : Int) (↑(Pl.memL ms).length : Int)), IntKind.i64.wrap (Int.tdiv (16 : Int) (↑(Pl.memL ms).length : Int)), IntKind.i64.wrap (Int.tdiv (16 : Int) (↑(Pl.memL ms).length : Int))] (Int.tmod (16 : Int) (↑(Pl.memL ms).length : Int))).1 → (0 : Int) ≤ x ∧ x + (Pl.qLoop now (IntKind.i64.wrap (Int.tdiv (16 : Int) (↑(Pl.memL ms).length : Int))) true (List.drop 0 (Pl.memL ms)) (0 : Int) [IntKind.i64.wrap (Int.tdiv (16 : Int) (↑(Pl.memL ms).length : Int)), IntKind.i64.wrap (Int.tdiv (16 : Int) (↑(Pl.memL ms).length : Int)), IntKind.i64.wrap (Int.tdiv (16 : Int) (↑(Pl.memL ms).length : Int))] (Int.tmod (16 : Int) (↑(Pl.memL ms).length : Int))).2 ≤ (40 : Int)) (
               .req ((0 : Int) = (0 : Int) ∧ (↑(Pl.memL ms).length : Int) = (↑(Pl.memL ms).length : Int) ∧ 0 = 0 ∧ 2 = 2 ∧ 2 = 2 ∧ (Pl.qLoop now (IntKind.i64.wrap (Int.tdiv (16 : Int) (↑(Pl.memL ms).length : Int))) true (List.drop 0 (Pl.memL ms)) (0 : Int) [IntKind.i64.wrap (Int.tdiv (16 : Int) (↑(Pl.memL ms).length : Int)), IntKind.i64.wrap (Int.tdiv (16 : Int) (↑(Pl.memL ms).length : Int)), IntKind.i64.wrap (Int.tdiv (16 : Int) (↑(Pl.memL ms).length : Int))] (Int.tmod (16 : Int) (↑(Pl.memL ms).length : Int))).2 = (Pl.qLoop now (IntKind.i64.wrap (Int.tdiv (16 : Int) (↑(Pl.memL ms).length : Int))) true (List.drop 0 (Pl.memL ms)) (0 : Int) [IntKind.i64.wrap (Int.tdiv (16 : Int) (↑(Pl.memL ms).length : Int)), IntKind.i64.wrap (Int.tdiv (16 : Int) (↑(Pl.memL ms).length : Int)), IntKind.i64.wrap (Int.tdiv (16 : Int) (↑(Pl.memL ms).length : Int))] (Int.tmod (16 : Int) (↑(Pl.memL ms).length : Int))).2 ∧ IntKind.i64.wrap (Int.tdiv (16 : Int) (↑(Pl.memL ms).length : Int)) = IntKind.i64.wrap (Int.tdiv (16 : Int) (↑(Pl.memL ms).length : Int)) ∧ (Pl.qLoop now (IntKind.i64.wrap (Int.tdiv (16 : Int) (↑(Pl.memL ms).length : Int))) true (List.drop 0 (Pl.memL ms)) (0 : Int) [IntKind.i64.wrap (Int.tdiv (16 : Int) (↑(Pl.memL ms).length : Int)), IntKind.i64.wrap (Int.tdiv (16 : Int) (↑(Pl.memL ms).length : Int)), IntKind.i64.wrap (Int.tdiv (16 : Int) (↑(Pl.memL ms).length : Int))] (Int.tmod (16 : Int) (↑(Pl.memL ms).length : Int))).1 = (Pl.qLoop now (IntKind.i64.wrap (Int.tdiv (16 : Int) (↑(Pl.memL ms).length : Int))) true (List.drop 0 (Pl.memL ms)) (0 : Int) [IntKind.i64.wrap (Int.tdiv (16 : Int) (↑(Pl.memL ms).length : Int)), IntKind.i64.wrap (Int.tdiv (16 : Int) (↑(Pl.memL ms).length : Int)), IntKind.i64.wrap (Int.tdiv (16 : Int) (↑(Pl.memL ms).length : Int))] (Int.tmod (16 : Int) (↑(Pl.memL ms).length : Int))).1 ∧ Pl.memL ms = Pl.memL ms ∧ now = now) (
                .leaf (((Pl.qLoop now (IntKind.i64.wrap (Int.tdiv (16 : Int) (↑(Pl.memL ms).length : Int))) false (List.drop 0 (Pl.memL ms)) (0 : Int) (Pl.qLoop now (IntKind.i64.wrap (Int.tdiv (16 : Int) (↑(Pl.memL ms).length : Int))) true (List.drop 0 (Pl.memL ms)) (0 : Int) [IntKind.i64.wrap (Int.tdiv (16 : Int) (↑(Pl.memL ms).length : Int)), IntKind.i64.wrap (Int.tdiv (16 : Int) (↑(Pl.memL ms).length : Int)), IntKind.i64.wrap (Int.tdiv (16 : Int) (↑(Pl.memL ms).length : Int))] (Int.tmod (16 : Int) (↑(Pl.memL ms).length : Int))).1 (Pl.qLoop now (IntKind.i64.wrap (Int.tdiv (16 : Int) (↑(Pl.memL ms).length : Int))) true (List.drop 0 (Pl.memL ms)) (0 : Int) [IntKind.i64.wrap (Int.tdiv (16 : Int) (↑(Pl.memL ms).length : Int)), IntKind.i64.wrap (Int.tdiv (16 : Int) (↑(Pl.memL ms).length : Int)), IntKind.i64.wrap (Int.tdiv (16 : Int) (↑(Pl.memL ms).length : Int))] (Int.tmod (16 : Int) (↑(Pl.memL ms).length : Int))).2).1, ())))))))))))) (
       .fork (decide ((↑(Pl.memL ms).length : Int) = (4 : Int))) (
        .req ((0 : Int) ≤ (32 : Int)) (
         .req ((0 : Int) ≤ (32 : Int)) (
          .req ((0 : Int) ≤ (32 : Int)) (
           .req ((0 : Int) ≤ (32 : Int)) (
            .req ((0 : Int) ≤ (32 : Int)) (
             .req ((↑(Pl.memL ms).length : Int) = (↑(Pl.memL ms).length : Int) ∧ 4 = (Pl.memL ms).length ∧ (0 : Int) ≤ (0 : Int) ∧ (0 : Int) ≤ (↑(Pl.memL ms).length : Int) ∧ (Pl.memL ms).length ≤ 8 ∧ (0 : Int) ≤ Int.tmod (16 : Int) (↑(Pl.memL ms).length : Int) ∧ ∀ (x : Int), x ∈ List.replicate 4 (IntKind.i64.wrap (Int.tdiv (16 : Int) (↑(Pl.memL ms).length : Int))) → (0 : Int) ≤ x ∧ x + Int.tmod (16 : Int) (↑(Pl.memL ms).length : Int) ≤ (40 : Int)) (
              .req ((0 : Int) = (0 : Int) ∧ (↑(Pl.memL ms).length : Int) = (↑(Pl.memL ms).length : Int) ∧ 0 = 0 ∧ 2 = 2 ∧ 2 = 2 ∧ Int.tmod (16 : Int) (↑(Pl.memL ms).length : Int) = Int.tmod (16 : Int) (↑(Pl.memL ms).length : Int) ∧ IntKind.i64.wrap (Int.tdiv (16 : Int) (↑(Pl.memL ms).length : Int)) = IntKind.i64.wrap (Int.tdiv (16 : Int) (↑(Pl.memL ms).length : Int)) ∧ List.replicate 4 (IntKind.i64.wrap (Int.tdiv (16 : Int) (↑(Pl.memL ms).length : Int))) = List.replicate 4 (IntKind.i64.wrap (Int.tdiv (16 : Int) (↑(Pl.memL ms).length : Int))) ∧ Pl.memL ms = Pl.memL ms ∧ now = now) (
               .req ((↑(Pl.memL ms).length : Int) = (↑(Pl.memL ms).length : Int) ∧ (Pl.qLoop now (IntKind.i64.wrap (Int.tdiv (16 : Int) (↑(Pl.memL ms).length : Int))) true (List.drop 0 (Pl.memL ms)) (0 : Int) (List.replicate 4 (IntKind.i64.wrap (Int.tdiv (16 : Int) (↑(Pl.memL ms).length : Int)))) (Int.tmod (16 : Int) (↑(Pl.memL ms).length : Int))).1.length = (Pl.memL ms).length ∧ (0 : Int) ≤ (0 : Int) ∧ (0 : Int) ≤ (↑(Pl.memL ms).length : Int) ∧ (Pl.memL ms).length ≤ 8 ∧ (0 : Int) ≤ (Pl.qLoop now (IntKind.i64.wrap (Int.tdiv (16 : Int) (↑(Pl.memL ms).length : Int))) true (List.drop 0 (Pl.memL ms)) (0 : Int) (List.replicate 4 (IntKind.i64.wrap (Int.tdiv (16 : Int) (↑(Pl.memL ms).length : Int)))) (Int.tmod (16 : Int) (↑(Pl.memL ms).length : Int))).2 ∧ ∀ (x : Int), x ∈ (Pl.qLoop now (IntKind.i64.wrap (Int.tdiv (16 : Int) (↑(Pl.memL ms).length : Int))) true (List.drop 0 (Pl.memL ms)) (0 : Int) (List.replicate 4 (IntKind.i64.wrap (Int.tdiv (16 : Int) (↑(Pl.memL ms).length : Int)))) (Int.tmod (16 : Int) (↑(Pl.memL ms).length : Int))).1 → (0 : Int) ≤ x ∧ x + (Pl.qLoop now (IntKind.i64.wrap (Int.tdiv (16 : Int) (↑(Pl.memL ms).length : Int))) true (List.drop 0 (Pl.memL ms)) (0 : Int) (List.replicate 4 (IntKind.i64.wrap (Int.tdiv (16 : Int) (↑(Pl.memL ms).length : Int)))) (Int.tmod (16 : Int) (↑(Pl.memL ms).length : Int))).2 ≤ (40 : Int)) (
                .req ((0 : Int) = (0 : Int) ∧ (↑(Pl.memL ms).length : Int) = (↑(Pl.memL ms).length : Int) ∧ 0 = 0 ∧ 2 = 2 ∧ 2 = 2 ∧ (Pl.qLoop now (IntKind.i64.wrap (Int.tdiv (16 : Int) (↑(Pl.memL ms).length : Int))) true (List.drop 0 (Pl.memL ms)) (0 : Int) (List.replicate 4 (IntKind.i64.wrap (Int.tdiv (16 : Int) (↑(Pl.memL ms).length : Int)))) (Int.tmod (16 : Int) (↑(Pl.memL ms).length : Int))).2 = (Pl.qLoop now (IntKind.i64.wrap (Int.tdiv (16 : Int) (↑(Pl.memL ms).length : Int))) true (List.drop 0 (Pl.memL ms)) (0 : Int) (List.replicate 4 (IntKind.i64.wrap (Int.tdiv (16 : Int) (↑(Pl.memL ms).length : Int)))) (Int.tmod (16 : Int) (↑(Pl.memL ms).length : Int))).2 ∧ IntKind.i64.wrap (Int.tdiv (16 : Int) (↑(Pl.memL ms).length : Int)) = IntKind.i64.wrap (Int.tdiv (16 : Int) (↑(Pl.memL ms).length : Int)) ∧ (Pl.qLoop now (IntKind.i64.wrap (Int.tdiv (16 : Int) (↑(Pl.memL ms).length : Int))) true (List.drop 0 (Pl.memL ms)) (0 : Int) (List.replicate 4 (IntKind.i64.wrap (Int.tdiv (16 : Int) (↑(Pl.memL ms).length : Int)))) (Int.tmod (16 : Int) (↑(Pl.memL ms).length : Int))).1 = (Pl.qLoop now (IntKind.i64.wrap (Int.tdiv (16 : Int) (↑(Pl.memL ms).length : Int))) true (List.drop 0 (Pl.memL ms)) (0 : Int) (List.replicate 4 (IntKind.i64.wrap (Int.tdiv (16 : Int) (↑(Pl.memL ms).length : Int)))) (Int.tmod (16 : Int) (↑(Pl.memL ms).length : Int))).1 ∧ Pl.memL ms = Pl.memL ms ∧ now = now) (
                 .leaf (((Pl.qLoop now (IntKind.i64.wrap (Int.tdiv (16 : Int) (↑(Pl.memL ms).length : Int))) false (List.drop 0 (Pl.memL ms)) (0 : Int) (Pl.qLoop now (IntKind.i64.wrap (Int.tdiv (16 : Int) (↑(Pl.memL ms).length : Int))) true (List.drop 0 (Pl.memL ms)) (0 : Int) (List.replicate 4 (IntKind.i64.wrap (Int.tdiv (16 : Int) (↑(Pl.memL ms).length : Int)))) (Int.tmod (16 : Int) (↑(Pl.memL ms).length : Int))).1 (Pl.qLoop now (IntKind.i64.wrap (Int.tdiv (16 : Int) (↑(Pl.memL ms).length : Int))) true (List.drop 0 (Pl.memL ms)) (0 : Int) (List.replicate 4 (IntKind.i64.wrap (Int.tdiv (16 : Int) (↑(Pl.memL ms).length : Int)))) (Int.tmod (16 : Int) (↑(Pl.memL ms).length : Int))).2).1, ())))))))))))) (
        .fork (decide ((↑(Pl.memL ms).length : Int) = (5 : Int))) (
         .req ((0 : Int) ≤ (32 : Int)) (
          .req ((0 : Int) ≤ (32 : Int)) (
           .req ((0 : Int) ≤ (32 : Int)) (
            .req ((0 : Int) ≤ (32 : Int)) (
             .req ((0 : Int) ≤ (32 : Int)) (
              .req ((↑(Pl.memL ms).length : Int) = (↑(Pl.memL ms).length : Int) ∧ 5 = (Pl.memL ms).length ∧ (0 : Int) ≤ (0 : Int) ∧ (0 : Int) ≤ (↑(Pl.memL ms).length : Int) ∧ (Pl.memL ms).length ≤ 8 ∧ (0 : Int) ≤ Int.tmod (16 : Int) (↑(Pl.memL ms).length : Int) ∧ ∀ (x : Int), x ∈ List.replicate 5 (IntKind.i64.wrap (Int.tdiv (16 : Int) (↑(Pl.memL ms).length : Int))) → (0 : Int) ≤ x ∧ x + Int.tmod (16 : Int) (↑(Pl.memL ms).length : Int) ≤ (40 : Int)) (
               .req ((0 : Int) = (0 : Int) ∧ (↑(Pl.memL ms).length : Int) = (↑(Pl.memL ms).length : Int) ∧ 0 = 0 ∧ 2 = 2 ∧ 2 = 2 ∧ Int.tmod (16 : Int) (↑(Pl.memL ms).length : Int) = Int.tmod (16 : Int) (↑(Pl.memL ms).length : Int) ∧ IntKind.i64.wrap (Int.tdiv (16 : Int) (↑(Pl.memL ms).length : Int)) = IntKind.i64.wrap (Int.tdiv (16 : Int) (↑(Pl.memL ms).length : Int)) ∧ List.replicate 5 (IntKind.i64.wrap (Int.tdiv (16 : Int) (↑(Pl.memL ms).length : Int))) = List.replicate 5 (IntKind.i64.wrap (Int.tdiv (16 : Int) (↑(Pl.memL ms).length : Int))) ∧ Pl.memL ms = Pl.memL ms ∧ now = now) (
                .req ((↑(Pl.memL ms).length : Int) = (↑(Pl.memL ms).length : Int) ∧ (Pl.qLoop now (IntKind.i64.wrap (Int.tdiv (16 : Int) (↑(Pl.memL ms).length : Int))) true (List.drop 0 (Pl.memL ms)) (0 : Int) (List.replicate 5 (IntKind.i64.wrap (Int.tdiv (16 : Int) (↑(Pl.memL ms).length : Int)))) (Int.tmod (16 : Int) (↑(Pl.memL ms).length : Int))).1.length = (Pl.memL ms).length ∧ (0 : Int) ≤ (0 : Int) ∧ (0 : Int) ≤ (↑(Pl.memL ms).length : Int) ∧ (Pl.memL ms).length ≤ 8 ∧ (0 : Int) ≤ (Pl.qLoop now (IntKind.i64.wrap (Int.tdiv (16 : Int) (↑(Pl.memL ms).length : Int))) true (List.drop 0 (Pl.memL ms)) (0 : Int) (List.replicate 5 (IntKind.i64.wrap (Int.tdiv (16 : Int) (↑(Pl.memL ms).length : Int)))) (Int.tmod (16 : Int) (↑(Pl.memL ms).length : Int))).2 ∧ ∀ (x : Int), x ∈ (Pl.qLoop now (IntKind.i64.wrap (Int.tdiv (16 : Int) (↑(Pl.memL ms).length : Int))) true (List.drop 0 (Pl.memL ms)) (0 : Int) (List.replicate 5 (IntKind.i64.wrap (Int.tdiv (16 : Int) (↑(Pl.memL ms).length : Int)))) (Int.tmod (16 : Int) (↑(Pl.memL ms).length : Int))).1 → (0 : Int) ≤ x ∧ x + (Pl.qLoop now (IntKind.i64.wrap (Int.tdiv (16 : Int) (↑(Pl.memL ms).length : Int))) true (List.drop 0 (Pl.memL ms)) (0 : Int) (List.replicate 5 (IntKind.i64.wrap (Int.tdiv (16 : Int) (↑(Pl.memL ms).length : Int)))) (Int.tmod (16 : Int) (↑(Pl.memL ms).length : Int))).2 ≤ (40 : Int)) (
                 .req ((0 : Int) = (0 : Int) ∧ (↑(Pl.memL ms).length : Int) = (↑(Pl.memL ms).length : Int) ∧ 0 = 0 ∧ 2 = 2 ∧ 2 = 2 ∧ (Pl.qLoop now (IntKind.i64.wrap (Int.tdiv (16 : Int) (↑(Pl.memL ms).length : Int))) true (List.drop 0 (Pl.memL ms)) (0 : Int) (List.replicate 5 (IntKind.i64.wrap (Int.tdiv (16 : Int) (↑(Pl.memL ms).length : Int)))) (Int.tmod (16 : Int) (↑(Pl.memL ms).length : Int))).2 = (Pl.qLoop now (IntKind.i64.wrap (Int.tdiv (16 : Int) (↑(Pl.memL ms).length : Int))) true (List.drop 0 (Pl.memL ms)) (0 : Int) (List.replicate 5 (IntKind.i64.wrap (Int.tdiv (16 : Int) (↑(Pl.memL ms).length : Int)))) (Int.tmod (16 : Int) (↑(Pl.memL ms).length : Int))).2 ∧ IntKind.i64.wrap (Int.tdiv (16 : Int) (↑(Pl.memL ms).length : Int)) = IntKind.i64.wrap (Int.tdiv (16 : Int) (↑(Pl.memL ms).length : Int)) ∧ (Pl.qLoop now (IntKind.i64.wrap (Int.tdiv (16 : Int) (↑(Pl.memL ms).length : Int))) true (List.drop 0 (Pl.memL ms)) (0 : Int) (List.replicate 5 (IntKind.i64.wrap (Int.tdiv (16 : Int) (↑(Pl.memL ms).length : Int)))) (Int.tmod (16 : Int) (↑(Pl.memL ms).length : Int))).1 = (Pl.qLoop now (IntKind.i64.wrap (Int.tdiv (16 : Int) (↑(Pl.memL ms).length : Int))) true (List.drop 0 (Pl.memL ms)) (0 : Int) (List.replicate 5 (IntKind.i64.wrap (Int.tdiv (16 : Int) (↑(Pl.memL ms).length : Int)))) (Int.tmod (16 : Int) (↑(Pl.memL ms).length : Int))).1 ∧ Pl.memL ms = Pl.memL ms ∧ now = now) (
                  .leaf (((Pl.qLoop now (IntKind.i64.wrap (Int.tdiv (16 : Int) (↑(Pl.memL ms).length : Int))) false (List.drop 0 (Pl.memL ms)) (0 : Int) (Pl.qLoop now (IntKind.i64.wrap (Int.tdiv (16 : Int) (↑(Pl.memL ms).length : Int))) true (List.drop 0 (Pl.memL ms)) (0 : Int) (List.replicate 5 (IntKind.i64.wrap (Int.tdiv (16 : Int) (↑(Pl.memL ms).length : Int)))) (Int.tmod (16 : Int) (↑(Pl.memL ms).length : Int))).1 (Pl.qLoop now (IntKind.i64.wrap (Int.tdiv (16 : Int) (↑(Pl.memL ms).length : Int))) true (List.drop 0 (Pl.memL ms)) (0 : Int) (List.replicate 5 (IntKind.i64.wrap (Int.tdiv (16 : Int) (↑(Pl.memL ms).length : Int)))) (Int.tmod (16 : Int) (↑(Pl.memL ms).length : Int))).2).1, ())))))))))))) (
         .fork (decide ((↑(Pl.memL ms).length : Int) = (6 : Int))) (
          .req ((0 : Int) ≤ (32 : Int)) (
           .req ((0 : Int) ≤ (32 : Int)) (
            .req ((0 : Int) ≤ (32 : Int)) (
             .req ((0 : Int) ≤ (32 : Int)) (
              .req ((0 : Int) ≤ (32 : Int)) (
               .req ((↑(Pl.memL ms).length : Int) = (↑(Pl.memL ms).length : Int) ∧ 6 = (Pl.memL ms).length ∧ (0 : Int) ≤ (0 : Int) ∧ (0 : Int) ≤ (↑(Pl.memL ms).length : Int) ∧ (Pl.memL ms).length ≤ 8 ∧ (0 : Int) ≤ Int.tmod (16 : Int) (↑(Pl.memL ms).length : Int) ∧ ∀ (x : Int), x ∈ List.replicate 6 (IntKind.i64.wrap (Int.tdiv (16 : Int) (↑(Pl.memL ms).length : Int))) → (0 : Int) ≤ x ∧ x + Int.tmod (16 : Int) (↑(Pl.memL ms).length : Int) ≤ (40 : Int)) (
                .req ((0 : Int) = (0 : Int) ∧ (↑(Pl.memL ms).length : Int) = (↑(Pl.memL ms).length : Int) ∧ 0 = 0 ∧ 2 = 2 ∧ 2 = 2 ∧ Int.tmod (16 : Int) (↑(Pl.memL ms).length : Int) = Int.tmod (16 : Int) (↑(Pl.memL ms).length : Int) ∧ IntKind.i64.wrap (Int.tdiv (16 : Int) (↑(Pl.memL ms).length : Int)) = IntKind.i64.wrap (Int.tdiv (16 : Int) (↑(Pl.memL ms).length : Int)) ∧ List.replicate 6 (IntKind.i64.wrap (Int.tdiv (16 : Int) (↑(Pl.memL ms).length : Int))) = List.replicate 6 (IntKind.i64.wrap (Int.tdiv (16 : Int) (↑(Pl.memL ms).length : Int))) ∧ Pl.memL ms = Pl.memL ms ∧ now = now) (
                 .req ((↑(Pl.memL ms).length : Int) = (↑(Pl.memL ms).length : Int) ∧ (Pl.qLoop now (IntKind.i64.wrap (Int.tdiv (16 : Int) (↑(Pl.memL ms).length : Int))) true (List.drop 0 (Pl.memL ms)) (0 : Int) (List.replicate 6 (IntKind.i64.wrap (Int.tdiv (16 : Int) (↑(Pl.memL ms).length : Int)))) (Int.tmod (16 : Int) (↑(Pl.memL ms).length : Int))).1.length = (Pl.memL ms).length ∧ (0 : Int) ≤ (0 : Int) ∧ (0 : Int) ≤ (↑(Pl.memL ms).length : Int) ∧ (Pl.memL ms).length ≤ 8 ∧ (0 : Int) ≤ (Pl.qLoop now (IntKind.i64.wrap (Int.tdiv (16 : Int) (↑(Pl.memL ms).length : Int))) true (List.drop 0 (Pl.memL ms)) (0 : Int) (List.replicate 6 (IntKind.i64.wrap (Int.tdiv (16 : Int) (↑(Pl.memL ms).length : Int)))) (Int.tmod (16 : Int) (↑(Pl.memL ms).length : Int))).2 ∧ ∀ (x : Int), x ∈ (Pl.qLoop now (IntKind.i64.wrap (Int.tdiv (16 : Int) (↑(Pl.memL ms).length : Int))) true (List.drop 0 (Pl.memL ms)) (0 : Int) (List.replicate 6 (IntKind.i64.wrap (Int.tdiv (16 : Int) (↑(Pl.memL ms).length : Int)))) (Int.tmod (16 : Int) (↑(Pl.memL ms).length : Int))).1 → (0 : Int) ≤ x ∧ x + (Pl.qLoop now (IntKind.i64.wrap (Int.tdiv (16 : Int) (↑(Pl.memL ms).length : Int))) true (List.drop 0 (Pl.memL ms)) (0 : Int) (List.replicate 6 (IntKind.i64.wrap (Int.tdiv (16 : Int) (↑(Pl.memL ms).length : Int)))) (Int.tmod (16 : Int) (↑(Pl.memL ms).length : Int))).2 ≤ (40 : Int)) (
                  .req ((0 : Int) = (0 : Int) ∧ (↑(Pl.memL ms).length : Int) = (↑(Pl.memL ms).length : Int) ∧ 0 = 0 ∧ 2 = 2 ∧ 2 = 2 ∧ (Pl.qLoop now (IntKind.i64.wrap (Int.tdiv (16 : Int) (↑(Pl.memL ms).length : Int))) true (List.drop 0 (Pl.memL ms)) (0 : Int) (List.replicate 6 (IntKind.i64.wrap (Int.tdiv (16 : Int) (↑(Pl.memL ms).length : Int)))) (Int.tmod (16 : Int) (↑(Pl.memL ms).length : Int))).2 = (Pl.qLoop now (IntKind.i64.wrap (Int.tdiv (16 : Int) (↑(Pl.memL ms).length : Int))) true (List.drop 0 (Pl.memL ms)) (0 : Int) (List.replicate 6 (IntKind.i64.wrap (Int.tdiv (16 : Int) (↑(Pl.memL ms).length : Int)))) (Int.tmod (16 : Int) (↑(Pl.memL ms).length : Int))).2 ∧ IntKind.i64.wrap (Int.tdiv (16 : Int) (↑(Pl.memL ms).length : Int)) = IntKind.i64.wrap (Int.tdiv (16 : Int) (↑(Pl.memL ms).length : Int)) ∧ (Pl.qLoop now (IntKind.i64.wrap (Int.tdiv (16 : Int) (↑(Pl.memL ms).length : Int))) true (List.drop 0 (Pl.memL ms)) (0 : Int) (List.replicate 6 (IntKind.i64.wrap (Int.tdiv (16 : Int) (↑(Pl.memL ms).length : Int)))) (Int.tmod (16 : Int) (↑(Pl.memL ms).length : Int))).1 = (Pl.qLoop now (IntKind.i64.wrap (Int.tdiv (16 : Int) (↑(Pl.memL ms).length : Int))) true (List.drop 0 (Pl.memL ms)) (0 : Int) (List.replicate 6 (IntKind.i64.wrap (Int.tdiv (16 : Int) (↑(Pl.memL ms).length : Int)))) (Int.tmod (16 : Int) (↑(Pl.memL ms).length : Int))).1 ∧ Pl.memL ms = Pl.memL ms ∧ now = now) (
                   .leaf (((Pl.qLoop now (IntKind.i64.wrap (Int.tdiv (16 : Int) (↑(Pl.memL ms).length : Int))) false (List.drop 0 (Pl.memL ms)) (0 : Int) (Pl.qLoop now (IntKind.i64.wrap (Int.tdiv (16 : Int) (↑(Pl.memL ms).length : Int))) true (List.drop 0 (Pl.memL ms)) (0 : Int) (List.replicate 6 (IntKind.i64.wrap (Int.tdiv (16 : Int) (↑(Pl.memL ms).length : Int)))) (Int.tmod (16 : Int) (↑(Pl.memL ms).length : Int))).1 (Pl.qLoop now (IntKind.i64.wrap (Int.tdiv (16 : Int) (↑(Pl.memL ms).length : Int))) true (List.drop 0 (Pl.memL ms)) (0 : Int) (List.replicate 6 (IntKind.i64.wrap (Int.tdiv (16 : Int) (↑(Pl.memL ms).length : Int)))) (Int.tmod (16 : Int) (↑(Pl.memL ms).length : Int))).2).1, ())))))))))))) (
          .fork (decide ((↑(Pl.memL ms).length : Int) = (7 : Int))) (
           .req ((0 : Int) ≤ (32 : Int)) (
            .req ((0 : Int) ≤ (32 : Int)) (
             .req ((0 : Int) ≤ (32 : Int)) (
              .req ((0 : Int) ≤ (32 : Int)) (
               .req ((0 : Int) ≤ (32 : Int)) (
                .req ((↑(Pl.memL ms).length : Int) = (↑(Pl.memL ms).length : Int) ∧ 7 = (Pl.memL ms).length ∧ (0 : Int) ≤ (0 : Int) ∧ (0 : Int) ≤ (↑(Pl.memL ms).length : Int) ∧ (Pl.memL ms).length ≤ 8 ∧ (0 : Int) ≤ Int.tmod (16 : Int) (↑(Pl.memL ms).length : Int) ∧ ∀ (x : Int), x ∈ List.replicate 7 (IntKind.i64.wrap (Int.tdiv (16 : Int) (↑(Pl.memL ms).length : Int))) → (0 : Int) ≤ x ∧ x + Int.tmod (16 : Int) (↑(Pl.memL ms).length : Int) ≤ (40 : Int)) (
                 .req ((0 : Int) = (0 : Int) ∧ (↑(Pl.memL ms).length : Int) = (↑(Pl.memL ms).length : Int) ∧ 0 = 0 ∧ 2 = 2 ∧ 2 = 2 ∧ Int.tmod (16 : Int) (↑(Pl.memL ms).length : Int) = Int.tmod (16 : Int) (↑(Pl.memL ms).length : Int) ∧ IntKind.i64.wrap (Int.tdiv (16 : Int) (↑(Pl.memL ms).length : Int)) = IntKind.i64.wrap (Int.tdiv (16 : Int) (↑(Pl.memL ms).length : Int)) ∧ List.replicate 7 (IntKind.i64.wrap (Int.tdiv (16 : Int) (↑(Pl.memL ms).length : Int))) = List.replicate 7 (IntKind.i64.wrap (Int.tdiv (16 : Int) (↑(Pl.memL ms).length : Int))) ∧ Pl.memL ms = Pl.memL ms ∧ now = now) (
                  .req ((↑(Pl.memL ms).length : Int) = (↑(Pl.memL ms).length : Int) ∧ (Pl.qLoop now (IntKind.i64.wrap (Int.tdiv (16 : Int) (↑(Pl.memL ms).length : Int))) true (List.drop 0 (Pl.memL ms)) (0 : Int) (List.replicate 7 (IntKind.i64.wrap (Int.tdiv (16 : Int) (↑(Pl.memL ms).length : Int)))) (Int.tmod (16 : Int) (↑(Pl.memL ms).length : Int))).1.length = (Pl.memL ms).length ∧ (0 : Int) ≤ (0 : Int) ∧ (0 : Int) ≤ (↑(Pl.memL ms).length : Int) ∧ (Pl.memL ms).length ≤ 8 ∧ (0 : Int) ≤ (Pl.qLoop now (IntKind.i64.wrap (Int.tdiv (16 : Int) (↑(Pl.memL ms).length : Int))) true (List.drop 0 (Pl.memL ms)) (0 : Int) (List.replicate 7 (IntKind.i64.wrap (Int.tdiv (16 : Int) (↑(Pl.memL ms).length : Int)))) (Int.tmod (16 : Int) (↑(Pl.memL ms).length : Int))).2 ∧ ∀ (x : Int), x ∈ (Pl.qLoop now (IntKind.i64.wrap (Int.tdiv (16 : Int) (↑(Pl.memL ms).length : Int))) true (List.drop 0 (Pl.memL ms)) (0 : Int) (List.replicate 7 (IntKind.i64.wrap (Int.tdiv (16 : Int) (↑(Pl.memL ms).length : Int)))) (Int.tmod (16 : Int) (↑(Pl.memL ms).length : Int))).1 → (0 : Int) ≤ x ∧ x + (Pl.qLoop now (IntKind.i64.wrap (Int.tdiv (16 : Int) (↑(Pl.memL ms).length : Int))) true (List.drop 0 (Pl.memL ms)) (0 : Int) (List.replicate 7 (IntKind.i64.wrap (Int.tdiv (16 : Int) (↑(Pl.memL ms).length : Int)))) (Int.tmod (16 : Int) (↑(Pl.memL ms).length : Int))).2 ≤ (40 : Int)) (
                   .req ((0 : Int) = (0 : Int) ∧ (↑(Pl.memL ms).length : Int) = (↑(Pl.memL ms).length : Int) ∧ 0 = 0 ∧ 2 = 2 ∧ 2 = 2 ∧ (Pl.qLoop now (IntKind.i64.wrap (Int.tdiv (16 : Int) (↑(Pl.memL ms).length : Int))) true (List.drop 0 (Pl.memL ms)) (0 : Int) (List.replicate 7 (IntKind.i64.wrap (Int.tdiv (16 : Int) (↑(Pl.memL ms).length : Int)))) (Int.tmod (16 : Int) (↑(Pl.memL ms).length : Int))).2 = (Pl.qLoop now (IntKind.i64.wrap (Int.tdiv (16 : Int) (↑(Pl.memL ms).length : Int))) true (List.drop 0 (Pl.memL ms)) (0 : Int) (List.replicate 7 (IntKind.i64.wrap (Int.tdiv (16 : Int) (↑(Pl.memL ms).length : Int)))) (Int.tmod (16 : Int) (↑(Pl.memL ms).length : Int))).2 ∧ IntKind.i64.wrap (Int.tdiv (16 : Int) (↑(Pl.memL ms).length : Int)) = IntKind.i64.wrap (Int.tdiv (16 : Int) (↑(Pl.memL ms).length : Int)) ∧ (Pl.qLoop now (IntKind.i64.wrap (Int.tdiv (16 : Int) (↑(Pl.memL ms).length : Int))) true (List.drop 0 (Pl.memL ms)) (0 : Int) (List.replicate 7 (IntKind.i64.wrap (Int.tdiv (16 : Int) (↑(Pl.memL ms).length : Int)))) (Int.tmod (16 : Int) (↑(Pl.memL ms).length : Int))).1 = (Pl.qLoop now (IntKind.i64.wrap (Int.tdiv (16 : Int) (↑(Pl.memL ms).length : Int))) true (List.drop 0 (Pl.memL ms)) (0 : Int) (List.replicate 7 (IntKind.i64.wrap (Int.tdiv (16 : Int) (↑(Pl.memL ms).length : Int)))) (Int.tmod (16 : Int) (↑(Pl.memL ms).length : Int))).1 ∧ Pl.memL ms = Pl.memL ms ∧ now = now) (
                    .leaf (((Pl.qLoop now (IntKind.i64.wrap (Int.tdiv (16 : Int) (↑(Pl.memL ms).length : Int))) false (List.drop 0 (Pl.memL ms)) (0 : Int) (Pl.qLoop now (IntKind.i64.wrap (Int.tdiv (16 : Int) (↑(Pl.memL ms).length : Int))) true (List.drop 0 (Pl.memL ms)) (0 : Int) (List.replicate 7 (IntKind.i64.wrap (Int.tdiv (16 : Int) (↑(Pl.memL ms).length : Int)))) (Int.tmod (16 : Int) (↑(Pl.memL ms).length : Int))).1 (Pl.qLoop now (IntKind.i64.wrap (Int.tdiv (16 : Int) (↑(Pl.memL ms).length : Int))) true (List.drop 0 (Pl.memL ms)) (0 : Int) (List.replicate 7 (IntKind.i64.wrap (Int.tdiv (16 : Int) (↑(Pl.memL ms).length : Int)))) (Int.tmod (16 : Int) (↑(Pl.memL ms).length : Int))).2).1, ())))))))))))) (
           .fork (decide ((↑(Pl.memL ms).length : Int) = (8 : Int))) (
            .req ((0 : Int) ≤ (32 : Int)) (
             .req ((0 : Int) ≤ (32 : Int)) (
              .req ((0 : Int) ≤ (32 : Int)) (
               .req ((0 : Int) ≤ (32 : Int)) (
                .req ((0 : Int) ≤ (32 : Int)) (
                 .req ((↑(Pl.memL ms).length : Int) = (↑(Pl.memL ms).length : Int) ∧ 8 = (Pl.memL ms).length ∧ (0 : Int) ≤ (0 : Int) ∧ (0 : Int) ≤ (↑(Pl.memL ms).length : Int) ∧ (Pl.memL ms).length ≤ 8 ∧ (0 : Int) ≤ Int.tmod (16 : Int) (↑(Pl.memL ms).length : Int) ∧ ∀ (x : Int), x ∈ List.replicate 8 (IntKind.i64.wrap (Int.tdiv (16 : Int) (↑(Pl.memL ms).length : Int))) → (0 : Int) ≤ x ∧ x + Int.tmod (16 : Int) (↑(Pl.memL ms).length : Int) ≤ (40 : Int)) (
                  .req ((0 : Int) = (0 : Int) ∧ (↑(Pl.memL ms).length : Int) = (↑(Pl.memL ms).length : Int) ∧ 0 = 0 ∧ 2 = 2 ∧ 2 = 2 ∧ Int.tmod (16 : Int) (↑(Pl.memL ms).length : Int) = Int.tmod (16 : Int) (↑(Pl.memL ms).length : Int) ∧ IntKind.i64.wrap (Int.tdiv (16 : Int) (↑(Pl.memL ms).length : Int)) = IntKind.i64.wrap (Int.tdiv (16 : Int) (↑(Pl.memL ms).length : Int)) ∧ List.replicate 8 (IntKind.i64.wrap (Int.tdiv (16 : Int) (↑(Pl.memL ms).length : Int))) = List.replicate 8 (IntKind.i64.wrap (Int.tdiv (16 : Int) (↑(Pl.memL ms).length : Int))) ∧ Pl.memL ms = Pl.memL ms ∧ now = now) (
                   .req ((↑(Pl.memL ms).length : Int) = (↑(Pl.memL ms).length : Int) ∧ (Pl.qLoop now (IntKind.i64.wrap (Int.tdiv (16 : Int) (↑(Pl.memL ms).length : Int))) true (List.drop 0 (Pl.memL ms)) (0 : Int) (List.replicate 8 (IntKind.i64.wrap (Int.tdiv (16 : Int) (↑(Pl.memL ms).length : Int)))) (Int.tmod (16 : Int) (↑(Pl.memL ms).length : Int))).1.length = (Pl.memL ms).length ∧ (0 : Int) ≤ (0 : Int) ∧ (0 : Int) ≤ (↑(Pl.memL ms).length : Int) ∧ (Pl.memL ms).length ≤ 8 ∧ (0 : Int) ≤ (Pl.qLoop now (IntKind.i64.wrap (Int.tdiv (16 : Int) (↑(Pl.memL ms).length : Int))) true (List.drop 0 (Pl.memL ms)) (0 : Int) (List.replicate 8 (IntKind.i64.wrap (Int.tdiv (16 : Int) (↑(Pl.memL ms).length : Int)))) (Int.tmod (16 : Int) (↑(Pl.memL ms).length : Int))).2 ∧ ∀ (x : Int), x ∈ (Pl.qLoop now (IntKind.i64.wrap (Int.tdiv (16 : Int) (↑(Pl.memL ms).length : Int))) true (List.drop 0 (Pl.memL ms)) (0 : Int) (List.replicate 8 (IntKind.i64.wrap (Int.tdiv (16 : Int) (↑(Pl.memL ms).length : Int)))) (Int.tmod (16 : Int) (↑(Pl.memL ms).length : Int))).1 → (0 : Int) ≤ x ∧ x + (Pl.qLoop now (IntKind.i64.wrap (Int.tdiv (16 : Int) (↑(Pl.memL ms).length : Int))) true (List.drop 0 (Pl.memL ms)) (0 : Int) (List.replicate 8 (IntKind.i64.wrap (Int.tdiv (16 : Int) (↑(Pl.memL ms).length : Int)))) (Int.tmod (16 : Int) (↑(Pl.memL ms).length : Int))).2 ≤ (40 : Int)) (
                    .req ((0 : Int) = (0 : Int) ∧ (↑(Pl.memL ms).length : Int) = (↑(Pl.memL ms).length : Int) ∧ 0 = 0 ∧ 2 = 2 ∧ 2 = 2 ∧ (Pl.qLoop now (IntKind.i64.wrap (Int.tdiv (16 : Int) (↑(Pl.memL ms).length : Int))) true (List.drop 0 (Pl.memL ms)) (0 : Int) (List.replicate 8 (IntKind.i64.wrap (Int.tdiv (16 : Int) (↑(Pl.memL ms).length : Int)))) (Int.tmod (16 : Int) (↑(Pl.memL ms).length : Int))).2 = (Pl.qLoop now (IntKind.i64.wrap (Int.tdiv (16 : Int) (↑(Pl.memL ms).length : Int))) true (List.drop 0 (Pl.memL ms)) (0 : Int) (List.replicate 8 (IntKind.i64.wrap (Int.tdiv (16 : Int) (↑(Pl.memL ms).length : Int)))) (Int.tmod (16 : Int) (↑(Pl.memL ms).length : Int))).2 ∧ IntKind.i64.wrap (Int.tdiv (16 : Int) (↑(Pl.memL ms).length : Int)) = IntKind.i64.wrap (Int.tdiv (16 : Int) (↑(Pl.memL ms).length : Int)) ∧ (Pl.qLoop now (IntKind.i64.wrap (Int.tdiv (16 : Int) (↑(Pl.memL ms).length : Int))) true (List.drop 0 (Pl.memL ms)) (0 : Int) (List.replicate 8 (IntKind.i64.wrap (Int.tdiv (16 : Int) (↑(Pl.memL ms).length : Int)))) (Int.tmod (16 : Int) (↑(Pl.memL ms).length : Int))).1 = (Pl.qLoop now (IntKind.i64.wrap (Int.tdiv (16 : Int) (↑(Pl.memL ms).length : Int))) true (List.drop 0 (Pl.memL ms)) (0 : Int) (List.replicate 8 (IntKind.i64.wrap (Int.tdiv (16 : Int) (↑(Pl.memL ms).length : Int)))) (Int.tmod (16 : Int) (↑(Pl.memL ms).length : Int))).1 ∧ Pl.memL ms = Pl.memL ms ∧ now = now) (
                     .leaf (((Pl.qLoop now (IntKind.i64.wrap (Int.tdiv (16 : Int) (↑(Pl.memL ms).length : Int))) false (List.drop 0 (Pl.memL ms)) (0 : Int) (Pl.qLoop now (IntKind.i64.wrap (Int.tdiv (16 : Int) (↑(Pl.memL ms).length : Int))) true (List.drop 0 (Pl.memL ms)) (0 : Int) (List.replicate 8 (IntKind.i64.wrap (Int.tdiv (16 : Int) (↑(Pl.memL ms).length : Int)))) (Int.tmod (16 : Int) (↑(Pl.memL ms).length : Int))).1 (Pl.qLoop now (IntKind.i64.wrap (Int.tdiv (16 : Int) (↑(Pl.memL ms).length : Int))) true (List.drop 0 (Pl.memL ms)) (0 : Int) (List.replicate 8 (IntKind.i64.wrap (Int.tdiv (16 : Int) (↑(Pl.memL ms).length : Int)))) (Int.tmod (16 : Int) (↑(Pl.memL ms).length : Int))).2).1, ())))))))))))) (
            .fail "no such number")))))))))))) : Tree (List Int × PUnit)) := by kernel_rfl
end Pl
namespace Pl
open Go Sx Go.Proofs Go.RowKit
theorem qLoop_len (now : List Int) (e : Int) (b : Bool) : ∀ (l : List Int) (i : Int) (out : List Int) (m : Int), (qLoop now e b l i out m).1.length = out.length
  | [], _, _, _ => rfl
  | x :: r, i, out, m => by
    simp only [qLoop]
    split
    · rw [qLoop_len]; simp
    · exact qLoop_len now e b r _ _ _
def okQ (out : List Int) (m : Int) : Prop := 0 ≤ m ∧ ∀ x ∈ out, 0 ≤ x ∧ x + m ≤ 40
theorem okQ_step {out : List Int} {m : Int} (h : okQ out m) (hm : m > 0) (k : Nat) (hk : k < out.length) : okQ (out.set k (out.getD k 0 + 1)) (m - 1) := by
  refine ⟨by omega, fun x hx => ?_⟩
  rcases List.mem_or_eq_of_mem_set hx with h1 | h1
  · have := h.2 x h1; omega
  · have hg : out.getD k 0 ∈ out := by rw [getD_get 0 hk]; exact List.getElem_mem hk
    have := h.2 _ hg
    omega
theorem qLoop_ok (now : List Int) (e : Int) (b : Bool) : ∀ (l : List Int) (i : Int) (out : List Int) (m : Int), 0 ≤ i → i + l.length ≤ out.length → okQ out m → okQ (qLoop now e b l i out m).1 (qLoop now e b l i out m).2
  | [], _, _, _, _, _, h => h
  | x :: r, i, out, m, h0, hl, h => by
    simp only [List.length_cons] at hl
    simp only [qLoop]
    split
    · rename_i hc
      simp only [Bool.and_eq_true, decide_eq_true_eq] at hc
      exact qLoop_ok now e b r _ _ _ (by omega) (by simp; omega) (okQ_step h hc.1 _ (by omega))
    · exact qLoop_ok now e b r _ _ _ (by omega) (by omega) h
theorem lQ1 (b : Bool) : ∀ st out, ((LQ b).sp st).reach out → CodeOK Try.prog Try.f40.ntmps (.loop (loopAt (bodyOf Try.f40) 1)) st out := by
  refine (LQ b).sound C2_ok (lps := []) (n := 100) (inner rfl) (fun _ => by cases b <;> rfl) ?_
  rintro ⟨now, l0, l1, n2, n3, i4, i5⟩ ⟨h1, h2, h3, h4, h5, h6, h7⟩
  simp only at h1 h2 h3 h4 h5 h6 h7
  have hq : okQ l0 n2 := ⟨h6, h7⟩
  have step : ∀ (c : i5 < i4), (qLoop now n3 b (l1.drop i5.toNat) i5 l0 n2) = if decide (n2 > 0) && (decide (hasL now (l1.getD i5.toNat 0) > n3) == b) then qLoop now n3 b (l1.drop (i5 + 1).toNat) (i5 + 1) (l0.set i5.toNat (l0.getD i5.toNat 0 + 1)) (n2 - 1) else qLoop now n3 b (l1.drop (i5 + 1).toNat) (i5 + 1) l0 n2 := fun c => by
    rw [drop_cons 0 h3 (by omega), qLoop]
  have hin : ∀ c : i5 < i4, (0 ≤ i5 ∧ i5 < (l1.length : Int)) ∧ (0 ≤ i5 ∧ i5 < (l0.length : Int)) := fun c => ⟨⟨h3, by omega⟩, ⟨h3, by omega⟩⟩
  have yes : ∀ (c : i5 < i4), (decide (n2 > 0) && (decide (hasL now (l1.getD i5.toNat 0) > n3) == b)) = true → (LQ b).Next ⟨now, l0, l1, n2, n3, i4, i5⟩ (some ⟨now, l0.set i5.toNat (IntKind.i64.wrap (l0.getD i5.toNat 0 + 1)), l1, IntKind.i64.wrap (n2 - 1), n3, i4, IntKind.i64.wrap (i5 + 1)⟩) := by
    intro c d
    have hn : n2 > 0 := by simp only [Bool.and_eq_true, decide_eq_true_eq] at d; exact d.1
    have hlt : i5.toNat < l0.length := by omega
    have hg : l0.getD i5.toNat 0 ∈ l0 := by rw [getD_get 0 hlt]; exact List.getElem_mem hlt
    have hb := h7 _ hg
    rw [IntWalk.i64_in (i5 + 1) (by omega), IntWalk.i64_in (n2 - 1) (by omega), IntWalk.i64_in (l0.getD i5.toNat 0 + 1) (by omega)]
    have hs := okQ_step hq hn _ hlt
    refine ⟨⟨h1, by simpa using h2, by dsimp only; omega, by dsimp only; omega, h5, hs.1, hs.2⟩, by simp only [LQ]; omega, ?_⟩
    simp only [LQ]
    rw [step c, if_pos d]
  have no : ∀ (c : i5 < i4), (decide (n2 > 0) && (decide (hasL now (l1.getD i5.toNat 0) > n3) == b)) = false → (LQ b).Next ⟨now, l0, l1, n2, n3, i4, i5⟩ (some ⟨now, l0, l1, n2, n3, i4, IntKind.i64.wrap (i5 + 1)⟩) := by
    intro c d
    rw [IntWalk.i64_in (i5 + 1) (by omega)]
    refine ⟨⟨h1, h2, by dsimp only; omega, by dsimp only; omega, h5, h6, h7⟩, by simp only [LQ]; omega, ?_⟩
    simp only [LQ]
    rw [step c, if_neg (by rw [d]; decide)]
  have hend : ∀ c : ¬ i5 < i4, (qLoop now n3 b (l1.drop i5.toNat) i5 l0 n2) = (l0, n2) := fun c => by
    rw [drop_end (by omega)]; rfl
  cases b with
  | true =>
    rw [rQt]
    simp only [Tree.all, true_and, and_true, implies_true, conjP, decide_eq_true_eq, decide_eq_false_iff_not]
    exact ⟨fun c => ⟨(hin c).1, (hin c).1, fun d => ⟨(hin c).2, (hin c).2, (hin c).2, (hin c).2, yes c d⟩, fun d => no c d⟩, fun c => by rw [hend c]; trivial⟩
  | false =>
    rw [rQf]
    simp only [Tree.all, true_and, and_true, implies_true, conjP, decide_eq_true_eq, decide_eq_false_iff_not]
    exact ⟨fun c => ⟨(hin c).1, (hin c).1, fun d => ⟨(hin c).2, (hin c).2, (hin c).2, (hin c).2, yes c d⟩, fun d => no c d⟩, fun c => by rw [hend c]; trivial⟩
theorem lQ : LpsOK Try.prog Try.f40 [(1, spQ)] := by
  refine .cons (fun st out h => ?_) .nil
  unfold spQ at h
  split at h
  · exact viaN_ok (lQ1 true) st out h
  · exact viaN_ok (lQ1 false) st out h
  · exact h.elim
end Pl
namespace Pl
open Go Sx Go.Proofs Go.RowKit
def qEach (n : Int) : Int := IntKind.i64.wrap (Int.tdiv 16 n)
def quotaM (now l : List Int) : List Int :=
  let n : Int := (l.length : Int)
  let r := qLoop now (qEach n) true l 0 (List.replicate l.length (qEach n)) (Int.tmod 16 n)
  (qLoop now (qEach n) false l 0 r.1 r.2).1
def quotaL (now ms : List Int) : List Int := if (memL ms).length = 0 then [] else quotaM now (memL ms)
theorem memL_len (ms : List Int) : (memL ms).length ≤ 8 := fltB_len _ _ _
theorem qNum {n : Int} (h0 : 1 ≤ n) (h1 : n ≤ 8) : 0 ≤ qEach n ∧ qEach n + Int.tmod 16 n ≤ 40 ∧ 0 ≤ Int.tmod 16 n ∧ Int.tmod 16 n < n := by
  have : n = 1 ∨ n = 2 ∨ n = 3 ∨ n = 4 ∨ n = 5 ∨ n = 6 ∨ n = 7 ∨ n = 8 := by omega
  rcases this with h | h | h | h | h | h | h | h <;> subst h <;> decide
theorem okQ0 {n : Int} (h0 : 1 ≤ n) (h1 : n ≤ 8) (k : Nat) : okQ (List.replicate k (qEach n)) (Int.tmod 16 n) := by
  obtain ⟨a, b, c, _⟩ := qNum h0 h1
  refine ⟨c, fun x hx => ?_⟩
  have := (List.mem_replicate.1 hx).2
  subst this
  exact ⟨a, b⟩
theorem quotaM_eq (now l : List Int) (k : Nat) (hk : l.length = k) : quotaM now l = (qLoop now (qEach (l.length : Int)) false l 0 (qLoop now (qEach (l.length : Int)) true l 0 (List.replicate k (qEach (l.length : Int))) (Int.tmod 16 (l.length : Int))).1 (qLoop now (qEach (l.length : Int)) true l 0 (List.replicate k (qEach (l.length : Int))) (Int.tmod 16 (l.length : Int))).2).1 := by
  subst hk; rfl
theorem quotas_t (now ms : List Int) (h : (ms.length : Int) < big) : (fnO C2 [(1, spQ)] 100 Try.f40 [ints, ints] [ints] (now, ms, ())).all fun y => y = (quotaL now ms, ()) := by
  rw [tQ]
  have h8 := memL_len ms
  unfold quotaL
  generalize memL ms = l at *
  have hq : ∀ k : Nat, l.length = k → 1 ≤ k → (k = l.length ∧ (0 : Int) ≤ 0 ∧ 0 ≤ (l.length : Int) ∧ l.length ≤ 8 ∧ 0 ≤ Int.tmod 16 (l.length : Int) ∧ ∀ x : Int, x ∈ List.replicate k (qEach (l.length : Int)) → 0 ≤ x ∧ x + Int.tmod 16 (l.length : Int) ≤ 40) := fun k hk h1 => by
    have := okQ0 (n := (l.length : Int)) (by omega) (by omega) k
    exact ⟨hk.symm, by omega, by omega, h8, this.1, this.2⟩
  have hr : ∀ k : Nat, l.length = k → 1 ≤ k → okQ (qLoop now (qEach (l.length : Int)) true l 0 (List.replicate k (qEach (l.length : Int))) (Int.tmod 16 (l.length : Int))).1 (qLoop now (qEach (l.length : Int)) true l 0 (List.replicate k (qEach (l.length : Int))) (Int.tmod 16 (l.length : Int))).2 ∧
      (qLoop now (qEach (l.length : Int)) true l 0 (List.replicate k (qEach (l.length : Int))) (Int.tmod 16 (l.length : Int))).1.length = l.length := fun k hk h1 =>
    ⟨qLoop_ok _ _ _ _ _ _ _ (by omega) (by simp; omega) (okQ0 (by omega) (by omega) k), by rw [qLoop_len]; simp [hk]⟩
  have e0 : List.drop 0 l = l := rfl
  have eE : IntKind.i64.wrap (Int.tdiv 16 (l.length : Int)) = qEach (l.length : Int) := rfl
  simp only [all_leaf, all_fork, all_req, e0, eE, true_and, and_true, decide_eq_true_eq, decide_eq_false_iff_not, beq_iff_eq, beq_eq_false_iff_ne, ne_eq]
  have hc : l.length = 0 ∨ l.length = 1 ∨ l.length = 2 ∨ l.length = 3 ∨ l.length = 4 ∨ l.length = 5 ∨ l.length = 6 ∨ l.length = 7 ∨ l.length = 8 := by omega
  refine ⟨h, fun c => by rw [if_pos (by omega)], fun c => ⟨c, c, ?_⟩⟩
  rw [if_neg (by omega)]
  exact ⟨fun c1 => ⟨by omega, by omega, by omega, by omega, by omega, hq 1 (by omega) (by omega), ⟨(hr 1 (by omega) (by omega)).2, by omega, by omega, h8, (hr 1 (by omega) (by omega)).1.1, (hr 1 (by omega) (by omega)).1.2⟩, by rw [quotaM_eq now l 1 (by omega)]; try rfl⟩, fun d1 => ⟨fun c1 => ⟨by omega, by omega, by omega, by omega, by omega, hq 2 (by omega) (by omega), ⟨(hr 2 (by omega) (by omega)).2, by omega, by omega, h8, (hr 2 (by omega) (by omega)).1.1, (hr 2 (by omega) (by omega)).1.2⟩, by rw [quotaM_eq now l 2 (by omega)]; try rfl⟩, fun d2 => ⟨fun c1 => ⟨by omega, by omega, by omega, by omega, by omega, hq 3 (by omega) (by omega), ⟨(hr 3 (by omega) (by omega)).2, by omega, by omega, h8, (hr 3 (by omega) (by omega)).1.1, (hr 3 (by omega) (by omega)).1.2⟩, by rw [quotaM_eq now l 3 (by omega)]; try rfl⟩, fun d3 => ⟨fun c1 => ⟨by omega, by omega, by omega, by omega, by omega, hq 4 (by omega) (by omega), ⟨(hr 4 (by omega) (by omega)).2, by omega, by omega, h8, (hr 4 (by omega) (by omega)).1.1, (hr 4 (by omega) (by omega)).1.2⟩, by rw [quotaM_eq now l 4 (by omega)]; try rfl⟩, fun d4 => ⟨fun c1 => ⟨by omega, by omega, by omega, by omega, by omega, hq 5 (by omega) (by omega), ⟨(hr 5 (by omega) (by omega)).2, by omega, by omega, h8, (hr 5 (by omega) (by omega)).1.1, (hr 5 (by omega) (by omega)).1.2⟩, by rw [quotaM_eq now l 5 (by omega)]; try rfl⟩, fun d5 => ⟨fun c1 => ⟨by omega, by omega, by omega, by omega, by omega, hq 6 (by omega) (by omega), ⟨(hr 6 (by omega) (by omega)).2, by omega, by omega, h8, (hr 6 (by omega) (by omega)).1.1, (hr 6 (by omega) (by omega)).1.2⟩, by rw [quotaM_eq now l 6 (by omega)]; try rfl⟩, fun d6 => ⟨fun c1 => ⟨by omega, by omega, by omega, by omega, by omega, hq 7 (by omega) (by omega), ⟨(hr 7 (by omega) (by omega)).2, by omega, by omega, h8, (hr 7 (by omega) (by omega)).1.1, (hr 7 (by omega) (by omega)).1.2⟩, by rw [quotaM_eq now l 7 (by omega)]; try rfl⟩, fun d7 => ⟨fun c1 => ⟨by omega, by omega, by omega, by omega, by omega, hq 8 (by omega) (by omega), ⟨(hr 8 (by omega) (by omega)).2, by omega, by omega, h8, (hr 8 (by omega) (by omega)).1.1, (hr 8 (by omega) (by omega)).1.2⟩, by rw [quotaM_eq now l 8 (by omega)]; try rfl⟩, fun d8 => by exfalso; omega⟩⟩⟩⟩⟩⟩⟩⟩
theorem quotas_own : PureOwnOK Try.prog 40 [ints, ints] [ints] (fun x => (List.length (α := Int) x.2.1 : Int) < big) (fun x => (quotaL x.1 x.2.1, ())) :=
  fn_own (E := C2) (n := 100) C2_ok Try.func40 bodyQ lQ fun x h => quotas_t x.1 x.2.1 h
theorem quotas_ok : PureOK Try.prog 40 [ints, ints] [ints] (fun x => (List.length (α := Int) x.2.1 : Int) < big) (fun x => (quotaL x.1 x.2.1, ())) := quotas_own.pure
end Pl
