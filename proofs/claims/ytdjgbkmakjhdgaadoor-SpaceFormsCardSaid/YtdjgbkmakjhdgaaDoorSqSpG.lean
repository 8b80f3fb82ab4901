import Derived.Test.YtdjgbkmakjhdgaaDoorSqSpE
namespace Pl
open Go Sx Go.Proofs Go.RowKit
theorem bodyNd : Tryd.f17.body = some (bodyOf Tryd.f17) := by kernel_rfl
noncomputable abbrev M9 : Ex := mkExM Tryd.prog [KsT, KAw, KsN, KsL, KsU, KsC, (17, fnI E0 [] 100 Tryd.f17)]
theorem M9_ok : M9.Sound := mkExM_sound ⟨pureSp_ok text_ok, pureSp_ok aw_ok, pureSp_ok next_ok, pureSp_ok least_ok, pureSp_ok uneven_ok, pureSp_ok counts_ok, fnI_ok (E := E0) E0_ok Tryd.func17 bodyNd .nil, trivial⟩
def cjS (a : List Int) (p : Int) : Nat → Int
  | 0 => 0
  | t + 1 => cjS a p t + if atS a ((p + (t : Int)) % 16) = atS a p then 1 else 0
def msS (a : List Int) (p : Int) : Nat → Int
  | 0 => 16
  | t + 1 => if atS a ((p + (t : Int)) % 16) = atS a p then (if nextS a ((p + (t : Int)) % 16) < msS a p t then nextS a ((p + (t : Int)) % 16) else msS a p t) else msS a p t
structure ARo where
  a : List Int
  p : Int
  t : Int
  i : Int
  m : Int
  s : Int
  u : Int
def LRo : LoopC ARo where
  n0 := 1
  det st := match rowS st 0 i64, intS st 1, intS st 6, intS st 41, intS st 9, intS st 8, intS st 7 with | some a, some p, some n0, some i1, some i2, some i3, some i4 => some ⟨a, p, n0, i1, i2, i3, i4⟩ | _, _, _, _, _, _, _ => none
  inv a := ⟨[(41, iv a.i), (9, iv a.m), (8, iv a.s), (7, iv a.u), (6, iv a.t), (1, iv a.p), (0, .one (.row 0))],
    [(0, .ro i64 a.a)], 1⟩
  ok a := 0 ≤ a.p ∧ a.p < 16 ∧ atS a.a a.p ≠ -1 ∧ 0 ≤ a.i ∧ a.i ≤ a.u ∧ a.u < 16 ∧ a.t = (a.p + a.u) % 16 ∧ atS a.a a.t = atS a.a a.p ∧ a.s = cjS a.a a.p a.u.toNat ∧ 0 ≤ a.s ∧ a.s ≤ a.u ∧ a.m = msS a.a a.p a.u.toNat
  mu a := 17 - a.i.toNat
  fin a := .leaf ⟨2, ⟨[(8, iv (cjS a.a a.p 16)), (9, iv (msS a.a a.p 16)), (7, iv 16), (1, iv a.p), (0, .one (.row 0))],
    [(0, .ro i64 a.a)], 1⟩⟩
end Pl
