import Derived.Test.YtdjgbkmakjhdgaaSx30
import Derived.Test.YtdjgbkmakjhdgaaProg
import Derived.IntWalk
import Derived.Test.YtdjgbkmakjhdgaaSx31
import Derived.Shelf.Strings.Builder1
import Derived.Ground.Names2Prog
import Derived.Ground.SlgnProg
import Derived.WalkKit
import Derived.BigCall
import Derived.Shelf.Slices.Clone
namespace Pl
open Go Sx Go.Proofs
abbrev i64 : Ty := .int .i64
abbrev ints : Ty := .slice i64
abbrev Plan : Ty := .cat i64 (.cat i64 ints)
abbrev iv (n : Int) : Tv := .one (.int .i64 n)
abbrev bv (n : Bool) : Tv := .one (.bool n)
abbrev cv (n : Bool) : Tv := .one (.cbool n)
noncomputable abbrev E0 : Ex := mkEx Try.prog []
theorem E0_ok : E0.Sound := mkEx_sound trivial
abbrev big : Int := 4611686018427387904
def intAt (slots : List (Nat × Tv)) (s : Nat) : Option Int := match Sx.look slots s with | some (.one (.cint _ i)) => some i | some (.one (.int _ i)) => some i | _ => none

theorem getD_lt {l : List Int} {i : Int} (h0 : 0 ≤ i) (h1 : i < l.length) : l.drop i.toNat = l.getD i.toNat 0 :: l.drop (i.toNat + 1) := by
  have hi : i.toNat < l.length := by omega
  rw [List.drop_eq_getElem_cons hi]
  simp [List.getD_eq_getElem?_getD, hi]

theorem wrap1 {i : Int} (h0 : 0 ≤ i) (h1 : i < big) : IntKind.i64.wrap (i + 1) = i + 1 := by
  unfold big at h1
  exact IntWalk.i64_in _ (by omega)

abbrev PlanD : Type := Int × Int × List Int
def sameF (a b : PlanD) : Bool := decide (a = b)
end Pl
namespace Pl
open Go Sx Go.Proofs Go.RowKit
def nodeB (x : Int) : Bool := decide (x ≥ 0) && decide (x < 8)
theorem sbA : Try.f17.body = some (bodyOf Try.f17) := by kernel_rfl
noncomputable abbrev M0 : Ex := mkExM Try.prog []
theorem M0_ok : M0.Sound := mkExM_sound trivial
theorem tsA (l : List Int) (p : Int) : @Eq _
  (fnT M0 [] 100 Try.f17 [ints, i64] [i64] (l, p, ()))
  (.req (decide (p < (0 : Int)) = false → conjP [decide (p ≥ if (16 : Int) < (↑l.length : Int) then (16 : Int) else (↑l.length : Int)) = false → conjP [(0 : Int) ≤ p ∧ p < (↑l.length : Int), (0 : Int) ≤ p ∧ p < (↑l.length : Int), decide (l.getD p.toNat (0 : Int) < (0 : Int)) = false → conjP [(0 : Int) ≤ p ∧ p < (↑l.length : Int), (0 : Int) ≤ p ∧ p < (↑l.length : Int)]]]) (
 .fork (decide (p < (0 : Int)) || (decide (p ≥ if (16 : Int) < (↑l.length : Int) then (16 : Int) else (↑l.length : Int)) || (decide (l.getD p.toNat (0 : Int) < (0 : Int)) || decide (l.getD p.toNat (0 : Int) ≥ (8 : Int))))) (
  .leaf (((-1 : Int), ()))) (
  .req ((0 : Int) ≤ p ∧ p < (↑l.length : Int)) (
   .req ((0 : Int) ≤ p ∧ p < (↑l.length : Int)) (
    .leaf ((l.getD p.toNat (0 : Int), ())))))) : Tree (Int × PUnit)) := by kernel_rfl
def atS (l : List Int) (p : Int) : Int := if decide (0 ≤ p) && (decide (p < (l.length : Int)) && (decide (p < 16) && nodeB (l.getD p.toNat 0))) then l.getD p.toNat 0 else -1
end Pl

namespace Go.Proofs
open Go.Shelf
def Try.lays167_ren : Go.Shelf.Ren := ⟨fun | 167 => 18 | 240 => 30 | 276 => 33 | n => n, fun | 0 => 0 | 4 => 4 | 5 => 5 | 9 => 9 | 20 => 20 | 37 => 35 | 70 => 34 | 72 => 37 | 75 => 39 | 80 => 41 | 164 => 56 | n => n, fun | n => n⟩
theorem Try.lays167 : Go.Proofs.Lays.n167 Try.prog Try.lays167_ren := {
  mixed := by kernel_rfl
  f167 := Try.func18.trans (congrArg some (by kernel_rfl))
  f240 := Try.func30.trans (congrArg some (by kernel_rfl))
  f276 := Try.func33.trans (congrArg some (by kernel_rfl))
  t0 := Try.underlying0
  a0 := Try.isAgg0
  z0 := Try.sizeOf0
  v0 := Try.zeroValue0
  t4 := Try.underlying4
  a4 := Try.isAgg4
  z4 := Try.sizeOf4
  v4 := Try.zeroValue4
  t5 := Try.underlying5
  a5 := Try.isAgg5
  z5 := Try.sizeOf5
  v5 := Try.zeroValue5
  t9 := Try.underlying9
  a9 := Try.isAgg9
  z9 := Try.sizeOf9
  v9 := Try.zeroValue9
  t20 := Try.underlying20
  a20 := Try.isAgg20
  z20 := Try.sizeOf20
  v20 := Try.zeroValue20
  t37 := Try.underlying35
  a37 := Try.isAgg35
  z37 := Try.sizeOf35
  v37 := Try.zeroValue35
  t70 := Try.underlying34
  a70 := Try.isAgg34
  z70 := Try.sizeOf34
  v70 := Try.zeroValue34
  t72 := Try.underlying37
  a72 := Try.isAgg37
  z72 := Try.sizeOf37
  v72 := Try.zeroValue37
  t75 := Try.underlying39
  a75 := Try.isAgg39
  z75 := Try.sizeOf39
  v75 := Try.zeroValue39
  t164 := Try.underlying56
  a164 := Try.isAgg56
  z164 := Try.sizeOf56
  v164 := Try.zeroValue56 }
theorem Try.Builder_Extra_167 : Builder.Extra Try.prog Try.lays167_ren := {
  sizeBuilder := by kernel_rfl
  liesBuilder := by kernel_rfl
  t5 := Try.underlying5
  a5 := Try.isAgg5
  z5 := Try.sizeOf5
  v5 := Try.zeroValue5
  infoByte := by kernel_rfl
  cellsByte := by kernel_rfl
  sizeByte := by kernel_rfl
  neB5 := by decide }
open Go.RowKit in
theorem Try.Builder_WriteByte (B b : Nat) (bs : List Value) (c : Int) (w : World) (h : Lib.IsBuilder 37 5 B b bs w) (hlen : bs.length + 1 ≤ 140737488355328) (hBw : B ≤ w.heap.size) :
    Calls Try.prog 18 #[.pointer (some ⟨b, 0, none⟩), .int .u8 c] w fun e w' => e = .returned .nilIface ∧ (Lib.BuilderAt 37 5 B b (.pointer (some ⟨b, 0, none⟩)) (bs ++ [.int .u8 c]) w' ∧ Below B w w') := Any.Builder_WriteByte Try.lays167 Try.Builder_Extra_167 B b bs c w h hlen hBw
def Try.lays169_ren : Go.Shelf.Ren := ⟨fun | 169 => 19 | n => n, fun | 70 => 34 | 9 => 9 | 0 => 0 | 72 => 37 | 37 => 35 | 127 => 51 | 3 => 3 | 5 => 5 | n => n, fun | n => n⟩
theorem Try.lays169 : Go.Proofs.Lays.n169 Try.prog Try.lays169_ren := {
  mixed := by kernel_rfl
  f169 := Try.func19.trans (congrArg some (by kernel_rfl))
  t0 := Try.underlying0
  a0 := Try.isAgg0
  z0 := Try.sizeOf0
  v0 := Try.zeroValue0
  t3 := Try.underlying3
  a3 := Try.isAgg3
  z3 := Try.sizeOf3
  v3 := Try.zeroValue3
  t9 := Try.underlying9
  a9 := Try.isAgg9
  z9 := Try.sizeOf9
  v9 := Try.zeroValue9
  t37 := Try.underlying35
  a37 := Try.isAgg35
  z37 := Try.sizeOf35
  v37 := Try.zeroValue35
  t70 := Try.underlying34
  a70 := Try.isAgg34
  z70 := Try.sizeOf34
  v70 := Try.zeroValue34
  t72 := Try.underlying37
  a72 := Try.isAgg37
  z72 := Try.sizeOf37
  v72 := Try.zeroValue37
  t127 := Try.underlying51
  a127 := Try.isAgg51
  z127 := Try.sizeOf51
  v127 := Try.zeroValue51 }
theorem Try.Builder_Extra_169 : Builder.Extra Try.prog Try.lays169_ren := {
  sizeBuilder := by kernel_rfl
  liesBuilder := by kernel_rfl
  t5 := Try.underlying5
  a5 := Try.isAgg5
  z5 := Try.sizeOf5
  v5 := Try.zeroValue5
  infoByte := by kernel_rfl
  cellsByte := by kernel_rfl
  sizeByte := by kernel_rfl
  neB5 := by decide }
open Go.RowKit in

theorem Try.Builder_String_any (B b : Nat) (l : List UInt8) (w : World) (h : Lib.IsBuilder 37 5 B b (Lib.byteCells l) w) (hBw : B ≤ w.heap.size) :
    Calls Try.prog 19 #[.pointer (some ⟨b, 0, none⟩)] w fun e w' => e = .returned (.string ⟨l.toArray⟩) ∧ Below B w w' := Any.Builder_String_any Try.lays169 Try.Builder_Extra_169 B b l w h hBw
end Go.Proofs
namespace Pl
open Go Sx Go.Proofs Go.RowKit
theorem nodeB_iff {n : Int} : nodeB n = true ↔ 0 ≤ n ∧ n < 8 := by simp [nodeB]
theorem atS_ok : PureOK Try.prog 17 [ints, i64] [i64] (fun _ => True) (fun x => (atS x.1 x.2.1, ())) :=
  fn_pure (E := M0) (n := 100) M0_ok Try.func17 sbA .nil fun x _ => by
    obtain ⟨l, p, _⟩ : List Int × Int × Unit := x
    refine Tree.all_eq (tsA l p) ?_
    show Tree.all (α := Int × Unit) _ (fun y => y = (atS l p, ()))
    simp only [all_leaf, all_fork, all_req, conjP, and_true, true_and, decide_eq_true_eq, decide_eq_false_iff_not, Bool.or_eq_true, Bool.or_eq_false_iff]
    have hm : ∀ c : ¬ p < 0, ¬ (p ≥ if 16 < (l.length : Int) then 16 else (l.length : Int)) → 0 ≤ p ∧ p < (l.length : Int) ∧ p < 16 := fun c d => by
      split at d <;> omega
    refine ⟨fun c d => ?_, fun c => ?_, fun c => ?_⟩
    · have := hm c d
      exact ⟨⟨this.1, this.2.1⟩, ⟨this.1, this.2.1⟩, fun _ => ⟨⟨this.1, this.2.1⟩, ⟨this.1, this.2.1⟩⟩⟩
    · unfold atS
      rw [if_neg]
      simp only [Bool.and_eq_true, decide_eq_true_eq, nodeB_iff]
      rintro ⟨a1, a2, a3, a4, a5⟩
      rcases c with c | c | c | c
      · omega
      · split at c <;> omega
      · omega
      · omega
    · have := hm c.1 c.2.1
      refine ⟨⟨this.1, this.2.1⟩, ⟨this.1, this.2.1⟩, ?_⟩
      unfold atS
      rw [if_pos]
      simp only [Bool.and_eq_true, decide_eq_true_eq, nodeB_iff]
      exact ⟨this.1, this.2.1, this.2.2, by omega, by omega⟩
theorem atS_range (l : List Int) (p : Int) : -1 ≤ atS l p ∧ atS l p < 8 := by
  unfold atS
  split
  · rename_i h
    simp only [Bool.and_eq_true, decide_eq_true_eq, nodeB_iff] at h
    omega
  · omega
def chS (n : Int) : UInt8 := if n = -1 then 45 else UInt8.ofNat (48 + n.toNat)
def txtL (l : List Int) : List UInt8 := (List.range 16).map fun (p : Nat) => chS (atS l (p : Int))
theorem builder_keep {T e : TypeId} {B b : Nat} {bs : List Value} {w w' : World} (h : Lib.IsBuilder T e B b bs w) (k : Below w.heap.size w w') : Lib.IsBuilder T e B b bs w' := by
  have aux : ∀ p, Lib.BuilderAt T e B b p bs w → Lib.BuilderAt T e B b p bs w' := by
    rintro p ⟨h1, v, h2, h3, h4⟩
    have hb : b < w.heap.size := (Array.getElem?_eq_some_iff.1 h2).1
    refine ⟨h1, v, by rw [k.block b hb]; exact h2, ⟨h3.1, ?_⟩, h4⟩
    rcases h3.2 with q | ⟨g, cap, cur, q1, q2, q3, q4⟩
    · exact .inl q
    · have hg : g < w.heap.size := (Array.getElem?_eq_some_iff.1 q3).1
      exact .inr ⟨g, cap, cur, q1, q2, by rw [k.block g hg]; exact q3, q4⟩
  rcases h with h | h
  · exact .inl (aux _ h)
  · exact .inr (aux _ h)
theorem chS_cell {n : Int} (h0 : 0 ≤ n) (h8 : n < 8) : Lib.byteCells [chS n] = [.int .u8 (48 + n)] := by
  have : n = 0 ∨ n = 1 ∨ n = 2 ∨ n = 3 ∨ n = 4 ∨ n = 5 ∨ n = 6 ∨ n = 7 := by omega
  rcases this with rfl | rfl | rfl | rfl | rfl | rfl | rfl | rfl <;> rfl
theorem txt_take {l : List Int} {k : Nat} (h : k < 16) : (txtL l).take (k + 1) = (txtL l).take k ++ [chS (atS l (k : Int))] := by
  have hl : k < (txtL l).length := by simp [txtL]; omega
  rw [List.take_succ_eq_append_getElem hl]
  simp [txtL]
set_option maxHeartbeats 4000000 in
set_option maxRecDepth 1000000 in
theorem text_walk (R : Nat → Prop) (w : World) (l : List Int) (v : Value) (hR : ∀ b, R b → b < w.heap.size) (hv : ReadsC R w ints l [v]) :
    Calls Try.prog 8 #[v] w fun e w' => e = .returned (.string ⟨(txtL l).toArray⟩) ∧ Below w.heap.size w w' := by
  go_enter Try.func8, Try.ntmps8
  go_wp2
  go_loopw [7] (fun i wr => ∃ (k : Nat), k ≤ 16 ∧ i = .int .i64 (k : Int) ∧ Lib.IsBuilder 37 5 w.heap.size w.heap.size (Lib.byteCells ((txtL l).take k)) wr ∧ Below w.heap.size w wr ∧ w.heap.size < wr.heap.size) (fun i _ => 16 - (intOf i).toNat)
  case atStart =>
    refine ⟨0, by omega, rfl, Lib.fresh_isBuilder 37 5 w, (Below.refl _ w).alloc (Nat.le_refl _) _, by simp⟩
  case round =>
    obtain ⟨k, hk, rfl, hI, hbw, hsz⟩ := hrel
    have hR' : ∀ b, R b → b < wr.heap.size := fun b hb => Nat.lt_trans (hR b hb) hsz
    have hv' : ReadsC R wr ints l [v] := ReadsC.mono (fun b hb => ⟨hb, hbw.block b (hR b hb)⟩) _ _ _ hv
    by_cases h16 : k < 16
    · go_wp2_with (go_at_call 17; refine (atS_ok R _ (l, (k : Int), ()) [v, .int .i64 (k : Int)] hR' ⟨[v], _, rfl, hv', [.int .i64 (k : Int)], _, rfl, rfl, rfl⟩ trivial).mono ?_)
      intro e W1 vs he hA b1
      have hA : ∃ cs r, vs = valT i64 cs :: r ∧ cs = [.int .i64 (atS l (k : Int))] ∧ r = [] := hA
      obtain ⟨cs, r, hvs, hcs, hr⟩ := hA
      subst hcs; subst hr; subst hvs
      have he : e = .returned (.int .i64 (atS l (k : Int))) := he
      subst he
      have hI1 := builder_keep hI b1
      have hbw1 : Below w.heap.size w W1 := hbw.trans (b1.mono (by omega))
      have hsz1 : w.heap.size < W1.heap.size := Nat.lt_of_lt_of_le hsz b1.size
      have hrg := atS_range l (k : Int)
      have htk := txt_take (l := l) h16
      have hlen : (Lib.byteCells ((txtL l).take k)).length + 1 ≤ 140737488355328 := by rw [Lib.byteCells_length, List.length_take]; omega
      by_cases hn : atS l (k : Int) = -1
      · go_wp2_with (go_at_call 18; refine (Try.Builder_WriteByte w.heap.size w.heap.size _ _ _ hI1 hlen (by omega)).mono ?_)
        rintro e W2 ⟨rfl, h1, b2⟩
        go_wp2
        go_roundw
        case rel =>
          refine ⟨k + 1, by omega, by simp, ?_, hbw1.trans b2, Nat.lt_of_lt_of_le hsz1 b2.size⟩
          rw [htk, Lib.byteCells_append, hn]; exact Or.inr h1
        case measure => simp [intOf]; omega
      · go_wp2_with (go_at_call 18; refine (Try.Builder_WriteByte w.heap.size w.heap.size _ _ _ hI1 hlen (by omega)).mono ?_)
        rintro e W2 ⟨rfl, h1, b2⟩
        go_wp2
        go_roundw
        case rel =>
          refine ⟨k + 1, by omega, by simp, ?_, hbw1.trans b2, Nat.lt_of_lt_of_le hsz1 b2.size⟩
          rw [htk, Lib.byteCells_append, chS_cell (by omega) (by omega)]; exact Or.inr h1
        case measure => simp [intOf]; omega
    · have hk16 : k = 16 := by omega
      subst hk16
      go_wp2_with (go_at_call 19; refine (Try.Builder_String_any w.heap.size w.heap.size _ _ hI (by omega)).mono ?_)
      rintro e W1 ⟨rfl, b1⟩
      go_wp2
      go_ret
      rw [List.take_of_length_le (by simp [txtL])]
      exact ⟨rfl, hbw.trans b1⟩
def txtB (l : List Int) : ByteArray := ⟨(txtL l).toArray⟩
theorem text_ok : PureOK Try.prog 8 [ints] [.str] (fun _ => True) (fun x => (txtB x.1, ())) := by
  rintro R w ⟨xs, u⟩ args hR ⟨cs, r, e, hrd, er⟩ _
  have hrd' := hrd
  obtain ⟨A, cap, rfl, _⟩ := hrd'
  have er : r = [] := er
  subst er; subst e
  refine (text_walk R w xs _ hR hrd).mono ?_
  rintro e w' ⟨he, hb⟩
  exact ⟨[.string ⟨(txtL xs).toArray⟩], he, ⟨[.string ⟨(txtL xs).toArray⟩], [], rfl, rfl, rfl⟩, hb⟩
end Pl
namespace Pl
open Go Sx Go.Proofs Go.RowKit
abbrev KsA : Nat × Sx.Spec := (17, pureSp [ints, i64] [i64] (fun _ => True) (fun x => (atS x.1 x.2.1, ())))
abbrev KsT : Nat × Sx.Spec := (8, pureSp [ints] [.str] (fun _ => True) (fun x => (txtB x.1, ())))
noncomputable abbrev M1 : Ex := mkExM Try.prog [KsA]
theorem M1_ok : M1.Sound := mkExM_sound ⟨pureSp_ok atS_ok, trivial⟩
theorem sbN : Try.f9.body = some (bodyOf Try.f9) := by kernel_rfl
theorem sbL : Try.f12.body = some (bodyOf Try.f12) := by kernel_rfl
theorem sbC : Try.f11.body = some (bodyOf Try.f11) := by kernel_rfl
theorem sbU : Try.f13.body = some (bodyOf Try.f13) := by kernel_rfl
theorem sbMx : Try.f21.body = some (bodyOf Try.f21) := by kernel_rfl
theorem sbMn : Try.f22.body = some (bodyOf Try.f22) := by kernel_rfl
theorem sbAw : Try.f7.body = some (bodyOf Try.f7) := by kernel_rfl
def nxF (l : List Int) (n p : Int) : Nat → Int → Int
  | 0, s => s
  | c + 1, s => if atS l ((p + s) % 16) = n then s else nxF l n p c (s + 1)
def nextS (l : List Int) (p : Int) : Int := if atS l p = -1 then 0 else nxF l (atS l p) p 16 1
structure ANx where
  l : List Int
  p : Int
  n : Int
  s : Int
def LNx : LoopC ANx where
  n0 := 1
  det st := match rowS st 0 i64, intS st 1, intS st 5, intS st 6 with | some l, some p, some n0, some i1 => some ⟨l, p, n0, i1⟩ | _, _, _, _ => none
  inv a := ⟨[(6, iv a.s), (5, iv a.n), (0, .one (.row 0)), (1, iv a.p)],
    [(0, .ro i64 a.l)], 1⟩
  ok a := 0 ≤ a.p ∧ a.p < 16 ∧ atS a.l a.p = a.n ∧ 1 ≤ a.s ∧ a.s ≤ 16
  mu a := 17 - a.s.toNat
  fin a := .leaf ⟨2, ⟨[(6, iv (nxF a.l a.n a.p (17 - a.s.toNat) a.s))], [], 1⟩⟩
theorem rNx (l : List Int) (p n s : Int) : @Eq _
  (LNx.round M1 [] 100 Try.f9 0 ⟨l, p, n, s⟩)
  (.req ((16 : Int) ≠ (0 : Int)) (
 .req (True) (
  .fork (Pl.atS l ((IntKind.i64.wrap (p + s)).tmod (16 : Int)) != n) (
   .req (IntKind.i64.wrap (s + (1 : Int)) = IntKind.i64.wrap (s + (1 : Int)) ∧ n = n ∧ p = p ∧ l = l) (
    .leaf (Option.some { l := l, p := p, n := n, s := IntKind.i64.wrap (s + (1 : Int)) }))) (
   .req (s = Pl.nxF l n p (17 - s.toNat) s) (
    .leaf (Option.none))))) : Tree (Option Pl.ANx)) := by kernel_rfl
theorem tNx (l : List Int) (p : Int) : @Eq _
  (fnT M1 [(0, LNx.sp)] 100 Try.f9 [ints, i64] [i64] (l, p, ()))
  (.req (True) (
 .fork (Pl.atS l p == (-1 : Int)) (
  .leaf (((0 : Int), ()))) (
  .req ((0 : Int) ≤ p ∧ p < (16 : Int) ∧ Pl.atS l p = Pl.atS l p ∧ (1 : Int) ≤ (1 : Int) ∧ (1 : Int) ≤ (16 : Int)) (
   .req ((1 : Int) = (1 : Int) ∧ Pl.atS l p = Pl.atS l p ∧ p = p ∧ l = l) (
    .leaf ((Pl.nxF l (Pl.atS l p) p 16 (1 : Int), ())))))) : Tree (Int × PUnit)) := by kernel_rfl
abbrev KsN : Nat × Sx.Spec := (9, pureSp [ints, i64] [i64] (fun _ => True) (fun x => (nextS x.1 x.2.1, ())))
noncomputable abbrev M2 : Ex := mkExM Try.prog [KsA, KsN]
def lsF (l : List Int) (nd : Int) : Nat → Nat → Int → Int
  | 0, _, out => out
  | c + 1, q, out => lsF l nd c (q + 1) (if atS l (q : Int) = -1 ∨ atS l (q : Int) ≠ nd then out else if out = 0 ∨ nextS l (q : Int) < out then nextS l (q : Int) else out)
def leastS (l : List Int) (nd : Int) : Int := lsF l nd 16 0 0
structure ALt where
  l : List Int
  nd : Int
  q : Int
  o : Int
def LLt : LoopC ALt where
  n0 := 1
  det st := match rowS st 0 i64, intS st 1, intS st 9, intS st 5 with | some l, some p, some i0, some i1 => some ⟨l, p, i0, i1⟩ | _, _, _, _ => none
  inv a := ⟨[(9, iv a.q), (5, iv a.o), (0, .one (.row 0)), (1, iv a.nd)],
    [(0, .ro i64 a.l)], 1⟩
  ok a := 0 ≤ a.q ∧ a.q ≤ 16
  mu a := 16 - a.q.toNat
  fin a := .leaf ⟨2, ⟨[(5, iv (lsF a.l a.nd (16 - a.q.toNat) a.q.toNat a.o))], [], 1⟩⟩
theorem rLt (l : List Int) (nd q o : Int) : @Eq _
  (LLt.round M2 [] 100 Try.f12 0 ⟨l, nd, q, o⟩)
  (.fork (decide (q < (16 : Int))) (
 .req (True) (
  .req (True) (
   .fork (Pl.atS l q == (-1 : Int) || Pl.atS l q != nd) (
    .req (IntKind.i64.wrap (q + (1 : Int)) = IntKind.i64.wrap (q + (1 : Int)) ∧ o = o ∧ nd = nd ∧ l = l) (
     .leaf (Option.some { l := l, nd := nd, q := IntKind.i64.wrap (q + (1 : Int)), o := o }))) (
    .req (True) (
     .req (True) (
      .fork (o == (0 : Int) || decide (Pl.nextS l q < o)) (
       .req (IntKind.i64.wrap (q + (1 : Int)) = IntKind.i64.wrap (q + (1 : Int)) ∧ Pl.nextS l q = Pl.nextS l q ∧ nd = nd ∧ l = l) (
        .leaf (Option.some { l := l, nd := nd, q := IntKind.i64.wrap (q + (1 : Int)), o := Pl.nextS l q }))) (
       .req (IntKind.i64.wrap (q + (1 : Int)) = IntKind.i64.wrap (q + (1 : Int)) ∧ o = o ∧ nd = nd ∧ l = l) (
        .leaf (Option.some { l := l, nd := nd, q := IntKind.i64.wrap (q + (1 : Int)), o := o }))))))))) (
 .req (o = Pl.lsF l nd (16 - q.toNat) q.toNat o) (
  .leaf (Option.none))) : Tree (Option Pl.ALt)) := by kernel_rfl
theorem tLt (l : List Int) (nd : Int) : @Eq _
  (fnT M2 [(0, LLt.sp)] 100 Try.f12 [ints, i64] [i64] (l, nd, ()))
  (.req ((0 : Int) ≤ (0 : Int) ∧ (0 : Int) ≤ (16 : Int)) (
 .req ((0 : Int) = (0 : Int) ∧ (0 : Int) = (0 : Int) ∧ nd = nd ∧ l = l) (
  .leaf ((Pl.lsF l nd 16 0 (0 : Int), ())))) : Tree (Int × PUnit)) := by kernel_rfl
def cnF (l : List Int) : Nat → Nat → List Int → List Int
  | 0, _, o => o
  | c + 1, q, o => cnF l c (q + 1) (if atS l (q : Int) = -1 then o else o.set (atS l (q : Int)).toNat (o.getD (atS l (q : Int)).toNat 0 + 1))
def countsS (l : List Int) : List Int := cnF l 16 0 (List.replicate 8 0)
noncomputable abbrev M4 : Ex := mkExM Try.prog [KsA]
theorem M4_ok : M4.Sound := mkExM_sound ⟨pureSp_ok atS_ok, trivial⟩
structure ACu where
  l : List Int
  o : List Int
  q : Int
def LCu : LoopC ACu where
  n0 := 2
  det st := match rowS st 0 i64, rowS st 3 i64, intS st 7 with | some l, some l0, some i1 => some ⟨l, l0, i1⟩ | _, _, _ => none
  inv a := ⟨[(7, iv a.q), (3, .one (.row 1)), (0, .one (.row 0))],
    [(1, .own i64 a.o), (0, .ro i64 a.l)], 2⟩
  ok a := 0 ≤ a.q ∧ a.q ≤ 16 ∧ a.o.length = 8 ∧ ∀ x ∈ a.o, 0 ≤ x ∧ x ≤ a.q
  mu a := 16 - a.q.toNat
  fin a := .leaf ⟨2, ⟨[(3, .one (.row 1))], [(1, .own i64 (cnF a.l (16 - a.q.toNat) a.q.toNat a.o))], 2⟩⟩
theorem rCu (l o : List Int) (q : Int) : @Eq _
  (LCu.round M4 [] 100 Try.f11 0 ⟨l, o, q⟩)
  (.fork (decide (q < (16 : Int))) (
 .req (True) (
  .fork (Pl.atS l q != (-1 : Int)) (
   .req ((0 : Int) ≤ Pl.atS l q ∧ Pl.atS l q < (↑o.length : Int)) (
    .req ((0 : Int) ≤ Pl.atS l q ∧ Pl.atS l q < (↑o.length : Int)) (
     .req ((0 : Int) ≤ Pl.atS l q ∧ Pl.atS l q < (↑o.length : Int)) (
      .req ((0 : Int) ≤ Pl.atS l q ∧ Pl.atS l q < (↑o.length : Int)) (
       .req (IntKind.i64.wrap (q + (1 : Int)) = IntKind.i64.wrap (q + (1 : Int)) ∧ o.set (Pl.atS l q).toNat (IntKind.i64.wrap (o.getD (Pl.atS l q).toNat (0 : Int) + (1 : Int))) = o.set (Pl.atS l q).toNat (IntKind.i64.wrap (o.getD (Pl.atS l q).toNat (0 : Int) + (1 : Int))) ∧ l = l) (
        .leaf (Option.some { l := l, o := o.set (Pl.atS l q).toNat (IntKind.i64.wrap (o.getD (Pl.atS l q).toNat (0 : Int) + (1 : Int))), q := IntKind.i64.wrap (q + (1 : Int)) }))))))) (
   .req (IntKind.i64.wrap (q + (1 : Int)) = IntKind.i64.wrap (q + (1 : Int)) ∧ o = o ∧ l = l) (
    .leaf (Option.some { l := l, o := o, q := IntKind.i64.wrap (q + (1 : Int)) }))))) (
 .req (o = Pl.cnF l (16 - q.toNat) q.toNat o) (
  .leaf (Option.none))) : Tree (Option Pl.ACu)) := by kernel_rfl
theorem tCu (l : List Int) : @Eq _
  (fnT M4 [(0, LCu.sp)] 100 Try.f11 [ints] [ints] (l, ()))
  (.req ((0 : Int) ≤ (8 : Int) ∧ (8 : Int) ≤ (8 : Int) ∧ (64 : Int) ≤ (140737488355328 : Int) ∧ (8 : Int) ≤ (140737488355328 : Int)) (
 .req ((0 : Int) ≤ (0 : Int) ∧ (0 : Int) ≤ (16 : Int) ∧ 8 = 8 ∧ ∀ (x : Int), x ∈ List.replicate 8 (0 : Int) → (0 : Int) ≤ x ∧ x ≤ (0 : Int)) (
  .req ((0 : Int) = (0 : Int) ∧ List.replicate 8 (0 : Int) = List.replicate 8 (0 : Int) ∧ l = l) (
   .leaf ((Pl.cnF l 16 0 (List.replicate 8 (0 : Int)), ()))))) : Tree (List Int × PUnit)) := by kernel_rfl
def mxF : List Int → Int → Int
  | [], v => v
  | x :: r, v => mxF r (if x > v then x else v)
def mnF : List Int → Int → Int
  | [], v => v
  | x :: r, v => mnF r (if x < v then x else v)
def maxL (l : List Int) : Int := mxF (l.drop 1) (l.getD 0 0)
def minL (l : List Int) : Int := mnF (l.drop 1) (l.getD 0 0)
structure AMx where
  l : List Int
  i : Int
  v : Int
def LMx : LoopC AMx where
  n0 := 1
  det st := match rowS st 0 i64, intS st 4, intS st 3 with | some l, some i0, some i1 => some ⟨l, i0, i1⟩ | _, _, _ => none
  inv a := ⟨[(4, iv a.i), (3, iv a.v), (0, .one (.row 0))], [(0, .ro i64 a.l)], 1⟩
  ok a := 0 ≤ a.i ∧ a.i ≤ a.l.length ∧ (a.l.length : Int) < big
  mu a := a.l.length - a.i.toNat
  fin a := .leaf ⟨2, ⟨[(3, iv (mxF (a.l.drop a.i.toNat) a.v))], [], 1⟩⟩
theorem rMx (l : List Int) (i v : Int) : @Eq _
  (LMx.round E0 [] 100 Try.f21 0 ⟨l, i, v⟩)
  (.fork (decide (i < (↑l.length : Int))) (
 .req ((0 : Int) ≤ i ∧ i < (↑l.length : Int)) (
  .req ((0 : Int) ≤ i ∧ i < (↑l.length : Int)) (
   .req (IntKind.i64.wrap (i + (1 : Int)) = IntKind.i64.wrap (i + (1 : Int)) ∧ ((if l.getD i.toNat (0 : Int) > v then l.getD i.toNat (0 : Int) else v) = if l.getD i.toNat (0 : Int) > v then l.getD i.toNat (0 : Int) else v) ∧ l = l) (
    .leaf (Option.some { l := l, i := IntKind.i64.wrap (i + (1 : Int)), v := if l.getD i.toNat (0 : Int) > v then l.getD i.toNat (0 : Int) else v }))))) (
 .req (v = Pl.mxF (List.drop i.toNat l) v) (
  .leaf (Option.none))) : Tree (Option Pl.AMx)) := by kernel_rfl
theorem tMx (l : List Int) : @Eq _
  (fnT E0 [(0, LMx.sp)] 100 Try.f21 [ints] [i64] (l, ()))
  (.fork (decide ((↑l.length : Int) < (1 : Int))) (
 .fail "an operation that is not covered") (
 .req ((0 : Int) ≤ (0 : Int) ∧ (0 : Int) < (↑l.length : Int)) (
  .req ((0 : Int) ≤ (0 : Int) ∧ (0 : Int) < (↑l.length : Int)) (
   .req ((0 : Int) ≤ (1 : Int) ∧ (1 : Int) ≤ (↑l.length : Int) ∧ (↑l.length : Int) < (4611686018427387904 : Int)) (
    .req ((1 : Int) = (1 : Int) ∧ l.getD 0 (0 : Int) = l.getD 0 (0 : Int) ∧ l = l) (
     .leaf ((Pl.mxF (List.drop 1 l) (l.getD 0 (0 : Int)), ()))))))) : Tree (Int × PUnit)) := by kernel_rfl
def LMn : LoopC AMx where
  n0 := 1
  det st := match rowS st 0 i64, intS st 4, intS st 3 with | some l, some i0, some i1 => some ⟨l, i0, i1⟩ | _, _, _ => none
  inv a := ⟨[(4, iv a.i), (3, iv a.v), (0, .one (.row 0))], [(0, .ro i64 a.l)], 1⟩
  ok a := 0 ≤ a.i ∧ a.i ≤ a.l.length ∧ (a.l.length : Int) < big
  mu a := a.l.length - a.i.toNat
  fin a := .leaf ⟨2, ⟨[(3, iv (mnF (a.l.drop a.i.toNat) a.v))], [], 1⟩⟩
theorem rMn (l : List Int) (i v : Int) : @Eq _
  (LMn.round E0 [] 100 Try.f22 0 ⟨l, i, v⟩)
  (.fork (decide (i < (↑l.length : Int))) (
 .req ((0 : Int) ≤ i ∧ i < (↑l.length : Int)) (
  .req ((0 : Int) ≤ i ∧ i < (↑l.length : Int)) (
   .req (IntKind.i64.wrap (i + (1 : Int)) = IntKind.i64.wrap (i + (1 : Int)) ∧ ((if l.getD i.toNat (0 : Int) < v then l.getD i.toNat (0 : Int) else v) = if l.getD i.toNat (0 : Int) < v then l.getD i.toNat (0 : Int) else v) ∧ l = l) (
    .leaf (Option.some { l := l, i := IntKind.i64.wrap (i + (1 : Int)), v := if l.getD i.toNat (0 : Int) < v then l.getD i.toNat (0 : Int) else v }))))) (
 .req (v = Pl.mnF (List.drop i.toNat l) v) (
  .leaf (Option.none))) : Tree (Option Pl.AMx)) := by kernel_rfl
theorem tMn (l : List Int) : @Eq _
  (fnT E0 [(0, LMn.sp)] 100 Try.f22 [ints] [i64] (l, ()))
  (.fork (decide ((↑l.length : Int) < (1 : Int))) (
 .fail "an operation that is not covered") (
 .req ((0 : Int) ≤ (0 : Int) ∧ (0 : Int) < (↑l.length : Int)) (
  .req ((0 : Int) ≤ (0 : Int) ∧ (0 : Int) < (↑l.length : Int)) (
   .req ((0 : Int) ≤ (1 : Int) ∧ (1 : Int) ≤ (↑l.length : Int) ∧ (↑l.length : Int) < (4611686018427387904 : Int)) (
    .req ((1 : Int) = (1 : Int) ∧ l.getD 0 (0 : Int) = l.getD 0 (0 : Int) ∧ l = l) (
     .leaf ((Pl.mnF (List.drop 1 l) (l.getD 0 (0 : Int)), ()))))))) : Tree (Int × PUnit)) := by kernel_rfl
def unF (m : List Int) : List Int → Int → List Int
  | [], _ => []
  | c :: r, i => if m.contains i then c :: unF m r (i + 1) else unF m r (i + 1)
def unevenS (l m : List Int) : Int := if (unF m (countsS l) 0).length = 0 then 0 else maxL (unF m (countsS l) 0) - minL (unF m (countsS l) 0)
noncomputable abbrev M5 : Ex := mkExM Try.prog [(11, pureSp [ints] [ints] (fun _ => True) (fun x => (countsS x.1, ()))), (20, pureSp [ints, i64] [.bool] (fun x => (List.length (α := Int) x.1 : Int) < big) (fun x => (List.contains (α := Int) x.1 x.2.1, ()))), (21, pureSp [ints] [i64] (fun x => 1 ≤ List.length (α := Int) x.1 ∧ (List.length (α := Int) x.1 : Int) < big) (fun x => (maxL x.1, ()))), (22, pureSp [ints] [i64] (fun x => 1 ≤ List.length (α := Int) x.1 ∧ (List.length (α := Int) x.1 : Int) < big) (fun x => (minL x.1, ())))]
structure AUn where
  l : List Int
  m : List Int
  i : Int
  u : List Int
def LUn : LoopC AUn where
  n0 := 3
  det st := match rowS st 9 i64, rowS st 1 i64, intS st 11, rowS st 5 i64 with | some l, some m, some i0, some l1 => some ⟨l, m, i0, l1⟩ | _, _, _, _ => none
  rows := [(3, .slot 5)]
  inv a := ⟨[(11, iv a.i), (10, iv (↑a.l.length : Int)), (9, .one (.row 2)), (5, .one (.row 3)), (1, .one (.row 1))],
    [(2, .ro i64 a.l), (1, .ro i64 a.m), (3, .own i64 a.u)], 4⟩
  ok a := 0 ≤ a.i ∧ a.i ≤ a.l.length ∧ a.l.length = 8 ∧ (a.m.length : Int) < big ∧ (a.u.length : Int) ≤ a.i
  mu a := a.l.length - a.i.toNat
  fin a := .leaf ⟨2, ⟨[(5, .one (.row 3))], [(3, .own i64 (a.u ++ unF a.m (a.l.drop a.i.toNat) a.i))], 4⟩⟩
theorem rUn (l m : List Int) (i : Int) (u : List Int) : @Eq _
  (LUn.round M5 [] 100 Try.f13 0 ⟨l, m, i, u⟩)
  (.fork (decide (i < (↑l.length : Int))) (
 .req ((0 : Int) ≤ i ∧ i < (↑l.length : Int)) (
  .req ((0 : Int) ≤ i ∧ i < (↑l.length : Int)) (
   .req ((↑m.length : Int) < (4611686018427387904 : Int)) (
    .fork (m.contains i) (
     .req ((u.length + 1) * 9 ≤ 70368744177664) (
      .req (IntKind.i64.wrap (i + (1 : Int)) = IntKind.i64.wrap (i + (1 : Int)) ∧ (↑l.length : Int) = (↑l.length : Int) ∧ l = l ∧ m = m ∧ u ++ [l.getD i.toNat (0 : Int)] = u ++ [l.getD i.toNat (0 : Int)]) (
       .leaf (Option.some { l := l, m := m, i := IntKind.i64.wrap (i + (1 : Int)), u := u ++ [l.getD i.toNat (0 : Int)] })))) (
     .req (IntKind.i64.wrap (i + (1 : Int)) = IntKind.i64.wrap (i + (1 : Int)) ∧ (↑l.length : Int) = (↑l.length : Int) ∧ l = l ∧ m = m ∧ u = u) (
      .leaf (Option.some { l := l, m := m, i := IntKind.i64.wrap (i + (1 : Int)), u := u }))))))) (
 .req (u = u ++ Pl.unF m (List.drop i.toNat l) i) (
  .leaf (Option.none))) : Tree (Option Pl.AUn)) := by kernel_rfl
theorem tUn (l m : List Int) : @Eq _
  (fnT M5 [(0, LUn.sp)] 100 Try.f13 [ints, ints] [i64] (l, m, ()))
  (.req (True) (
 .req ((0 : Int) ≤ (0 : Int) ∧ (0 : Int) ≤ (↑(Pl.countsS l).length : Int) ∧ (Pl.countsS l).length = 8 ∧ (↑m.length : Int) < (4611686018427387904 : Int) ∧ (0 : Int) ≤ (0 : Int)) (
  .req ((0 : Int) = (0 : Int) ∧ (↑(Pl.countsS l).length : Int) = (↑(Pl.countsS l).length : Int) ∧ Pl.countsS l = Pl.countsS l ∧ m = m ∧ ([] : List Int) = ([] : List Int)) (
   .fork ((↑(([] : List Int) ++ Pl.unF m (List.drop 0 (Pl.countsS l)) (0 : Int)).length : Int) == (0 : Int)) (
    .leaf (((0 : Int), ()))) (
    .req (1 ≤ (([] : List Int) ++ Pl.unF m (List.drop 0 (Pl.countsS l)) (0 : Int)).length ∧ (↑(([] : List Int) ++ Pl.unF m (List.drop 0 (Pl.countsS l)) (0 : Int)).length : Int) < (4611686018427387904 : Int)) (
     .req (1 ≤ (([] : List Int) ++ Pl.unF m (List.drop 0 (Pl.countsS l)) (0 : Int)).length ∧ (↑(([] : List Int) ++ Pl.unF m (List.drop 0 (Pl.countsS l)) (0 : Int)).length : Int) < (4611686018427387904 : Int)) (
      .leaf ((IntKind.i64.wrap (Pl.maxL (([] : List Int) ++ Pl.unF m (List.drop 0 (Pl.countsS l)) (0 : Int)) - Pl.minL (([] : List Int) ++ Pl.unF m (List.drop 0 (Pl.countsS l)) (0 : Int))), ())))))))) : Tree (Int × PUnit)) := by kernel_rfl
end Pl

namespace Go.Proofs
open Go.Shelf
def Try.laysClone_ren : Go.Shelf.Ren := ⟨fun | 15 => 27 | n => n, fun | 22 => 22 | 3 => 3 | 4 => 4 | n => n, fun | n => n⟩
theorem Try.laysClone : Go.Proofs.Lays2.n15 Try.prog Try.laysClone_ren := {
  mixed := by kernel_rfl
  f15 := Try.func27.trans (congrArg some (by kernel_rfl))
  t3 := Try.underlying3
  a3 := Try.isAgg3
  z3 := Try.sizeOf3
  v3 := Try.zeroValue3
  t4 := Try.underlying4
  a4 := Try.isAgg4
  z4 := Try.sizeOf4
  v4 := Try.zeroValue4
  t22 := Try.underlying22
  a22 := Try.isAgg22
  z22 := Try.sizeOf22
  v22 := Try.zeroValue22
  i3 := by kernel_rfl }
end Go.Proofs
namespace Pl
open Go Sx Go.Proofs Go.RowKit

theorem own_reads {w : World} {base e : Nat} {v : Value} {xs : List Int} (h : w.ownsRow base e 1 v xs.length (xs.map (Value.int .i64))) : v = .slice none 0 0 ∧ xs = [] ∨ ∃ g cap cur T, v = .slice (some ⟨g, 0, none⟩) xs.length cap ∧ base ≤ g ∧ w.heap[g]? = some (.cells cur T (0, 0)) ∧ xs.length ≤ cap ∧ ∀ (i : Nat) (x : Int), xs[i]? = some x → cur[i]? = some (Value.int .i64 x) := by
  rcases h.2 with ⟨e0, e1⟩ | ⟨g, cap, cur, rfl, hb, hg, hn, _, hs, ht⟩
  · exact .inl ⟨e0, List.eq_nil_of_length_eq_zero e1⟩
  · refine .inr ⟨g, cap, cur, _, rfl, hb, hg, hn, fun i x hx => ?_⟩
    have hi : i < xs.length := (List.getElem?_eq_some_iff.1 hx).1
    have h2 : (cur.toList.take (xs.length * 1))[i]? = some (Value.int .i64 x) := by rw [ht]; simp [hx]
    rw [Nat.mul_one, List.getElem?_take_of_lt hi] at h2
    simpa using h2

def IntsAt (Q : Nat → Prop) (w : World) (xs : List Int) (A : Option Addr) : Prop :=
  ∀ (i : Nat) (x : Int), xs[i]? = some x → ∃ b o, A = some ⟨b, o, none⟩ ∧ Q b ∧ w.cell? ⟨b, o + i, none⟩ = some (Value.int .i64 x)
def IntsV (Q : Nat → Prop) (w : World) (xs : List Int) (v : Value) : Prop := ∃ A cap, v = .slice A xs.length cap ∧ xs.length ≤ cap ∧ IntsAt Q w xs A

theorem ints_iff {Q : Nat → Prop} {w : World} {xs : List Int} {cs : List Value} : ReadsC Q w ints xs cs ↔ ∃ v, cs = [v] ∧ IntsV Q w xs v := by
  constructor
  · rintro ⟨A, cap, rfl, hcap, hrow⟩
    refine ⟨_, rfl, A, cap, rfl, hcap, fun i x hx => ?_⟩
    obtain ⟨b, o, h, hQ, cs, _, hc, hrd⟩ := hrow i x hx
    have hrd : cs = [Value.int .i64 x] := hrd
    subst hrd
    have := hc 0 (by simp)
    exact ⟨b, o, h, hQ, by simpa [Ty.size] using this⟩
  · rintro ⟨v, rfl, A, cap, rfl, hcap, hrow⟩
    refine ⟨A, cap, rfl, hcap, fun i x hx => ?_⟩
    obtain ⟨b, o, h, hQ, hc⟩ := hrow i x hx
    refine ⟨b, o, h, hQ, [Value.int .i64 x], rfl, fun j hj => ?_, rfl⟩
    have hj0 : j = 0 := by simp at hj; omega
    subst hj0
    simpa [Ty.size] using hc

theorem clone_raw (Q : Nat → Prop) (w : World) (xs : List Int) (v : Value) (h : IntsV Q w xs v) (hbig : (xs.length : Int) < 17592186044416) :
    Calls Try.prog 27 #[v] w fun e w' => ∃ v', e = .returned v' ∧ IntsV (fun b => w.heap.size ≤ b ∧ b < w'.heap.size) w' xs v' ∧ Below w.heap.size w w' := by
  obtain ⟨A, cap, rfl, hcap, hrow⟩ := h
  have fin : ∀ (e : Ending) (w' : World) (v' : Value), e = .returned v' → w'.ownsRow w.heap.size 3 1 v' xs.length (xs.map (Value.int .i64)) → Below w.heap.size w w' →
      ∃ v', e = .returned v' ∧ IntsV (fun b => w.heap.size ≤ b ∧ b < w'.heap.size) w' xs v' ∧ Below w.heap.size w w' := by
    intro e w' v' he hown hb
    refine ⟨v', he, ?_, hb⟩
    rcases own_reads hown with ⟨e1, e2⟩ | ⟨g, c, cur, T, e1, hg, hh, hc, hx⟩
    · subst e2
      exact ⟨none, 0, e1, Nat.le_refl _, fun i x hi => by simp at hi⟩
    · refine ⟨some ⟨g, 0, none⟩, c, e1, hc, fun i x hi => ⟨g, 0, rfl, ⟨hg, (Array.getElem?_eq_some_iff.1 hh).1⟩, ?_⟩⟩
      have := hx i x hi
      simp [World.cell?, hh, this]
  cases A with
  | none =>
    refine (Any.slices_Clone_int_nil Try.laysClone _ cap w).mono ?_
    rintro e w' ⟨rfl, rfl⟩
    cases xs with
    | nil => exact fin _ _ _ rfl ⟨rfl, .inl ⟨rfl, rfl⟩⟩ (Below.refl _ _)
    | cons x t => obtain ⟨b, o, h, _⟩ := hrow 0 x rfl; cases h
  | some a =>
    cases hxs : xs with
    | nil =>
      subst hxs
      refine (Any.slices_Clone_int_zero Try.laysClone a cap w).mono ?_
      rintro e w' ⟨v', he, hown, _, hb⟩
      exact fin _ _ _ he hown hb
    | cons x t =>
      obtain ⟨b, o, h, _⟩ := hrow 0 x (by rw [hxs]; rfl)
      injection h with h; subst h
      rw [← hxs]
      refine (Any.slices_Clone_int Try.laysClone b o xs.length cap xs w (Nat.le_refl _) (by omega) ?_).mono ?_
      · intro j hj
        obtain ⟨b', o', h', _, hc⟩ := hrow j (xs.getD j 0) (by simp [List.getD_eq_getElem?_getD, List.getElem?_eq_getElem hj])
        injection h' with h'
        have hb' : b = b' := congrArg Addr.block h'
        have ho' : o = o' := congrArg Addr.off h'
        subst hb'; subst ho'
        exact hc
      · rintro e w' ⟨v', he, hown, _, hb⟩
        rw [List.take_of_length_le (Nat.le_refl _)] at hown
        exact fin _ _ _ he hown hb

theorem clone_ok : PureOK Try.prog 27 [ints] [ints] (fun x => (List.length (α := Int) x.1 : Int) < 17592186044416) (fun x => x) := by
  rintro R w ⟨xs, u⟩ args hR ⟨cs, r, e, hrd, er⟩ hpre
  obtain ⟨v, rfl, hv⟩ := ints_iff.1 hrd
  subst er; subst e
  refine (clone_raw R w xs v hv hpre).mono ?_
  rintro e w' ⟨v', he, hv', hb⟩
  refine ⟨[v'], he, ⟨[v'], [], rfl, ints_iff.2 ⟨v', rfl, ?_⟩, rfl⟩, hb⟩
  obtain ⟨A, cap, e1, e2, e3⟩ := hv'
  exact ⟨A, cap, e1, e2, fun i x hx => by obtain ⟨b, o, h1, h2, h3⟩ := e3 i x hx; exact ⟨b, o, h1, .inr h2, h3⟩⟩
end Pl
namespace Pl
open Go Sx Go.Proofs Go.RowKit
def idxF (v : Int) : List Int → Int → Int
  | [], _ => -1
  | x :: r, i => if x = v then i else idxF v r (i + 1)
def atL (l : List Int) (i : Int) : Int := if i < (l.length : Int) then l.getD i.toNat 0 else -1
theorem bodyIx : Try.f23.body = some (bodyOf Try.f23) := by kernel_rfl
theorem bodyCt : Try.f20.body = some (bodyOf Try.f20) := by kernel_rfl
theorem bodyAt : Try.f24.body = some (bodyOf Try.f24) := by kernel_rfl
theorem bodyHas : Try.f29.body = some (bodyOf Try.f29) := by kernel_rfl
theorem bodyMem : Try.f15.body = some (bodyOf Try.f15) := by kernel_rfl
theorem tAt (l : List Int) (i : Int) : @Eq _
  (fnT E0 [] 100 Try.f24 [ints, i64] [i64] (l, i, ()))
  (.fork (decide (i < (↑l.length : Int))) (
 .req ((0 : Int) ≤ i ∧ i < (↑l.length : Int)) (
  .req ((0 : Int) ≤ i ∧ i < (↑l.length : Int)) (
   .leaf ((l.getD i.toNat (0 : Int), ()))))) (
 .leaf (((-1 : Int), ()))) : Tree (Int × PUnit)) := by kernel_rfl
structure AIx where
  l : List Int
  v : Int
  i0 : Int
def LIx : LoopC AIx where
  n0 := 1
  det st := match rowS st 0 i64, intS st 1, intS st 8 with | some l, some v, some i0 => some ⟨l, v, i0⟩ | _, _, _ => none
  inv a := ⟨[(8, iv a.i0), (7, iv (↑a.l.length : Int)), (0, .one (.row 0)), (1, iv a.v)],
    [(0, .ro i64 a.l)], 1⟩
  ok a := 0 ≤ a.i0 ∧ a.i0 ≤ a.l.length ∧ (a.l.length : Int) < big
  mu a := a.l.length - a.i0.toNat
  fin a := .fork ((a.l.drop a.i0.toNat).contains a.v) (.leaf ⟨1, ⟨[(4, iv (idxF a.v (a.l.drop a.i0.toNat) a.i0))], [], 1⟩⟩) (.leaf ⟨2, ⟨[], [], 1⟩⟩)
noncomputable abbrev C1 : Ex := mkEx Try.prog [(24, pureSp [ints, i64] [i64] (fun x => 0 ≤ x.2.1) (fun x => (atL x.1 x.2.1, ()))), (20, pureSp [ints, i64] [.bool] (fun x => (List.length (α := Int) x.1 : Int) < big) (fun x => (List.contains (α := Int) x.1 x.2.1, ())))]
structure AHs where
  l : List Int
  v : Int
  i0 : Int
  i1 : Int
def LHs : LoopC AHs where
  n0 := 1
  det st := match rowS st 0 i64, intS st 1, intS st 7, intS st 5 with | some l, some v, some i0, some i1 => some ⟨l, v, i0, i1⟩ | _, _, _, _ => none
  inv a := ⟨[(7, iv a.i0), (5, iv a.i1), (0, .one (.row 0)), (1, iv a.v)],
    [(0, .ro i64 a.l)], 1⟩
  ok a := 0 ≤ a.i0 ∧ a.i0 ≤ 16 ∧ 0 ≤ a.i1 ∧ a.i1 ≤ a.i0
  mu a := 16 - a.i0.toNat
  fin a := .leaf ⟨2, ⟨[(5, iv (a.i1 + cntB (fun p => atL a.l (p : Int) == a.v) (16 - a.i0.toNat) a.i0.toNat))], [], 1⟩⟩
structure AMe where
  l : List Int
  i0 : Int
  l1 : List Int
def LMe : LoopC AMe where
  n0 := 1
  det st := match rowS st 0 i64, intS st 5, rowS st 3 i64 with | some l, some i0, some l1 => some ⟨l, i0, l1⟩ | _, _, _ => none
  rows := [(1, .slot 3)]
  inv a := ⟨[(5, iv a.i0), (3, .one (.row 1)), (0, .one (.row 0))],
    [(0, .ro i64 a.l), (1, .own i64 a.l1)], 2⟩
  ok a := 0 ≤ a.i0 ∧ a.i0 ≤ 8 ∧ (a.l1.length : Int) ≤ a.i0 ∧ (a.l.length : Int) < big
  mu a := 8 - a.i0.toNat
  fin a := .leaf ⟨2, ⟨[(3, .one (.row 1))], [(1, .own i64 (a.l1 ++ fltB (fun n => a.l.contains (n : Int)) (8 - a.i0.toNat) a.i0.toNat))], 2⟩⟩
structure AMo where
  l : List Int
  m : List Int
  i0 : Int
  i1 : Int
def LMo : LoopC AMo where
  n0 := 2
  det st := match rowS st 0 i64, rowS st 1 i64, intS st 7, intS st 5 with | some l, some m, some i0, some i1 => some ⟨l, m, i0, i1⟩ | _, _, _, _ => none
  inv a := ⟨[(7, iv a.i0), (5, iv a.i1), (0, .one (.row 0)), (1, .one (.row 1))],
    [(0, .ro i64 a.l), (1, .ro i64 a.m)], 2⟩
  ok a := 0 ≤ a.i0 ∧ a.i0 ≤ 16 ∧ 0 ≤ a.i1 ∧ a.i1 ≤ a.i0
  mu a := 16 - a.i0.toNat
  fin a := .leaf ⟨2, ⟨[(5, iv (a.i1 + cntB (fun p => !(atL a.l (p : Int) == atL a.m (p : Int))) (16 - a.i0.toNat) a.i0.toNat))], [], 2⟩⟩
theorem rIx (l : List Int) (v i0 : Int) : @Eq _
  (LIx.round E0 [] 100 Try.f23 0 ⟨l, v, i0⟩)
  (.fork (decide (i0 < (↑l.length : Int))) (
 .req ((0 : Int) ≤ i0 ∧ i0 < (↑l.length : Int)) (
  .req ((0 : Int) ≤ i0 ∧ i0 < (↑l.length : Int)) (
   .fork (v == l.getD i0.toNat (0 : Int)) (
    .fork ((List.drop i0.toNat l).contains v) (
     .req (i0 = Pl.idxF v (List.drop i0.toNat l) i0) (
      .leaf (Option.none))) (
     .req (False) (
      .leaf (Option.none)))) (
    .req (IntKind.i64.wrap (i0 + (1 : Int)) = IntKind.i64.wrap (i0 + (1 : Int)) ∧ (↑l.length : Int) = (↑l.length : Int) ∧ v = v ∧ l = l) (
     .leaf (Option.some { l := l, v := v, i0 := IntKind.i64.wrap (i0 + (1 : Int)) })))))) (
 .fork ((List.drop i0.toNat l).contains v) (
  .req (False) (
   .leaf (Option.none))) (
  .req (True) (
   .leaf (Option.none)))) : Tree (Option Pl.AIx)) := by kernel_rfl
theorem rHs (l : List Int) (v i0 i1 : Int) : @Eq _
  (LHs.round C1 [] 100 Try.f29 0 ⟨l, v, i0, i1⟩)
  (.fork (decide (i0 < (16 : Int))) (
 .req ((0 : Int) ≤ i0) (
  .fork (Pl.atL l i0 == v) (
   .req (IntKind.i64.wrap (i0 + (1 : Int)) = IntKind.i64.wrap (i0 + (1 : Int)) ∧ IntKind.i64.wrap (i1 + (1 : Int)) = IntKind.i64.wrap (i1 + (1 : Int)) ∧ v = v ∧ l = l) (
    .leaf (Option.some { l := l, v := v, i0 := IntKind.i64.wrap (i0 + (1 : Int)), i1 := IntKind.i64.wrap (i1 + (1 : Int)) }))) (
   .req (IntKind.i64.wrap (i0 + (1 : Int)) = IntKind.i64.wrap (i0 + (1 : Int)) ∧ i1 = i1 ∧ v = v ∧ l = l) (
    .leaf (Option.some { l := l, v := v, i0 := IntKind.i64.wrap (i0 + (1 : Int)), i1 := i1 }))))) (
 .req (i1 = i1 + cntB (fun p => Pl.atL l (↑p : Int) == v) (16 - i0.toNat) i0.toNat) (
  .leaf (Option.none))) : Tree (Option Pl.AHs)) := by kernel_rfl
theorem rMe (l : List Int) (i0 : Int) (l1 : List Int) : @Eq _
  (LMe.round C1 [] 100 Try.f15 0 ⟨l, i0, l1⟩)
  (.fork (decide (i0 < (8 : Int))) (
 .req ((↑l.length : Int) < (4611686018427387904 : Int)) (
  .fork (l.contains i0) (
   .req ((l1.length + 1) * 9 ≤ 70368744177664) (
    .req (IntKind.i64.wrap (i0 + (1 : Int)) = IntKind.i64.wrap (i0 + (1 : Int)) ∧ l = l ∧ l1 ++ [i0] = l1 ++ [i0]) (
     .leaf (Option.some { l := l, i0 := IntKind.i64.wrap (i0 + (1 : Int)), l1 := l1 ++ [i0] })))) (
   .req (IntKind.i64.wrap (i0 + (1 : Int)) = IntKind.i64.wrap (i0 + (1 : Int)) ∧ l = l ∧ l1 = l1) (
    .leaf (Option.some { l := l, i0 := IntKind.i64.wrap (i0 + (1 : Int)), l1 := l1 }))))) (
 .req (l1 = l1 ++ fltB (fun n => l.contains (↑n : Int)) (8 - i0.toNat) i0.toNat) (
  .leaf (Option.none))) : Tree (Option Pl.AMe)) := by kernel_rfl
theorem tIx (l : List Int) (v : Int) : @Eq _
  (fnT E0 [(0, LIx.sp)] 100 Try.f23 [ints, i64] [i64] (l, v, ()))
  (.req ((0 : Int) ≤ (0 : Int) ∧ (0 : Int) ≤ (↑l.length : Int) ∧ (↑l.length : Int) < (4611686018427387904 : Int)) (
 .req ((0 : Int) = (0 : Int) ∧ (↑l.length : Int) = (↑l.length : Int) ∧ v = v ∧ l = l) (
  .fork (l.contains v) (
   .leaf ((Pl.idxF v l (0 : Int), ()))) (
   .leaf (((-1 : Int), ()))))) : Tree (Int × PUnit)) := by kernel_rfl
theorem tHs (l : List Int) (v : Int) : @Eq _
  (fnT C1 [(0, LHs.sp)] 100 Try.f29 [ints, i64] [i64] (l, v, ()))
  (.req ((0 : Int) ≤ (0 : Int) ∧ (0 : Int) ≤ (16 : Int) ∧ (0 : Int) ≤ (0 : Int) ∧ (0 : Int) ≤ (0 : Int)) (
 .req ((0 : Int) = (0 : Int) ∧ (0 : Int) = (0 : Int) ∧ v = v ∧ l = l) (
  .leaf (((0 : Int) + cntB (fun p => Pl.atL l (↑p : Int) == v) 16 0, ())))) : Tree (Int × PUnit)) := by kernel_rfl
theorem tMe (l : List Int) : @Eq _
  (fnT C1 [(0, LMe.sp)] 100 Try.f15 [ints] [ints] (l, ()))
  (.req ((0 : Int) ≤ (0 : Int) ∧ (0 : Int) ≤ (8 : Int) ∧ (0 : Int) ≤ (0 : Int) ∧ (↑l.length : Int) < (4611686018427387904 : Int)) (
 .req ((0 : Int) = (0 : Int) ∧ l = l ∧ ([] : List Int) = ([] : List Int)) (
  .leaf ((([] : List Int) ++ fltB (fun n => l.contains (↑n : Int)) 8 0, ())))) : Tree (List Int × PUnit)) := by kernel_rfl
end Pl
namespace Pl
open Go Sx Go.Proofs Go.RowKit
theorem at_t (l : List Int) (i : Int) (h : 0 ≤ i) : (fnT E0 [] 100 Try.f24 [ints, i64] [i64] (l, i, ())).all fun y => y = (atL l i, ()) := by
  rw [tAt]
  simp only [Tree.all, decide_eq_true_eq, decide_eq_false_iff_not, atL]
  exact ⟨fun c => ⟨⟨h, c⟩, ⟨h, c⟩, by rw [if_pos c]⟩, fun c => by rw [if_neg c]⟩
theorem at_ok : PureOK Try.prog 24 [ints, i64] [i64] (fun x => 0 ≤ x.2.1) (fun x => (atL x.1 x.2.1, ())) :=
  fn_pure (E := E0) (n := 100) E0_ok Try.func24 bodyAt .nil fun x h => at_t x.1 x.2.1 h
theorem idxF_ge (v : Int) : ∀ (l : List Int) (i : Int), 0 ≤ i → l.contains v = true → 0 ≤ idxF v l i ∧ i ≤ idxF v l i ∧ idxF v l i < i + l.length ∧ l.getD (idxF v l i - i).toNat 0 = v
  | [], i, h0, h => by simp at h
  | x :: r, i, h0, h => by
    simp only [idxF]
    split
    · rename_i e; simp [h0, e]; omega
    · rename_i e
      have : r.contains v = true := by simp at h ⊢; rcases h with h | h; exact absurd h.symm e; exact h
      obtain ⟨a, b, c, d⟩ := idxF_ge v r (i + 1) (by omega) this
      refine ⟨a, by omega, by simp; omega, ?_⟩
      rw [show (idxF v r (i + 1) - i).toNat = (idxF v r (i + 1) - (i + 1)).toNat + 1 by omega]
      exact d
theorem lIx : LpsOK Try.prog Try.f23 [(0, LIx.sp)] := by
  refine .cons (LIx.sound E0_ok (lps := []) (n := 100) (inner rfl) (fun _ => rfl) ?_) .nil
  rintro ⟨l, v, i⟩ ⟨h1, h2, h3⟩
  simp only at h1 h2 h3
  rw [rIx]
  simp only [Tree.all, true_and, and_true, LoopC.Next, decide_eq_true_eq, decide_eq_false_iff_not, beq_iff_eq, beq_eq_false_iff_ne, ne_eq]
  refine ⟨fun c => ⟨⟨h1, c⟩, ⟨h1, c⟩, fun d => ⟨fun e => ?_, fun e => ?_⟩, fun d => ?_⟩, fun c => ⟨fun e => ?_, fun _ => trivial⟩⟩
  · rw [drop_cons 0 h1 c, idxF, if_pos d.symm]
  · rw [drop_cons 0 h1 c] at e; simp [d] at e
  · rw [i64_inc (by omega) (by unfold big at h3; omega)]
    refine ⟨⟨by dsimp only; omega, by dsimp only; omega, h3⟩, by simp only [LIx]; omega, ?_⟩
    simp only [LIx]
    rw [drop_cons 0 h1 c, idxF, if_neg (fun e => d e.symm), List.contains_cons]
    have : (v == l.getD i.toNat 0) = false := by simpa using d
    rw [this]; simp
  · rw [drop_end c] at e; simp at e
def indexF (l : List Int) (v : Int) : Int := if l.contains v then idxF v l 0 else -1
theorem index_t (l : List Int) (v : Int) (h : (l.length : Int) < big) : (fnT E0 [(0, LIx.sp)] 100 Try.f23 [ints, i64] [i64] (l, v, ())).all fun y => y = (indexF l v, ()) := by
  rw [tIx]
  simp only [Tree.all, true_and, and_true]
  exact ⟨⟨by omega, by omega, h⟩, fun c => by rw [indexF, if_pos c], fun c => by rw [indexF, if_neg (by rw [c]; decide)]⟩
theorem index_ok : PureOK Try.prog 23 [ints, i64] [i64] (fun x => (List.length (α := Int) x.1 : Int) < big) (fun x => (indexF x.1 x.2.1, ())) :=
  fn_pure (E := E0) (n := 100) E0_ok Try.func23 bodyIx lIx fun x h => index_t x.1 x.2.1 h
abbrev KIx : Nat × Sx.Spec := (23, pureSp [ints, i64] [i64] (fun x => (List.length (α := Int) x.1 : Int) < big) (fun x => (indexF x.1 x.2.1, ())))
noncomputable abbrev C0 : Ex := mkEx Try.prog [KIx]
theorem C0_ok : C0.Sound := mkEx_sound ⟨pureSp_ok index_ok, trivial⟩
theorem tCt (l : List Int) (v : Int) : @Eq _
  (fnT C0 [] 100 Try.f20 [ints, i64] [.bool] (l, v, ()))
  (.req ((↑l.length : Int) < (4611686018427387904 : Int)) (
 .leaf ((decide ((if l.contains v = true then Pl.idxF v l (0 : Int) else (-1 : Int)) ≥ (0 : Int)), ()))) : Tree (Bool × PUnit)) := by kernel_rfl
theorem contains_t (l : List Int) (v : Int) (h : (l.length : Int) < big) : (fnT C0 [] 100 Try.f20 [ints, i64] [.bool] (l, v, ())).all fun y => y = (l.contains v, ()) := by
  rw [tCt]
  simp only [Tree.all]
  refine ⟨h, ?_⟩
  cases hc : l.contains v with
  | true => have := (idxF_ge v l 0 (by omega) hc).1; rw [if_pos rfl]; simp [this]
  | false => rw [if_neg (by decide)]; simp
theorem contains_ok : PureOK Try.prog 20 [ints, i64] [.bool] (fun x => (List.length (α := Int) x.1 : Int) < big) (fun x => (List.contains (α := Int) x.1 x.2.1, ())) :=
  fn_pure (E := C0) (n := 100) C0_ok Try.func20 bodyCt .nil fun x h => contains_t x.1 x.2.1 h
theorem C1_ok : C1.Sound := mkEx_sound ⟨pureSp_ok at_ok, pureSp_ok contains_ok, trivial⟩
def hasL (l : List Int) (v : Int) : Int := cntB (fun p => atL l (p : Int) == v) 16 0
def memL (l : List Int) : List Int := fltB (fun n => l.contains (n : Int)) 8 0
def movL (l m : List Int) : Int := cntB (fun p => !(atL l (p : Int) == atL m (p : Int))) 16 0
theorem lHs : LpsOK Try.prog Try.f29 [(0, LHs.sp)] := by
  refine .cons (LHs.sound C1_ok (lps := []) (n := 100) (inner rfl) (fun _ => rfl) ?_) .nil
  rintro ⟨l, v, i, k⟩ ⟨h1, h2, h3, h4⟩
  simp only at h1 h2 h3 h4
  rw [rHs]
  simp only [Tree.all, true_and, and_true, LoopC.Next, decide_eq_true_eq, decide_eq_false_iff_not]
  refine ⟨fun c => ⟨h1, fun d => ?_, fun d => ?_⟩, fun c => by rw [cntB_end _ c]; omega⟩
  all_goals
    rw [i64_inc (by omega) (by omega)]
    try rw [i64_inc (i := k) (by omega) (by omega)]
    refine ⟨⟨by dsimp only; omega, by dsimp only; omega, by dsimp only; omega, by dsimp only; omega⟩, by simp only [LHs]; omega, ?_⟩
    simp only [LHs]
    rw [cntB_step _ h1 c, show ((i.toNat : Nat) : Int) = i by omega, d]
    simp <;> omega
theorem has_t (l : List Int) (v : Int) : (fnT C1 [(0, LHs.sp)] 100 Try.f29 [ints, i64] [i64] (l, v, ())).all fun y => y = (hasL l v, ()) := by
  rw [tHs]
  simp only [Tree.all, true_and, and_true]
  exact ⟨by omega, by simp [hasL]⟩
theorem has_ok : PureOK Try.prog 29 [ints, i64] [i64] (fun _ => True) (fun x => (hasL x.1 x.2.1, ())) :=
  fn_pure (E := C1) (n := 100) C1_ok Try.func29 bodyHas lHs fun x _ => has_t x.1 x.2.1
theorem lMe : LpsOK Try.prog Try.f15 [(0, LMe.sp)] := by
  refine .cons (LMe.sound C1_ok (lps := []) (n := 100) (inner rfl) (fun _ => rfl) ?_) .nil
  rintro ⟨l, i, k⟩ ⟨h1, h2, h3, h4⟩
  simp only at h1 h2 h3 h4
  rw [rMe]
  simp only [Tree.all, true_and, and_true, LoopC.Next, decide_eq_true_eq, decide_eq_false_iff_not]
  refine ⟨fun c => ⟨h4, fun d => ⟨by omega, ?_⟩, fun d => ?_⟩, fun c => by rw [fltB_end _ c]; simp⟩
  all_goals
    rw [i64_inc (by omega) (by omega)]
    refine ⟨⟨by dsimp only; omega, by dsimp only; omega, by simp; omega, h4⟩, by simp only [LMe]; omega, ?_⟩
    simp only [LMe]
    rw [fltB_step _ h1 c, show ((i.toNat : Nat) : Int) = i by omega, d]
    simp
theorem mem_t (l : List Int) (h : (l.length : Int) < big) : (fnT C1 [(0, LMe.sp)] 100 Try.f15 [ints] [ints] (l, ())).all fun y => y = (memL l, ()) := by
  rw [tMe]
  simp only [Tree.all, true_and, and_true]
  exact ⟨⟨by omega, by omega, by omega, h⟩, rfl⟩
theorem mem_ok : PureOK Try.prog 15 [ints] [ints] (fun x => (List.length (α := Int) x.1 : Int) < big) (fun x => (memL x.1, ())) :=
  fn_pure (E := C1) (n := 100) C1_ok Try.func15 bodyMem lMe fun x h => mem_t x.1 h
end Pl
namespace Pl
open Go Sx Go.Proofs Go.RowKit
theorem atS_at {l : List Int} {p : Int} (h : atS l p ≠ -1) : 0 ≤ p ∧ p < 16 ∧ p < (l.length : Int) ∧ 0 ≤ atS l p ∧ atS l p < 8 ∧ atS l p = l.getD p.toNat 0 := by
  unfold atS at h ⊢
  split at h
  · rename_i c
    rw [if_pos c]
    simp only [Bool.and_eq_true, decide_eq_true_eq, nodeB_iff] at c
    exact ⟨c.1, c.2.2.1, c.2.1, c.2.2.2.1, c.2.2.2.2, rfl⟩
  · exact absurd rfl h
theorem lNx : LpsOK Try.prog Try.f9 [(0, LNx.sp)] := by
  refine .cons (LNx.sound M1_ok (lps := []) (n := 100) (inner rfl) (fun _ => rfl) ?_) .nil
  rintro ⟨l, p, n, s⟩ ⟨h1, h2, h3, h4, h5⟩
  simp only at h1 h2 h3 h4 h5
  have w1 : IntKind.i64.wrap (p + s) = p + s := IntWalk.i64_in _ (by omega)
  have w2 : IntKind.i64.wrap (s + 1) = s + 1 := IntWalk.i64_in _ (by omega)
  have w3 : (p + s).tmod 16 = (p + s) % 16 := Int.tmod_eq_emod_of_nonneg (by omega)
  have hstep : nxF l n p (17 - s.toNat) s = if atS l ((p + s) % 16) = n then s else nxF l n p (17 - (s + 1).toNat) (s + 1) := by
    rw [show 17 - s.toNat = (17 - (s + 1).toNat) + 1 by omega, nxF]
  rw [rNx, w1, w2, w3]
  simp only [all_leaf, all_fork, all_req, true_and, and_true, bne_iff_ne, ne_eq, bne_eq_false_iff_eq]
  refine ⟨by omega, fun c => ?_, fun c => ?_⟩
  · have : s ≠ 16 := fun e => by
      subst e
      rw [show (p + 16) % 16 = p by omega] at c
      exact c h3
    refine ⟨⟨h1, h2, h3, by dsimp only; omega, by dsimp only; omega⟩, by simp only [LNx]; omega, ?_⟩
    simp only [LNx]; rw [hstep, if_neg c]
  · exact ⟨by rw [hstep, if_pos c], trivial⟩
theorem next_ok : PureOK Try.prog 9 [ints, i64] [i64] (fun _ => True) (fun x => (nextS x.1 x.2.1, ())) :=
  fn_pure (E := M1) (n := 100) M1_ok Try.func9 sbN lNx fun x _ => by
    obtain ⟨l, p, _⟩ : List Int × Int × Unit := x
    refine Tree.all_eq (tNx l p) ?_
    show Tree.all (α := Int × Unit) _ (fun y => y = (nextS l p, ()))
    simp only [all_leaf, all_fork, all_req, true_and, and_true, beq_iff_eq, beq_eq_false_iff_ne, ne_eq]
    refine ⟨fun c => by unfold nextS; rw [if_pos c], fun c => ?_⟩
    have := atS_at c
    exact ⟨⟨by omega, by omega, by omega, by omega⟩, by unfold nextS; rw [if_neg c]⟩
theorem M2_ok : M2.Sound := mkExM_sound ⟨pureSp_ok atS_ok, pureSp_ok next_ok, trivial⟩
theorem lLt : LpsOK Try.prog Try.f12 [(0, LLt.sp)] := by
  refine .cons (LLt.sound M2_ok (lps := []) (n := 100) (inner rfl) (fun _ => rfl) ?_) .nil
  rintro ⟨l, nd, q, o⟩ ⟨h1, h2⟩
  simp only at h1 h2
  rw [rLt]
  simp only [all_leaf, all_fork, all_req, true_and, and_true, decide_eq_true_eq, decide_eq_false_iff_not]
  have hstep : q < 16 → lsF l nd (16 - q.toNat) q.toNat o = lsF l nd (16 - (q + 1).toNat) (q + 1).toNat (if atS l q = -1 ∨ atS l q ≠ nd then o else if o = 0 ∨ nextS l q < o then nextS l q else o) := fun c => by
    rw [show 16 - q.toNat = (16 - (q + 1).toNat) + 1 by omega, lsF, toNat_succ h1, Int.toNat_of_nonneg h1]
  refine ⟨fun c => ⟨fun d => ?_, fun d => ⟨fun e => ?_, fun e => ?_⟩⟩, fun c => ?_⟩
  all_goals try rw [IntWalk.i64_in (q + 1) (by omega)]
  · have d : atS l q = -1 ∨ atS l q ≠ nd := by simpa using d
    refine ⟨⟨by dsimp only; omega, by dsimp only; omega⟩, by simp only [LLt]; omega, ?_⟩
    simp only [LLt]; rw [hstep c, if_pos d]
  · have d : ¬ (atS l q = -1 ∨ atS l q ≠ nd) := by simpa using d
    have e : o = 0 ∨ nextS l q < o := by simpa using e
    refine ⟨⟨by dsimp only; omega, by dsimp only; omega⟩, by simp only [LLt]; omega, ?_⟩
    simp only [LLt]; rw [hstep c, if_neg d, if_pos e]
  · have d : ¬ (atS l q = -1 ∨ atS l q ≠ nd) := by simpa using d
    have e : ¬ (o = 0 ∨ nextS l q < o) := by simpa using e
    refine ⟨⟨by dsimp only; omega, by dsimp only; omega⟩, by simp only [LLt]; omega, ?_⟩
    simp only [LLt]; rw [hstep c, if_neg d, if_neg e]
  · exact ⟨by rw [show 16 - q.toNat = 0 by omega]; rfl, trivial⟩
theorem least_ok : PureOK Try.prog 12 [ints, i64] [i64] (fun _ => True) (fun x => (leastS x.1 x.2.1, ())) :=
  fn_pure (E := M2) (n := 100) M2_ok Try.func12 sbL lLt fun x _ => by
    obtain ⟨l, p, _⟩ : List Int × Int × Unit := x
    refine Tree.all_eq (tLt l p) ?_
    show Tree.all (α := Int × Unit) _ (fun y => y = (leastS l p, ()))
    simp only [all_leaf, all_fork, all_req, true_and, and_true]
    exact ⟨⟨by omega, by omega⟩, rfl⟩
theorem lCu : LpsOK Try.prog Try.f11 [(0, LCu.sp)] := by
  refine .cons (LCu.sound M4_ok (lps := []) (n := 100) (inner rfl) (fun _ => rfl) ?_) .nil
  rintro ⟨l, o, q⟩ ⟨h1, h2, h3, h4⟩
  simp only at h1 h2 h3 h4
  rw [rCu]
  simp only [all_leaf, all_fork, all_req, true_and, and_true, decide_eq_true_eq, decide_eq_false_iff_not, bne_iff_ne, ne_eq, bne_eq_false_iff_eq]
  have hstep : q < 16 → cnF l (16 - q.toNat) q.toNat o = cnF l (16 - (q + 1).toNat) (q + 1).toNat (if atS l q = -1 then o else o.set (atS l q).toNat (o.getD (atS l q).toNat 0 + 1)) := fun c => by
    rw [show 16 - q.toNat = (16 - (q + 1).toNat) + 1 by omega, cnF, toNat_succ h1, Int.toNat_of_nonneg h1]
  refine ⟨fun c => ⟨fun d => ?_, fun d => ?_⟩, fun c => ?_⟩
  · have ha := atS_at d
    have hi : (atS l q).toNat < o.length := by omega
    have hb := h4 _ (show o.getD (atS l q).toNat 0 ∈ o by rw [getD_get 0 hi]; exact List.getElem_mem _)
    rw [IntWalk.i64_in (q + 1) (by omega), IntWalk.i64_in (o.getD (atS l q).toNat 0 + 1) (by omega)]
    refine ⟨by omega, by omega, by omega, by omega, ⟨by dsimp only; omega, by dsimp only; omega, by simpa using h3, fun x hx => ?_⟩, by simp only [LCu]; omega, ?_⟩
    · rcases List.mem_or_eq_of_mem_set hx with e | e
      · have := h4 x e; dsimp only; omega
      · dsimp only; omega
    · simp only [LCu]; rw [hstep c, if_neg d]
  · rw [IntWalk.i64_in (q + 1) (by omega)]
    refine ⟨⟨by dsimp only; omega, by dsimp only; omega, h3, fun x hx => ?_⟩, by simp only [LCu]; omega, ?_⟩
    · have := h4 x hx; dsimp only; omega
    · simp only [LCu]; rw [hstep c, if_pos d]
  · exact ⟨by rw [show 16 - q.toNat = 0 by omega]; rfl, trivial⟩
theorem counts_ok : PureOK Try.prog 11 [ints] [ints] (fun _ => True) (fun x => (countsS x.1, ())) :=
  fn_pure (E := M4) (n := 100) M4_ok Try.func11 sbC lCu fun x _ => by
    obtain ⟨l, _⟩ : List Int × Unit := x
    refine Tree.all_eq (tCu l) ?_
    show Tree.all (α := List Int × Unit) _ (fun y => y = (countsS l, ()))
    simp only [all_leaf, all_fork, all_req, true_and, and_true]
    refine ⟨⟨by omega, by omega, by omega, by omega⟩, ⟨by omega, by omega, fun x hx => ?_⟩, rfl⟩
    rw [List.eq_of_mem_replicate hx]; omega
theorem cnF_len (l : List Int) : ∀ (c q : Nat) (o : List Int), (cnF l c q o).length = o.length
  | 0, _, _ => rfl
  | c + 1, q, o => by rw [cnF, cnF_len l c]; split <;> simp
theorem counts_len (l : List Int) : (countsS l).length = 8 := by unfold countsS; rw [cnF_len]; simp
theorem lMx : LpsOK Try.prog Try.f21 [(0, LMx.sp)] := by
  refine .cons (LMx.sound E0_ok (lps := []) (n := 100) (inner rfl) (fun _ => rfl) ?_) .nil
  rintro ⟨l, i, v⟩ ⟨h1, h2, h3⟩
  simp only at h1 h2 h3
  rw [rMx]
  simp only [all_leaf, all_fork, all_req, true_and, and_true, decide_eq_true_eq, decide_eq_false_iff_not]
  refine ⟨fun c => ⟨⟨h1, c⟩, ⟨h1, c⟩, ?_⟩, fun c => ?_⟩
  · rw [i64_inc (by omega) (by unfold big at h3; omega)]
    refine ⟨⟨by dsimp only; omega, by dsimp only; omega, h3⟩, by simp only [LMx]; omega, ?_⟩
    simp only [LMx]; rw [drop_cons (l := l) 0 h1 c, mxF]
  · exact ⟨by rw [drop_end c]; rfl, trivial⟩
theorem max_ok : PureOK Try.prog 21 [ints] [i64] (fun x => 1 ≤ List.length (α := Int) x.1 ∧ (List.length (α := Int) x.1 : Int) < big) (fun x => (maxL x.1, ())) :=
  fn_pure (E := E0) (n := 100) E0_ok Try.func21 sbMx lMx fun x h => by
    obtain ⟨l, _⟩ : List Int × Unit := x
    obtain ⟨h1, h2⟩ : 1 ≤ l.length ∧ (l.length : Int) < 4611686018427387904 := h
    refine Tree.all_eq (tMx l) ?_
    show Tree.all (α := Int × Unit) _ (fun y => y = (maxL l, ()))
    simp only [all_leaf, all_fork, all_req, true_and, and_true, decide_eq_true_eq, decide_eq_false_iff_not]
    exact ⟨fun c => by omega, fun c => ⟨by omega, by omega, ⟨by omega, by omega, h2⟩, rfl⟩⟩
theorem lMn : LpsOK Try.prog Try.f22 [(0, LMn.sp)] := by
  refine .cons (LMn.sound E0_ok (lps := []) (n := 100) (inner rfl) (fun _ => rfl) ?_) .nil
  rintro ⟨l, i, v⟩ ⟨h1, h2, h3⟩
  simp only at h1 h2 h3
  rw [rMn]
  simp only [all_leaf, all_fork, all_req, true_and, and_true, decide_eq_true_eq, decide_eq_false_iff_not]
  refine ⟨fun c => ⟨⟨h1, c⟩, ⟨h1, c⟩, ?_⟩, fun c => ?_⟩
  · rw [i64_inc (by omega) (by unfold big at h3; omega)]
    refine ⟨⟨by dsimp only; omega, by dsimp only; omega, h3⟩, by simp only [LMn]; omega, ?_⟩
    simp only [LMn]; rw [drop_cons (l := l) 0 h1 c, mnF]
  · exact ⟨by rw [drop_end c]; rfl, trivial⟩
theorem min_ok : PureOK Try.prog 22 [ints] [i64] (fun x => 1 ≤ List.length (α := Int) x.1 ∧ (List.length (α := Int) x.1 : Int) < big) (fun x => (minL x.1, ())) :=
  fn_pure (E := E0) (n := 100) E0_ok Try.func22 sbMn lMn fun x h => by
    obtain ⟨l, _⟩ : List Int × Unit := x
    obtain ⟨h1, h2⟩ : 1 ≤ l.length ∧ (l.length : Int) < 4611686018427387904 := h
    refine Tree.all_eq (tMn l) ?_
    show Tree.all (α := Int × Unit) _ (fun y => y = (minL l, ()))
    simp only [all_leaf, all_fork, all_req, true_and, and_true, decide_eq_true_eq, decide_eq_false_iff_not]
    exact ⟨fun c => by omega, fun c => ⟨by omega, by omega, ⟨by omega, by omega, h2⟩, rfl⟩⟩
theorem M5_ok : M5.Sound := mkExM_sound ⟨pureSp_ok counts_ok, pureSp_ok contains_ok, pureSp_ok max_ok, pureSp_ok min_ok, trivial⟩
theorem lUn : LpsOK Try.prog Try.f13 [(0, LUn.sp)] := by
  refine .cons (LUn.sound M5_ok (lps := []) (n := 100) (inner rfl) (fun _ => rfl) ?_) .nil
  rintro ⟨l, m, i, u⟩ ⟨h1, h2, h3, h4, h5⟩
  simp only at h1 h2 h3 h4 h5
  have h4' : (m.length : Int) < 4611686018427387904 := h4
  rw [rUn]
  simp only [all_leaf, all_fork, all_req, true_and, and_true, decide_eq_true_eq, decide_eq_false_iff_not]
  refine ⟨fun c => ⟨⟨h1, c⟩, ⟨h1, c⟩, h4', fun d => ?_, fun d => ?_⟩, fun c => ?_⟩
  · rw [i64_inc (by omega) (by omega)]
    refine ⟨by omega, ⟨by dsimp only; omega, by dsimp only; omega, h3, h4, by simp; omega⟩, by simp only [LUn]; omega, ?_⟩
    simp only [LUn]; rw [drop_cons (l := l) 0 h1 c, unF, if_pos d]; simp
  · rw [i64_inc (by omega) (by omega)]
    refine ⟨⟨by dsimp only; omega, by dsimp only; omega, h3, h4, by dsimp only; omega⟩, by simp only [LUn]; omega, ?_⟩
    simp only [LUn]; rw [drop_cons (l := l) 0 h1 c, unF, if_neg (by rw [d]; decide)]
  · exact ⟨by rw [drop_end c]; simp [unF], trivial⟩
theorem cnF_range (l : List Int) : ∀ (c q : Nat) (o : List Int) (N : Int), (∀ x ∈ o, 0 ≤ x ∧ x ≤ N) → ∀ x ∈ cnF l c q o, 0 ≤ x ∧ x ≤ N + c
  | 0, _, o, N, h, x, hx => by have := h x hx; omega
  | c + 1, q, o, N, h, x, hx => by
    rw [cnF] at hx
    have := cnF_range l c (q + 1) _ (N + 1) (fun y hy => ?_) x hx
    · omega
    · split at hy
      · have := h y hy; omega
      · rename_i d
        rcases List.mem_or_eq_of_mem_set hy with e | e
        · have := h y e; omega
        · by_cases hi : (atS l (q : Int)).toNat < o.length
          · have := h _ (show o.getD (atS l (q : Int)).toNat 0 ∈ o by rw [getD_get 0 hi]; exact List.getElem_mem _)
            omega
          · rw [List.set_eq_of_length_le (by omega)] at hy
            have := h y hy; omega
theorem counts_range (l : List Int) : ∀ x ∈ countsS l, 0 ≤ x ∧ x ≤ 16 := fun x hx => by
  have := cnF_range l 16 0 (List.replicate 8 0) 0 (fun y hy => by rw [List.eq_of_mem_replicate hy]; omega) x hx
  omega
theorem unF_sub (m : List Int) : ∀ (c : List Int) (i : Int), ∀ x ∈ unF m c i, x ∈ c
  | [], _, _, hx => hx
  | y :: r, i, x, hx => by
    rw [unF] at hx
    split at hx
    · rcases List.mem_cons.1 hx with e | e
      · exact List.mem_cons.2 (.inl e)
      · exact List.mem_cons_of_mem _ (unF_sub m r _ x e)
    · exact List.mem_cons_of_mem _ (unF_sub m r _ x hx)
theorem unF_len (m : List Int) : ∀ (c : List Int) (i : Int), (unF m c i).length ≤ c.length
  | [], _ => Nat.le_refl _
  | y :: r, i => by
    have := unF_len m r (i + 1)
    rw [unF]; split
    · simp only [List.length_cons]; omega
    · simp only [List.length_cons]; omega
theorem mxF_mem : ∀ (l : List Int) (v : Int), mxF l v = v ∨ mxF l v ∈ l
  | [], _ => .inl rfl
  | x :: r, v => by
    rw [mxF]
    split
    · rcases mxF_mem r x with e | e
      · right; rw [e]; simp
      · right; simp [e]
    · rcases mxF_mem r v with e | e
      · left; exact e
      · right; simp [e]
theorem mnF_mem : ∀ (l : List Int) (v : Int), mnF l v = v ∨ mnF l v ∈ l
  | [], _ => .inl rfl
  | x :: r, v => by
    rw [mnF]
    split
    · rcases mnF_mem r x with e | e
      · right; rw [e]; simp
      · right; simp [e]
    · rcases mnF_mem r v with e | e
      · left; exact e
      · right; simp [e]
theorem getD0_mem {l : List Int} (h : l.length ≠ 0) : l.getD 0 0 ∈ l := by
  rw [getD_get 0 (by omega)]; exact List.getElem_mem _
theorem maxL_mem {l : List Int} (h : l.length ≠ 0) : maxL l ∈ l := by
  unfold maxL
  rcases mxF_mem (l.drop 1) (l.getD 0 0) with e | e
  · rw [e]; exact getD0_mem h
  · exact List.mem_of_mem_drop e
theorem minL_mem {l : List Int} (h : l.length ≠ 0) : minL l ∈ l := by
  unfold minL
  rcases mnF_mem (l.drop 1) (l.getD 0 0) with e | e
  · rw [e]; exact getD0_mem h
  · exact List.mem_of_mem_drop e
theorem uneven_ok : PureOK Try.prog 13 [ints, ints] [i64] (fun x => (List.length (α := Int) x.2.1 : Int) < big) (fun x => (unevenS x.1 x.2.1, ())) :=
  fn_pure (E := M5) (n := 100) M5_ok Try.func13 sbU lUn fun x h => by
    obtain ⟨l, m, _⟩ : List Int × List Int × Unit := x
    have h : (m.length : Int) < 4611686018427387904 := h
    refine Tree.all_eq (tUn l m) ?_
    show Tree.all (α := Int × Unit) _ (fun y => y = (unevenS l m, ()))
    have hc := counts_len l
    have hu := unF_len m (countsS l) 0
    simp only [all_leaf, all_fork, all_req, true_and, and_true, List.nil_append, List.drop_zero, beq_iff_eq, beq_eq_false_iff_ne, ne_eq]
    refine ⟨⟨by omega, by omega, hc, h, by omega⟩, fun c => ?_, fun c => ⟨by omega, by omega, ?_⟩⟩
    · unfold unevenS; rw [if_pos (by omega)]
    · have h0 : (unF m (countsS l) 0).length ≠ 0 := by omega
      have a1 := counts_range l _ (unF_sub m _ _ _ (maxL_mem h0))
      have a2 := counts_range l _ (unF_sub m _ _ _ (minL_mem h0))
      rw [IntWalk.i64_in (maxL (unF m (countsS l) 0) - minL (unF m (countsS l) 0)) (by omega)]
      unfold unevenS; rw [if_neg h0]
abbrev KsL : Nat × Sx.Spec := (12, pureSp [ints, i64] [i64] (fun _ => True) (fun x => (leastS x.1 x.2.1, ())))
abbrev KsC : Nat × Sx.Spec := (11, pureSp [ints] [ints] (fun _ => True) (fun x => (countsS x.1, ())))
abbrev KsU : Nat × Sx.Spec := (13, pureSp [ints, ints] [i64] (fun x => (List.length (α := Int) x.2.1 : Int) < big) (fun x => (unevenS x.1 x.2.1, ())))
noncomputable abbrev M7 : Ex := mkExM Try.prog [KsT, KsN, KsL]
theorem M7_ok : M7.Sound := mkExM_sound ⟨pureSp_ok text_ok, pureSp_ok next_ok, pureSp_ok least_ok, trivial⟩
theorem tAw  : @Eq _
  (fnT M7 [] 100 Try.f7 [] [.bool] ())
  (.req (True ∧ (true = true → conjP [True, true = true → conjP [True, true = true → conjP [True]]])) (
 .leaf ((true, ()))) : Tree (Bool × PUnit)) := by kernel_rfl
end Pl
namespace Pl
open Go Sx Go.Proofs Go.RowKit
theorem aw_ok : PureOK Try.prog 7 [] [.bool] (fun _ => True) (fun _ => (true, ())) :=
  fn_pure (E := M7) (n := 100) M7_ok Try.func7 sbAw .nil fun x _ => by
    refine Tree.all_eq tAw ?_
    show Tree.all (α := Bool × Unit) _ (fun y => y = (true, ()))
    simp only [all_leaf, all_req, true_and, implies_true, conjP]
abbrev KAw : Nat × Sx.Spec := (7, pureSp [] [.bool] (fun _ => True) (fun _ => (true, ())))
noncomputable abbrev M8 : Ex := mkExM Try.prog [KsT, KAw]
theorem M8_ok : M8.Sound := mkExM_sound ⟨pureSp_ok text_ok, pureSp_ok aw_ok, trivial⟩
structure ATx where
  a : List Int
  b : List Int
  x : ByteArray
  y : ByteArray
  p : Int
def LTx : LoopC ATx where
  n0 := 2
  det st := match rowS st 0 i64, rowS st 1 i64, strS st 5, strS st 6, intS st 31 with | some a, some b, some s0, some s1, some i2 => some ⟨a, b, s0, s1, i2⟩ | _, _, _, _, _ => none
  inv a := ⟨[(31, iv a.p), (6, .one (.str a.y)), (5, .one (.str a.x)), (0, .one (.row 0)), (1, .one (.row 1))],
    [(0, .ro i64 a.a), (1, .ro i64 a.b)], 2⟩
  ok a := 0 ≤ a.p ∧ a.p ≤ 16 ∧ a.x = txtB a.a ∧ a.y = txtB a.b
  mu a := 16 - a.p.toNat
  fin a := .leaf ⟨2, ⟨[], [], 2⟩⟩
theorem rTx (a b : List Int) (x y : ByteArray) (p : Int) : @Eq _
  (LTx.round M8 [] 100 Try.f3 0 ⟨a, b, x, y, p⟩)
  (.fork (decide (p < (16 : Int))) (
 .req (decide (p < (↑a.length : Int)) = true → conjP [(0 : Int) ≤ p ∧ p < (↑a.length : Int), (0 : Int) ≤ p ∧ p < (↑a.length : Int), decide (a.getD p.toNat (0 : Int) ≥ (0 : Int)) = true → conjP [(0 : Int) ≤ p ∧ p < (↑a.length : Int), (0 : Int) ≤ p ∧ p < (↑a.length : Int)]]) (
  .fork (decide (p < (↑a.length : Int)) && (decide (a.getD p.toNat (0 : Int) ≥ (0 : Int)) && decide (a.getD p.toNat (0 : Int) < (8 : Int)))) (
   .req ((0 : Int) ≤ p ∧ p < (↑a.length : Int)) (
    .req ((0 : Int) ≤ p ∧ p < (↑a.length : Int)) (
     .req (decide (p < (↑b.length : Int)) = true → conjP [(0 : Int) ≤ p ∧ p < (↑b.length : Int), (0 : Int) ≤ p ∧ p < (↑b.length : Int), decide (b.getD p.toNat (0 : Int) ≥ (0 : Int)) = true → conjP [(0 : Int) ≤ p ∧ p < (↑b.length : Int), (0 : Int) ≤ p ∧ p < (↑b.length : Int)]]) (
      .fork (decide (p < (↑b.length : Int)) && (decide (b.getD p.toNat (0 : Int) ≥ (0 : Int)) && decide (b.getD p.toNat (0 : Int) < (8 : Int)))) (
       .req ((0 : Int) ≤ p ∧ p < (↑b.length : Int)) (
        .req ((0 : Int) ≤ p ∧ p < (↑b.length : Int)) (
         .req (((0 : Int) ≤ p ∧ p < (↑x.1.1.length : Int)) ∧ ((0 : Int) ≤ p ∧ p < (↑y.1.1.length : Int)) ∧ ((!(byteAt x p == byteAt y p) == (a.getD p.toNat (0 : Int) == b.getD p.toNat (0 : Int))) = false → conjP [(0 : Int) ≤ p ∧ p < (↑x.1.1.length : Int)])) (
          .fork (!(byteAt x p == byteAt y p) == (a.getD p.toNat (0 : Int) == b.getD p.toNat (0 : Int)) || !(byteAt x p == (45 : Int)) == decide (a.getD p.toNat (0 : Int) < (0 : Int))) (
           .req (False) (
            .leaf (Option.none))) (
           .req (IntKind.i64.wrap (p + (1 : Int)) = IntKind.i64.wrap (p + (1 : Int)) ∧ y = y ∧ x = x ∧ a = a ∧ b = b) (
            .leaf (Option.some { a := a, b := b, x := x, y := y, p := IntKind.i64.wrap (p + (1 : Int)) }))))))) (
       .req (((0 : Int) ≤ p ∧ p < (↑x.1.1.length : Int)) ∧ ((0 : Int) ≤ p ∧ p < (↑y.1.1.length : Int)) ∧ ((!(byteAt x p == byteAt y p) == (a.getD p.toNat (0 : Int) == (-1 : Int))) = false → conjP [(0 : Int) ≤ p ∧ p < (↑x.1.1.length : Int)])) (
        .fork (!(byteAt x p == byteAt y p) == (a.getD p.toNat (0 : Int) == (-1 : Int)) || !(byteAt x p == (45 : Int)) == decide (a.getD p.toNat (0 : Int) < (0 : Int))) (
         .req (False) (
          .leaf (Option.none))) (
         .req (IntKind.i64.wrap (p + (1 : Int)) = IntKind.i64.wrap (p + (1 : Int)) ∧ y = y ∧ x = x ∧ a = a ∧ b = b) (
          .leaf (Option.some { a := a, b := b, x := x, y := y, p := IntKind.i64.wrap (p + (1 : Int)) }))))))))) (
   .req (decide (p < (↑b.length : Int)) = true → conjP [(0 : Int) ≤ p ∧ p < (↑b.length : Int), (0 : Int) ≤ p ∧ p < (↑b.length : Int), decide (b.getD p.toNat (0 : Int) ≥ (0 : Int)) = true → conjP [(0 : Int) ≤ p ∧ p < (↑b.length : Int), (0 : Int) ≤ p ∧ p < (↑b.length : Int)]]) (
    .fork (decide (p < (↑b.length : Int)) && (decide (b.getD p.toNat (0 : Int) ≥ (0 : Int)) && decide (b.getD p.toNat (0 : Int) < (8 : Int)))) (
     .req ((0 : Int) ≤ p ∧ p < (↑b.length : Int)) (
      .req ((0 : Int) ≤ p ∧ p < (↑b.length : Int)) (
       .req (((0 : Int) ≤ p ∧ p < (↑x.1.1.length : Int)) ∧ ((0 : Int) ≤ p ∧ p < (↑y.1.1.length : Int)) ∧ ((!(byteAt x p == byteAt y p) == ((-1 : Int) == b.getD p.toNat (0 : Int))) = false → conjP [(0 : Int) ≤ p ∧ p < (↑x.1.1.length : Int)])) (
        .fork (!(byteAt x p == byteAt y p) == ((-1 : Int) == b.getD p.toNat (0 : Int)) || !(byteAt x p == (45 : Int)) == true) (
         .req (False) (
          .leaf (Option.none))) (
         .req (IntKind.i64.wrap (p + (1 : Int)) = IntKind.i64.wrap (p + (1 : Int)) ∧ y = y ∧ x = x ∧ a = a ∧ b = b) (
          .leaf (Option.some { a := a, b := b, x := x, y := y, p := IntKind.i64.wrap (p + (1 : Int)) }))))))) (
     .req (((0 : Int) ≤ p ∧ p < (↑x.1.1.length : Int)) ∧ ((0 : Int) ≤ p ∧ p < (↑y.1.1.length : Int)) ∧ ((!(byteAt x p == byteAt y p) == true) = false → conjP [(0 : Int) ≤ p ∧ p < (↑x.1.1.length : Int)])) (
      .fork (!(byteAt x p == byteAt y p) == true || !(byteAt x p == (45 : Int)) == true) (
       .req (False) (
        .leaf (Option.none))) (
       .req (IntKind.i64.wrap (p + (1 : Int)) = IntKind.i64.wrap (p + (1 : Int)) ∧ y = y ∧ x = x ∧ a = a ∧ b = b) (
        .leaf (Option.some { a := a, b := b, x := x, y := y, p := IntKind.i64.wrap (p + (1 : Int)) }))))))))) (
 .req (True) (
  .leaf (Option.none))) : Tree (Option Pl.ATx)) := by kernel_rfl
theorem tTx (a b : List Int) : @Eq _
  (fnT M8 [(0, LTx.sp)] 100 Try.f3 [ints, ints] [.bool] (a, b, ()))
  (.req (True) (
 .fork (decide ((↑a.length : Int) > (100 : Int)) || decide ((↑b.length : Int) > (100 : Int))) (
  .req (True) (
   .leaf ((true, ())))) (
  .req (True) (
   .req (True) (
    .req (True) (
     .fork (false) (
      .leaf ((false, ()))) (
      .req ((0 : Int) ≤ (0 : Int) ∧ (0 : Int) ≤ (16 : Int) ∧ Pl.txtB a = Pl.txtB a ∧ Pl.txtB b = Pl.txtB b) (
       .req ((0 : Int) = (0 : Int) ∧ Pl.txtB b = Pl.txtB b ∧ Pl.txtB a = Pl.txtB a ∧ a = a ∧ b = b) (
        .req (True) (
         .leaf ((true, ()))))))))))) : Tree (Bool × PUnit)) := by kernel_rfl
end Pl
