import Derived.Test.YtofimljfdlnkgaaNeNeC
import Derived.Test.YtofimljfdlnkgaaSx32
import Derived.Laws.Strings
namespace Pl
open Go Sx Go.Proofs Go.RowKit
def zM : MsgD := (0, 0, 0, 0, 0, 0, 0, 0, ByteArray.empty, (List.replicate 8 0, []), (List.replicate 8 0, (0, 0, []), List.replicate 16 (0, 0)), [])
def takeF (o : List MsgD) (i : Int) : List MsgD × MsgD × Bool := if 0 ≤ i ∧ i < (o.length : Int) then (o.eraseIdx i.toNat, o.getD i.toNat zM, true) else (o, zM, false)
def atF (o : List MsgD) (i : Int) : List MsgD × MsgD × Bool := if 0 ≤ i ∧ i < (o.length : Int) then (o, o.getD i.toNat zM, true) else (o, zM, false)
abbrev netP : List MsgD → Prop := fun o => o.length ≤ 500 ∧ ∀ m ∈ o, okM m
theorem at_okN : MutOK true Try.prog 13 (.row MsgT) [i64] [MsgT, .bool] (fun x => netP x.1) (fun x => ((atF x.1 x.2.1).1, (atF x.1 x.2.1).2.1, (atF x.1 x.2.1).2.2, ())) :=
  fn_mut (E := n2) (n := 100) n2_ok Try.func13 (by kernel_rfl) .nil fun o x h => by
    obtain ⟨i, _⟩ : Int × Unit := x
    obtain ⟨h1, h2⟩ : List.length (α := MsgD) o ≤ 500 ∧ ∀ m ∈ (o : List MsgD), okM m := h
    refine Tree.all_eq (tAt o i) ?_
    show Tree.all _ fun y => y = ((atF o i).1, (atF o i).2.1, (atF o i).2.2, ())
    unfold atF
    by_cases c : 0 ≤ i ∧ i < (List.length (α := MsgD) o : Int)
    · have hlt : i.toNat < List.length (α := MsgD) o := by omega
      rw [if_pos c, getD_get _ hlt, getD_get _ hlt]
      have hm := h2 _ (List.getElem_mem hlt)
      generalize (o : List MsgD)[i.toNat] = C at *
      obtain ⟨m1, m2, m3, m4, m5, m6⟩ := id hm
      have e4 : ∀ z, tab 8 C.2.2.2.2.2.2.2.2.2.1.1 z = C.2.2.2.2.2.2.2.2.2.1.1 := fun z => tab_eq m4
      have e5 : ∀ z, tab 8 C.2.2.2.2.2.2.2.2.2.2.1.1 z = C.2.2.2.2.2.2.2.2.2.2.1.1 := fun z => tab_eq m5
      have e6 : ∀ z, tab 16 C.2.2.2.2.2.2.2.2.2.2.1.2.2 z = C.2.2.2.2.2.2.2.2.2.2.1.2.2 := fun z => tab_eq m6
      refine ⟨fun e => absurd (of_decide_eq_true e) (by omega), fun _ => ⟨fun e => absurd (of_decide_eq_true e) (by omega), fun _ => ⟨c, c, ?_, ?_⟩⟩⟩
      · rw [e4, e5, e6]; exact hm
      · erw [e4, e5, e6]; rfl
    · rw [if_neg c]
      refine ⟨fun _ => rfl, fun e => ⟨fun _ => rfl, fun e2 => ?_⟩⟩
      have e := of_decide_eq_false e
      have e2 := of_decide_eq_false e2
      exact absurd ⟨by omega, by omega⟩ c
theorem take_okN : MutOK true Try.prog 10 (.row MsgT) [i64] [MsgT, .bool] (fun x => netP x.1) (fun x => ((takeF x.1 x.2.1).1, (takeF x.1 x.2.1).2.1, (takeF x.1 x.2.1).2.2, ())) :=
  fn_mut (E := n4) (n := 100) n4_ok Try.func10 (by kernel_rfl) .nil fun o x h => by
    obtain ⟨i, _⟩ : Int × Unit := x
    obtain ⟨h1, h2⟩ : List.length (α := MsgD) o ≤ 500 ∧ ∀ m ∈ (o : List MsgD), okM m := h
    refine Tree.all_eq (tTk o i) ?_
    show Tree.all _ fun y => y = ((takeF o i).1, (takeF o i).2.1, (takeF o i).2.2, ())
    unfold takeF
    by_cases c : 0 ≤ i ∧ i < (List.length (α := MsgD) o : Int)
    · have hlt : i.toNat < List.length (α := MsgD) o := by omega
      rw [if_pos c, getD_get _ hlt, getD_get _ hlt]
      have hm := h2 _ (List.getElem_mem hlt)
      generalize (o : List MsgD)[i.toNat] = C at *
      obtain ⟨m1, m2, m3, m4, m5, m6⟩ := id hm
      have e4 : ∀ z, tab 8 C.2.2.2.2.2.2.2.2.2.1.1 z = C.2.2.2.2.2.2.2.2.2.1.1 := fun z => tab_eq m4
      have e5 : ∀ z, tab 8 C.2.2.2.2.2.2.2.2.2.2.1.1 z = C.2.2.2.2.2.2.2.2.2.2.1.1 := fun z => tab_eq m5
      have e6 : ∀ z, tab 16 C.2.2.2.2.2.2.2.2.2.2.1.2.2 z = C.2.2.2.2.2.2.2.2.2.2.1.2.2 := fun z => tab_eq m6
      rw [IntWalk.i64_in (i + 1) (by omega), show (i + 1).toNat = i.toNat + 1 by omega]
      have hk : i = ((i.toNat : Nat) : Int) := by omega
      generalize i.toNat = k at *
      have hlen : ((List.length (α := MsgD) o : Nat) : Int).toNat = List.length (α := MsgD) o := Int.toNat_natCast _
      rw [hlen]
      have hN : k - 0 + (List.length (α := MsgD) o - (k + 1)) = List.length (α := MsgD) o - 1 := by omega
      rw [hN]
      have hE : List.take (k - 0) o ++ List.drop (k + 1) o = List.eraseIdx (α := MsgD) o k := by rw [Nat.sub_zero, List.eraseIdx_eq_take_drop_succ]
      rw [hE]
      have hEl : (List.eraseIdx (α := MsgD) o k).length = List.length (α := MsgD) o - 1 := by rw [List.length_eraseIdx, if_pos hlt]
      have hLl : (List.eraseIdx (α := MsgD) o k ++ List.drop (List.length (α := MsgD) o - 1) o).length = List.length (α := MsgD) o := by rw [List.length_append, hEl, List.length_drop]; omega
      rw [hLl, show min (List.length (α := MsgD) o - 1) (List.length (α := MsgD) o - 0) = List.length (α := MsgD) o - 1 by omega]
      refine ⟨fun e => absurd (of_decide_eq_true e) (by omega), fun _ => ⟨fun e => absurd (of_decide_eq_true e) (by omega), fun _ => ⟨c, c, ?_, ⟨by omega, by omega, by omega, by omega⟩, fun e => absurd (eq_of_beq e) (by omega), fun _ => ⟨⟨by omega, by omega, by omega⟩, ⟨by omega, by omega, by omega⟩, ⟨rfl, by omega, by omega⟩, ⟨by omega, by omega, by omega⟩, ?_, ?_⟩⟩⟩⟩
      · rw [e4, e5, e6]; exact hm
      · rw [Int.toNat_natCast]; omega
      · have hw : List.take (0 + ((List.length (α := MsgD) o - 1 : Nat) : Int).toNat) (List.eraseIdx (α := MsgD) o k ++ List.drop (List.length (α := MsgD) o - 1) o) = List.eraseIdx (α := MsgD) o k := by
          rw [Int.toNat_natCast, Nat.zero_add, List.take_left' hEl]
        rw [hw, List.drop_zero, List.append_assoc, List.take_left' hEl]
        erw [e4, e5, e6]; rfl
    · rw [if_neg c]
      refine ⟨fun _ => rfl, fun e => ⟨fun _ => rfl, fun e2 => ?_⟩⟩
      have e := of_decide_eq_false e
      have e2 := of_decide_eq_false e2
      exact absurd ⟨by omega, by omega⟩ c
end Pl
namespace Pl
open Go Sx Go.Proofs Go.RowKit
noncomputable abbrev KTkN : Nat × Sx.Spec := (10, mutSp true (.row MsgT) [i64] [MsgT, .bool] (fun x => netP x.1) (fun x => ((takeF x.1 x.2.1).1, (takeF x.1 x.2.1).2.1, (takeF x.1 x.2.1).2.2, ())))
noncomputable abbrev KAtN : Nat × Sx.Spec := (13, mutSp true (.row MsgT) [i64] [MsgT, .bool] (fun x => netP x.1) (fun x => ((atF x.1 x.2.1).1, (atF x.1 x.2.1).2.1, (atF x.1 x.2.1).2.2, ())))
noncomputable abbrev KNn : Nat × Sx.Spec := (7, fnI E0 [] 100 Try.f7)
noncomputable abbrev n5 : Ex := mkExM Try.prog [KNn, KSd, KTkN, KAtN, KLn]
theorem n5_ok : n5.Sound := mkExM_sound ⟨fnI_ok (E := E0) E0_ok Try.func7 (by kernel_rfl) .nil, mutSp_ok send_ok, mutSp_ok take_okN, mutSp_ok at_okN, fnI_ok (E := E0) E0_ok Try.func9 (by kernel_rfl) .nil, trivial⟩
theorem tAwN  : @Eq _
  (cutT <| fnT n5 [] 100 Try.f11 [] [.bool] ())
  (.req (0 ≤ 500 ∧ (2 : Int) < (4611686018427387904 : Int) ∧ ∀ (m : TD Pl.MsgT), m ∈ [((1 : Int), (0 : Int), (0 : Int), (0 : Int), (0 : Int), (0 : Int), (0 : Int), (0 : Int), { data := { toList := ([] : List UInt8) } }, (List.replicate 8 (0 : Int), ([] : List ((Int × Int) × ByteArray))), (List.replicate 8 (0 : Int), ((0 : Int), (0 : Int), ([] : List Int)), List.replicate 16 ((0 : Int), (0 : Int))), ([] : List (Int × Int × Int))), ((2 : Int), (0 : Int), (0 : Int), (0 : Int), (0 : Int), (0 : Int), (0 : Int), (0 : Int), { data := { toList := ([] : List UInt8) } }, (List.replicate 8 (0 : Int), ([] : List ((Int × Int) × ByteArray))), (List.replicate 8 (0 : Int), ((0 : Int), (0 : Int), ([] : List Int)), List.replicate 16 ((0 : Int), (0 : Int))), ([] : List (Int × Int × Int)))] → Pl.okM m) (
 .req (2 ≤ 500 ∧ ∀ (m : Pl.MsgD), m ∈ [((1 : Int), (0 : Int), (0 : Int), (0 : Int), (0 : Int), (0 : Int), (0 : Int), (0 : Int), { data := { toList := ([] : List UInt8) } }, (List.replicate 8 (0 : Int), ([] : List ((Int × Int) × ByteArray))), (List.replicate 8 (0 : Int), ((0 : Int), (0 : Int), ([] : List Int)), List.replicate 16 ((0 : Int), (0 : Int))), ([] : List (Int × Int × Int))), ((2 : Int), (0 : Int), (0 : Int), (0 : Int), (0 : Int), (0 : Int), (0 : Int), (0 : Int), { data := { toList := ([] : List UInt8) } }, (List.replicate 8 (0 : Int), ([] : List ((Int × Int) × ByteArray))), (List.replicate 8 (0 : Int), ((0 : Int), (0 : Int), ([] : List Int)), List.replicate 16 ((0 : Int), (0 : Int))), ([] : List (Int × Int × Int)))] → Pl.okM m) (
  .req (1 ≤ 500 ∧ ∀ (m : Pl.MsgD), m ∈ [((2 : Int), (0 : Int), (0 : Int), (0 : Int), (0 : Int), (0 : Int), (0 : Int), (0 : Int), { data := { toList := ([] : List UInt8) } }, (List.replicate 8 (0 : Int), ([] : List ((Int × Int) × ByteArray))), (List.replicate 8 (0 : Int), ((0 : Int), (0 : Int), ([] : List Int)), List.replicate 16 ((0 : Int), (0 : Int))), ([] : List (Int × Int × Int)))] → Pl.okM m) (
   .leaf ((true, ()))))) : Tree (Bool × PUnit)) := by kernel_rfl
def mkM (k s : Int) : MsgD := (k, 0, 0, s, 0, 0, 0, 0, ByteArray.empty, (List.replicate 8 0, []), (List.replicate 8 0, (0, 0, []), List.replicate 16 (0, 0)), [])
theorem okM_mk (k s : Int) : okM (mkM k s) := ⟨Nat.zero_le _, Nat.zero_le _, Nat.zero_le _, rfl, rfl, rfl⟩
theorem okM_all {l : List MsgD} (h : ∀ m ∈ l, ∃ k s, m = mkM k s) : ∀ m ∈ l, okM m := fun m hm => by obtain ⟨k, s, rfl⟩ := h m hm; exact okM_mk k s
theorem aw_okN : PureOK Try.prog 11 [] [.bool] (fun _ => True) (fun _ => (true, ())) :=
  fn_pure (E := n5) (n := 100) n5_ok Try.func11 (by kernel_rfl) .nil fun x _ => by
    refine cut_all (Tree.all_eq tAwN ?_)
    have h2 : ∀ m ∈ [mkM 1 0, mkM 2 0], okM m := fun m hm => by
      simp only [List.mem_cons, List.not_mem_nil, or_false] at hm
      rcases hm with rfl | rfl <;> exact okM_mk _ _
    have h1 : ∀ m ∈ [mkM 2 0], okM m := fun m hm => by
      simp only [List.mem_cons, List.not_mem_nil, or_false] at hm
      subst hm; exact okM_mk _ _
    exact ⟨⟨by decide, by decide, h2⟩, ⟨by decide, h2⟩, ⟨by decide, h1⟩, rfl⟩
abbrev KAwN : Nat × Sx.Spec := (11, pureSp [] [.bool] (fun _ => True) (fun _ => (true, ())))
noncomputable abbrev n6 : Ex := mkExM Try.prog [KNn, KSd, KTkN, KAtN, KLn, KAwN]
theorem n6_ok : n6.Sound := mkExM_sound ⟨fnI_ok (E := E0) E0_ok Try.func7 (by kernel_rfl) .nil, mutSp_ok send_ok, mutSp_ok take_okN, mutSp_ok at_okN, fnI_ok (E := E0) E0_ok Try.func9 (by kernel_rfl) .nil, pureSp_ok aw_okN, trivial⟩
end Pl
namespace Pl
open Go Sx Go.Proofs Go.RowKit
abbrev bags : Ty := .slice BagT
abbrev ValD : Type := TD ValT
abbrev BagD : Type := TD BagT
def hvV : List ValD → Int → Int
  | [], n => n
  | v :: r, n => hvV r (IntKind.i64.wrap (n + IntKind.i64.wrap (1 + IntKind.i64.wrap (((v.2.data.toList.length : Nat) : Int).tdiv 100))))
def hvB : List BagD → Int → Int
  | [], _ => 0
  | b :: r, i => if hvV b.2 0 > 100 then IntKind.i64.wrap (i + 1) else hvB r (i + 1)
structure AHa where
  l : List BagD
  i : Int
def LHa : LoopC AHa where
  n0 := 1
  det st := match rowS st 8 BagT, intS st 10 with | some l, some i => some ⟨l, i⟩ | _, _ => none
  inv a := ⟨[(10, iv a.i), (9, iv (↑a.l.length : Int)), (8, .one (.row 0))],
    [(0, Gb.ro BagT a.l)], 1⟩
  ok a := 0 ≤ a.i ∧ a.i ≤ a.l.length ∧ (a.l.length : Int) < big ∧ ∀ b ∈ a.l, (List.length (α := ValD) b.2 : Int) ≤ 9223372036854775807
  mu a := a.l.length - a.i.toNat
  fin a := .fork (decide (hvB (a.l.drop a.i.toNat) a.i = 0)) (.leaf ⟨2, ⟨[], [], 1⟩⟩) (.leaf ⟨1, ⟨[(2, iv (hvB (a.l.drop a.i.toNat) a.i))], [], 1⟩⟩)
structure AHb where
  l : List BagD
  i : Int
  v : List ValD
  k : Int
  n : Int
def LHb : LoopC AHb where
  n0 := 3
  det st := match rowS st 8 BagT, intS st 3, rowS st 16 ValT, intS st 18, intS st 5 with | some l, some i, some v, some k, some n => some ⟨l, i, v, k, n⟩ | _, _, _, _, _ => none
  inv a := ⟨[(18, iv a.k), (17, iv (↑a.v.length : Int)), (16, .one (.row 1)), (5, iv a.n), (3, iv a.i), (10, iv a.i), (9, iv (↑a.l.length : Int)), (8, .one (.row 0))],
    [(1, Gb.ro ValT a.v), (0, Gb.ro BagT a.l)], 3⟩
  ok a := 0 ≤ a.k ∧ a.k ≤ a.v.length ∧ (a.v.length : Int) ≤ 9223372036854775807
  mu a := a.v.length - a.k.toNat
  fin a := .leaf ⟨4, ⟨[(5, iv (hvV (a.v.drop a.k.toNat) a.n)), (3, iv a.i), (10, iv a.i), (9, iv (↑a.l.length : Int)), (8, .one (.row 0))],
    [(0, Gb.ro BagT a.l)], 3⟩⟩
theorem rHb (l : List BagD) (i : Int) (v : List ValD) (k n : Int) : @Eq _
  (LHb.round E0 [] 100 Try.f25 1 ⟨l, i, v, k, n⟩)
  (.fork (decide (k < (↑v.length : Int))) (
 .req ((0 : Int) ≤ k ∧ k < (↑v.length : Int)) (
  .req ((0 : Int) ≤ k ∧ k < (↑v.length : Int)) (
   .req ((100 : Int) ≠ (0 : Int)) (
    .req (IntKind.i64.wrap (k + (1 : Int)) = IntKind.i64.wrap (k + (1 : Int)) ∧ (↑v.length : Int) = (↑v.length : Int) ∧ IntKind.i64.wrap (n + IntKind.i64.wrap ((1 : Int) + IntKind.i64.wrap ((↑(v.getD k.toNat (((0 : Int), (0 : Int)), { data := { toList := ([] : List UInt8) } })).2.1.1.length : Int).tdiv (100 : Int)))) = IntKind.i64.wrap (n + IntKind.i64.wrap ((1 : Int) + IntKind.i64.wrap ((↑(v.getD k.toNat (((0 : Int), (0 : Int)), { data := { toList := ([] : List UInt8) } })).2.1.1.length : Int).tdiv (100 : Int)))) ∧ i = i ∧ i = i ∧ (↑l.length : Int) = (↑l.length : Int) ∧ v = v ∧ l = l) (
     .leaf (Option.some { l := l, i := i, v := v, k := IntKind.i64.wrap (k + (1 : Int)), n := IntKind.i64.wrap (n + IntKind.i64.wrap ((1 : Int) + IntKind.i64.wrap ((↑(v.getD k.toNat (((0 : Int), (0 : Int)), { data := { toList := ([] : List UInt8) } })).2.1.1.length : Int).tdiv (100 : Int)))) })))))) (
 .req (n = Pl.hvV (List.drop k.toNat v) n ∧ i = i ∧ i = i ∧ (↑l.length : Int) = (↑l.length : Int) ∧ l = l) (
  .leaf (Option.none))) : Tree (Option Pl.AHb)) := by kernel_rfl
noncomputable abbrev hbP : Nat × (St → Tree Out) := (1, LHb.sp)
theorem rHa (l : List BagD) (i : Int) : @Eq _
  (LHa.round E0 [hbP] 100 Try.f25 0 ⟨l, i⟩)
  (.fork (decide (i < (↑l.length : Int))) (
 .req ((0 : Int) ≤ i ∧ i < (↑l.length : Int)) (
  .req ((0 : Int) ≤ i ∧ i < (↑l.length : Int)) (
   .req ((0 : Int) ≤ (0 : Int) ∧ (0 : Int) ≤ (↑(l.getD i.toNat (List.replicate 8 (0 : Int), ([] : List ((Int × Int) × ByteArray)))).2.length : Int) ∧ (↑(l.getD i.toNat (List.replicate 8 (0 : Int), ([] : List ((Int × Int) × ByteArray)))).2.length : Int) ≤ (9223372036854775807 : Int)) (
    .req ((0 : Int) = (0 : Int) ∧ (↑(l.getD i.toNat (List.replicate 8 (0 : Int), ([] : List ((Int × Int) × ByteArray)))).2.length : Int) = (↑(l.getD i.toNat (List.replicate 8 (0 : Int), ([] : List ((Int × Int) × ByteArray)))).2.length : Int) ∧ (0 : Int) = (0 : Int) ∧ i = i ∧ i = i ∧ (↑l.length : Int) = (↑l.length : Int) ∧ (l.getD i.toNat (List.replicate 8 (0 : Int), ([] : List ((Int × Int) × ByteArray)))).2 = (l.getD i.toNat (List.replicate 8 (0 : Int), ([] : List ((Int × Int) × ByteArray)))).2 ∧ l = l) (
     .fork (decide (Pl.hvV (List.drop 0 (l.getD i.toNat (List.replicate 8 (0 : Int), ([] : List ((Int × Int) × ByteArray)))).2) (0 : Int) > (100 : Int))) (
      .fork (decide (Pl.hvB (List.drop i.toNat l) i = (0 : Int))) (
       .req (False) (
        .leaf (Option.none))) (
       .req (IntKind.i64.wrap (i + (1 : Int)) = Pl.hvB (List.drop i.toNat l) i) (
        .leaf (Option.none)))) (
      .req (IntKind.i64.wrap (i + (1 : Int)) = IntKind.i64.wrap (i + (1 : Int)) ∧ (↑l.length : Int) = (↑l.length : Int) ∧ l = l) (
       .leaf (Option.some { l := l, i := IntKind.i64.wrap (i + (1 : Int)) })))))))) (
 .fork (decide (Pl.hvB (List.drop i.toNat l) i = (0 : Int))) (
  .req (True) (
   .leaf (Option.none))) (
  .req (False) (
   .leaf (Option.none)))) : Tree (Option Pl.AHa)) := by kernel_rfl
noncomputable abbrev haP : Nat × (St → Tree Out) := (0, LHa.sp)
theorem tHw (l : List BagD) : @Eq _
  (fnT E0 [haP, hbP] 100 Try.f25 [bags] [i64] (l, ()))
  (.req ((0 : Int) ≤ (0 : Int) ∧ (0 : Int) ≤ (↑l.length : Int) ∧ (↑l.length : Int) < (4611686018427387904 : Int) ∧ ∀ (b : Pl.BagD), b ∈ l → (↑(List.length b.snd) : Int) ≤ (9223372036854775807 : Int)) (
 .req ((0 : Int) = (0 : Int) ∧ (↑l.length : Int) = (↑l.length : Int) ∧ l = l) (
  .fork (decide (Pl.hvB l (0 : Int) = (0 : Int))) (
   .leaf (((0 : Int), ()))) (
   .leaf ((Pl.hvB l (0 : Int), ()))))) : Tree (Int × PUnit)) := by kernel_rfl
end Pl
namespace Pl
open Go Sx Go.Proofs Go.RowKit
theorem lHb : LpsOK Try.prog Try.f25 [hbP] := by
  refine .cons (LHb.sound E0_ok (lps := []) (n := 100) (inner rfl) (fun _ => rfl) ?_) .nil
  rintro ⟨l, i, v, k, n⟩ ⟨h1, h2, h3⟩
  simp only at h1 h2 h3
  by_cases c : k < (v.length : Int)
  · have hlt : k.toNat < v.length := by omega
    have hd : v.drop k.toNat = v[k.toNat] :: v.drop (k + 1).toNat := by rw [List.drop_eq_getElem_cons hlt, show (k + 1).toNat = k.toNat + 1 by omega]
    rw [rHb, getD_get _ hlt, IntWalk.i64_in (k + 1) (by omega)]
    refine ⟨fun _ => ⟨⟨h1, c⟩, ⟨h1, c⟩, by decide, by repeat' (first | exact trivial | rfl | apply And.intro), ⟨by dsimp only; omega, by dsimp only; omega, h3⟩, by simp only [LHb]; omega, ?_⟩, fun e => absurd c (of_decide_eq_false e)⟩
    simp only [LHb]
    rw [hd, hvV]
  · rw [rHb]
    refine ⟨fun e => absurd (of_decide_eq_true e) c, fun _ => ⟨?_, trivial⟩⟩
    rw [drop_end c]
    repeat' (first | exact trivial | rfl | apply And.intro)
theorem hvB_ge : ∀ (l : List BagD) (i : Int), 0 ≤ i → i + l.length < 4611686018427387904 → 0 ≤ hvB l i
  | [], _, _, _ => by simp [hvB]
  | b :: r, i, h, g => by
    rw [List.length_cons] at g; push_cast at g
    rw [hvB]
    split
    · rw [IntWalk.i64_in (i + 1) (by omega)]; omega
    · exact hvB_ge r (i + 1) (by omega) (by omega)
theorem lHa : LpsOK Try.prog Try.f25 [haP, hbP] := by
  refine .cons (LHa.sound E0_ok (lps := [hbP]) (n := 100) (lHb.within (by kernel_rfl)) (fun _ => rfl) ?_) lHb
  rintro ⟨l, i⟩ ⟨h1, h2, h3, h4⟩
  simp only at h1 h2 h3 h4
  unfold big at h3
  by_cases c : i < (l.length : Int)
  · have hlt : i.toNat < l.length := by omega
    have hd : l.drop i.toNat = l[i.toNat] :: l.drop (i + 1).toNat := by rw [List.drop_eq_getElem_cons hlt, show (i + 1).toNat = i.toNat + 1 by omega]
    have hm := h4 _ (List.getElem_mem hlt)
    rw [rHa, getD_get _ hlt, hd, IntWalk.i64_in (i + 1) (by omega)]
    generalize l[i.toNat] = b at *
    rw [List.drop_zero]
    refine ⟨fun _ => ⟨⟨h1, c⟩, ⟨h1, c⟩, ⟨by omega, by omega, hm⟩, by repeat' (first | exact trivial | rfl | apply And.intro), fun e => ⟨fun e2 => ?_, fun _ => ⟨?_, trivial⟩⟩, fun e => ⟨by repeat' (first | exact trivial | rfl | apply And.intro), ?_⟩⟩, fun e => absurd c (of_decide_eq_false e)⟩
    · exfalso
      have e2 := of_decide_eq_true e2
      rw [hvB, if_pos (of_decide_eq_true e), IntWalk.i64_in (i + 1) (by omega)] at e2
      omega
    · rw [hvB, if_pos (of_decide_eq_true e), IntWalk.i64_in (i + 1) (by omega)]
    · refine ⟨⟨by dsimp only; omega, by dsimp only; omega, by dsimp only; unfold big; exact h3, h4⟩, by simp only [LHa]; omega, ?_⟩
      simp only [LHa]
      rw [hd, hvB, if_neg (of_decide_eq_false e)]
  · rw [rHa, drop_end c]
    exact ⟨fun e => absurd (of_decide_eq_true e) c, fun _ => ⟨fun _ => ⟨trivial, trivial⟩, fun e => by simp [hvB] at e⟩⟩
theorem heavy14_ok : PureOK Try.prog 25 [bags] [i64] (fun x => (List.length (α := BagD) x.1 : Int) < big ∧ ∀ b ∈ (x.1 : List BagD), (List.length (α := ValD) b.2 : Int) ≤ 9223372036854775807) (fun x => (hvB x.1 0, ())) :=
  fn_pure (E := E0) (n := 100) E0_ok Try.func25 (by kernel_rfl) lHa fun x h => by
    obtain ⟨l, _⟩ : List BagD × Unit := x
    refine Tree.all_eq (tHw l) ?_
    refine ⟨⟨by omega, by omega, h.1, h.2⟩, by repeat' (first | exact trivial | rfl | apply And.intro), fun c => ?_, fun c => rfl⟩
    have c := of_decide_eq_true c
    show (0, ()) = (hvB l 0, ())
    rw [c]
end Pl
namespace Pl
open Go Sx Go.Proofs Go.RowKit
abbrev KHb : Nat × Sx.Spec := (25, pureSp [bags] [i64] (fun x => (List.length (α := BagD) x.1 : Int) < big ∧ ∀ b ∈ (x.1 : List BagD), (List.length (α := ValD) b.2 : Int) ≤ 9223372036854775807) (fun x => (hvB x.1 0, ())))
noncomputable abbrev k0 : Ex := mkExM Try.prog [KHb, (26, fnI E0 [] 100 Try.f26)]
theorem k0_ok : k0.Sound := mkExM_sound ⟨pureSp_ok heavy14_ok, fnI_ok (E := E0) E0_ok Try.func26 (by kernel_rfl) .nil, trivial⟩
theorem tHm (m : MsgD) : @Eq _
  (fnT k0 [] 100 Try.f18 [MsgT] [i64] (m, ()))
  (.req (True) (
 .fork (decide ((↑m.2.2.2.2.2.2.2.2.1.1.1.length : Int) > (200 : Int)) || decide ((↑(List.length m.2.2.2.2.2.2.2.2.2.2.2) : Int) > (20 : Int))) (
  .leaf (((1 : Int), ()))) (
  .req ((1 : Int) < (4611686018427387904 : Int) ∧ ∀ (b : TD Pl.BagT), b ∈ [(tab 8 m.2.2.2.2.2.2.2.2.2.1.1 (0 : Int), m.2.2.2.2.2.2.2.2.2.1.2)] → (↑(List.length b.snd) : Int) ≤ (9223372036854775807 : Int)) (
   .fork (decide ((↑(List.length m.2.2.2.2.2.2.2.2.2.2.1.2.1.2.2) : Int) > (100 : Int))) (
    .leaf ((IntKind.i64.wrap (Pl.hvB [(tab 8 m.2.2.2.2.2.2.2.2.2.1.1 (0 : Int), m.2.2.2.2.2.2.2.2.2.1.2)] (0 : Int) + (1 : Int)), ()))) (
    .leaf ((IntKind.i64.wrap (Pl.hvB [(tab 8 m.2.2.2.2.2.2.2.2.2.1.1 (0 : Int), m.2.2.2.2.2.2.2.2.2.1.2)] (0 : Int) + (0 : Int)), ())))))) : Tree (Int × PUnit)) := by kernel_rfl
end Pl
namespace Pl
open Go Sx Go.Proofs Go.RowKit
def hvM (m : MsgD) : Int := if (decide (((m.2.2.2.2.2.2.2.2.1.data.toList.length : Nat) : Int) > 200) || decide (((List.length (α := TD Cl3) m.2.2.2.2.2.2.2.2.2.2.2 : Nat) : Int) > 20)) = true then 1 else
  if ((List.length (α := Int) m.2.2.2.2.2.2.2.2.2.2.1.2.1.2.2 : Nat) : Int) > 100 then IntKind.i64.wrap (hvB [m.2.2.2.2.2.2.2.2.2.1] 0 + 1) else IntKind.i64.wrap (hvB [m.2.2.2.2.2.2.2.2.2.1] 0 + 0)
def inM (m : MsgD) : Prop := List.length (α := Int) m.2.2.2.2.2.2.2.2.2.1.1 = 8 ∧ (List.length (α := ValD) m.2.2.2.2.2.2.2.2.2.1.2 : Int) ≤ 9223372036854775807 ∧ List.length (α := Int) m.2.2.2.2.2.2.2.2.2.2.1.1 = 8 ∧ List.length (α := Int × Int) m.2.2.2.2.2.2.2.2.2.2.1.2.2 = 16
theorem heavy23_ok : PureOK Try.prog 18 [MsgT] [i64] (fun x => inM x.1) (fun x => (hvM x.1, ())) :=
  fn_pure (E := k0) (n := 100) k0_ok Try.func18 (by kernel_rfl) .nil fun x h => by
    obtain ⟨m, _⟩ : MsgD × Unit := x
    obtain ⟨h1, h2, _⟩ : inM m := h
    refine Tree.all_eq (tHm m) ?_
    rw [tab_eq h1]
    refine ⟨trivial, fun c => ?_, fun c => ⟨⟨by decide, fun b hb => ?_⟩, fun e => ?_, fun e => ?_⟩⟩
    · show (1, ()) = (hvM m, ())
      unfold hvM
      rw [if_pos c]
    · have hb : b = _ := List.mem_singleton.1 hb
      rw [hb]; exact h2
    · show (_, ()) = (hvM m, ())
      unfold hvM
      rw [if_neg (by rw [c]; decide), if_pos (of_decide_eq_true e)]
    · show (_, ()) = (hvM m, ())
      unfold hvM
      rw [if_neg (by rw [c]; decide), if_neg (of_decide_eq_false e)]
end Pl
namespace Pl
open Go Sx Go.Proofs Go.RowKit
abbrev CallN : Ty := .cat i64 (.cat i64 msgs)
abbrev CallND : Type := TD CallN
abbrev callsN : Ty := .slice CallN
def lgI : List MsgD → Int → Option Int
  | [], n => some n
  | m :: r, n => if n + 1 > 1000 ∨ hvM m > 0 then none else lgI r (n + 1)
def lgL : List CallND → Int → Int → Bool
  | [], _, _ => true
  | c :: r, i, n => match lgI c.2.2 n with
    | none => false
    | some n' => if i ≥ 60 then false else lgL r (i + 1) n'
abbrev KHm : Nat × Sx.Spec := (18, pureSp [MsgT] [i64] (fun x => inM x.1) (fun x => (hvM x.1, ())))
noncomputable abbrev k1 : Ex := mkExM Try.prog [KHm]
theorem k1_ok : k1.Sound := mkExM_sound ⟨pureSp_ok heavy23_ok, trivial⟩
structure AJa where
  l : List CallND
  i : Int
  n : Int
def LJa : LoopC AJa where
  n0 := 1
  det st := match rowS st 8 CallN, intS st 10, intS st 3 with | some l, some i, some n => some ⟨l, i, n⟩ | _, _, _ => none
  inv a := ⟨[(10, iv a.i), (9, iv (↑a.l.length : Int)), (8, .one (.row 0)), (3, iv a.n)],
    [(0, Gb.ro CallN a.l)], 1⟩
  ok a := 0 ≤ a.i ∧ a.i ≤ a.l.length ∧ a.i ≤ 60 ∧ 0 ≤ a.n ∧ a.n ≤ 1000 ∧ ∀ c ∈ a.l, ∀ m ∈ c.2.2, inM m
  mu a := a.l.length - a.i.toNat
  fin a := .fork (lgL (a.l.drop a.i.toNat) a.i a.n) (.leaf ⟨2, ⟨[], [], 1⟩⟩) (.leaf ⟨1, ⟨[(2, .one (.cbool false))], [], 1⟩⟩)
structure AJb where
  l : List CallND
  i : Int
  v : List MsgD
  k : Int
  n : Int
def LJb : LoopC AJb where
  n0 := 3
  det st := match rowS st 8 CallN, intS st 4, rowS st 16 MsgT, intS st 18, intS st 3 with | some l, some i, some v, some k, some n => some ⟨l, i, v, k, n⟩ | _, _, _, _, _ => none
  inv a := ⟨[(18, iv a.k), (17, iv (↑a.v.length : Int)), (16, .one (.row 1)), (4, iv a.i), (10, iv a.i), (9, iv (↑a.l.length : Int)), (8, .one (.row 0)), (3, iv a.n)],
    [(1, Gb.ro MsgT a.v), (0, Gb.ro CallN a.l)], 3⟩
  ok a := 0 ≤ a.k ∧ a.k ≤ a.v.length ∧ a.k ≤ a.n ∧ 0 ≤ a.n ∧ a.n ≤ 1000 ∧ ∀ m ∈ a.v, inM m
  mu a := a.v.length - a.k.toNat
  fin a := .fork (lgI (a.v.drop a.k.toNat) a.n).isSome (.leaf ⟨4, ⟨[(4, iv a.i), (10, iv a.i), (9, iv (↑a.l.length : Int)), (8, .one (.row 0)), (3, iv ((lgI (a.v.drop a.k.toNat) a.n).getD 0))], [(0, Gb.ro CallN a.l)], 3⟩⟩) (.leaf ⟨1, ⟨[(2, .one (.cbool false))], [], 3⟩⟩)
theorem rJb (l : List CallND) (i : Int) (v : List MsgD) (k n : Int) : @Eq _
  (LJb.round k1 [] 100 Try.f14 1 ⟨l, i, v, k, n⟩)
  (.fork (decide (k < (↑v.length : Int))) (
 .req ((0 : Int) ≤ k ∧ k < (↑v.length : Int)) (
  .req ((0 : Int) ≤ k ∧ k < (↑v.length : Int)) (
   .req (decide (IntKind.i64.wrap (n + (1 : Int)) > (1000 : Int)) = false → conjP [Pl.inM ((v.getD k.toNat ((0 : Int), (0 : Int), (0 : Int), (0 : Int), (0 : Int), (0 : Int), (0 : Int), (0 : Int), { data := { toList := ([] : List UInt8) } }, (List.replicate 8 (0 : Int), ([] : List ((Int × Int) × ByteArray))), (List.replicate 8 (0 : Int), ((0 : Int), (0 : Int), ([] : List Int)), List.replicate 16 ((0 : Int), (0 : Int))), ([] : List (Int × Int × Int)))).1, (v.getD k.toNat ((0 : Int), (0 : Int), (0 : Int), (0 : Int), (0 : Int), (0 : Int), (0 : Int), (0 : Int), { data := { toList := ([] : List UInt8) } }, (List.replicate 8 (0 : Int), ([] : List ((Int × Int) × ByteArray))), (List.replicate 8 (0 : Int), ((0 : Int), (0 : Int), ([] : List Int)), List.replicate 16 ((0 : Int), (0 : Int))), ([] : List (Int × Int × Int)))).2.1, (v.getD k.toNat ((0 : Int), (0 : Int), (0 : Int), (0 : Int), (0 : Int), (0 : Int), (0 : Int), (0 : Int), { data := { toList := ([] : List UInt8) } }, (List.replicate 8 (0 : Int), ([] : List ((Int × Int) × ByteArray))), (List.replicate 8 (0 : Int), ((0 : Int), (0 : Int), ([] : List Int)), List.replicate 16 ((0 : Int), (0 : Int))), ([] : List (Int × Int × Int)))).2.2.1, (v.getD k.toNat ((0 : Int), (0 : Int), (0 : Int), (0 : Int), (0 : Int), (0 : Int), (0 : Int), (0 : Int), { data := { toList := ([] : List UInt8) } }, (List.replicate 8 (0 : Int), ([] : List ((Int × Int) × ByteArray))), (List.replicate 8 (0 : Int), ((0 : Int), (0 : Int), ([] : List Int)), List.replicate 16 ((0 : Int), (0 : Int))), ([] : List (Int × Int × Int)))).2.2.2.1, (v.getD k.toNat ((0 : Int), (0 : Int), (0 : Int), (0 : Int), (0 : Int), (0 : Int), (0 : Int), (0 : Int), { data := { toList := ([] : List UInt8) } }, (List.replicate 8 (0 : Int), ([] : List ((Int × Int) × ByteArray))), (List.replicate 8 (0 : Int), ((0 : Int), (0 : Int), ([] : List Int)), List.replicate 16 ((0 : Int), (0 : Int))), ([] : List (Int × Int × Int)))).2.2.2.2.1, (v.getD k.toNat ((0 : Int), (0 : Int), (0 : Int), (0 : Int), (0 : Int), (0 : Int), (0 : Int), (0 : Int), { data := { toList := ([] : List UInt8) } }, (List.replicate 8 (0 : Int), ([] : List ((Int × Int) × ByteArray))), (List.replicate 8 (0 : Int), ((0 : Int), (0 : Int), ([] : List Int)), List.replicate 16 ((0 : Int), (0 : Int))), ([] : List (Int × Int × Int)))).2.2.2.2.2.1, (v.getD k.toNat ((0 : Int), (0 : Int), (0 : Int), (0 : Int), (0 : Int), (0 : Int), (0 : Int), (0 : Int), { data := { toList := ([] : List UInt8) } }, (List.replicate 8 (0 : Int), ([] : List ((Int × Int) × ByteArray))), (List.replicate 8 (0 : Int), ((0 : Int), (0 : Int), ([] : List Int)), List.replicate 16 ((0 : Int), (0 : Int))), ([] : List (Int × Int × Int)))).2.2.2.2.2.2.1, (v.getD k.toNat ((0 : Int), (0 : Int), (0 : Int), (0 : Int), (0 : Int), (0 : Int), (0 : Int), (0 : Int), { data := { toList := ([] : List UInt8) } }, (List.replicate 8 (0 : Int), ([] : List ((Int × Int) × ByteArray))), (List.replicate 8 (0 : Int), ((0 : Int), (0 : Int), ([] : List Int)), List.replicate 16 ((0 : Int), (0 : Int))), ([] : List (Int × Int × Int)))).2.2.2.2.2.2.2.1, (v.getD k.toNat ((0 : Int), (0 : Int), (0 : Int), (0 : Int), (0 : Int), (0 : Int), (0 : Int), (0 : Int), { data := { toList := ([] : List UInt8) } }, (List.replicate 8 (0 : Int), ([] : List ((Int × Int) × ByteArray))), (List.replicate 8 (0 : Int), ((0 : Int), (0 : Int), ([] : List Int)), List.replicate 16 ((0 : Int), (0 : Int))), ([] : List (Int × Int × Int)))).2.2.2.2.2.2.2.2.1, (tab 8 (v.getD k.toNat ((0 : Int), (0 : Int), (0 : Int), (0 : Int), (0 : Int), (0 : Int), (0 : Int), (0 : Int), { data := { toList := ([] : List UInt8) } }, (List.replicate 8 (0 : Int), ([] : List ((Int × Int) × ByteArray))), (List.replicate 8 (0 : Int), ((0 : Int), (0 : Int), ([] : List Int)), List.replicate 16 ((0 : Int), (0 : Int))), ([] : List (Int × Int × Int)))).2.2.2.2.2.2.2.2.2.1.1 (0 : Int), (v.getD k.toNat ((0 : Int), (0 : Int), (0 : Int), (0 : Int), (0 : Int), (0 : Int), (0 : Int), (0 : Int), { data := { toList := ([] : List UInt8) } }, (List.replicate 8 (0 : Int), ([] : List ((Int × Int) × ByteArray))), (List.replicate 8 (0 : Int), ((0 : Int), (0 : Int), ([] : List Int)), List.replicate 16 ((0 : Int), (0 : Int))), ([] : List (Int × Int × Int)))).2.2.2.2.2.2.2.2.2.1.2), (tab 8 (v.getD k.toNat ((0 : Int), (0 : Int), (0 : Int), (0 : Int), (0 : Int), (0 : Int), (0 : Int), (0 : Int), { data := { toList := ([] : List UInt8) } }, (List.replicate 8 (0 : Int), ([] : List ((Int × Int) × ByteArray))), (List.replicate 8 (0 : Int), ((0 : Int), (0 : Int), ([] : List Int)), List.replicate 16 ((0 : Int), (0 : Int))), ([] : List (Int × Int × Int)))).2.2.2.2.2.2.2.2.2.2.1.1 (0 : Int), (v.getD k.toNat ((0 : Int), (0 : Int), (0 : Int), (0 : Int), (0 : Int), (0 : Int), (0 : Int), (0 : Int), { data := { toList := ([] : List UInt8) } }, (List.replicate 8 (0 : Int), ([] : List ((Int × Int) × ByteArray))), (List.replicate 8 (0 : Int), ((0 : Int), (0 : Int), ([] : List Int)), List.replicate 16 ((0 : Int), (0 : Int))), ([] : List (Int × Int × Int)))).2.2.2.2.2.2.2.2.2.2.1.2.1, tab 16 (v.getD k.toNat ((0 : Int), (0 : Int), (0 : Int), (0 : Int), (0 : Int), (0 : Int), (0 : Int), (0 : Int), { data := { toList := ([] : List UInt8) } }, (List.replicate 8 (0 : Int), ([] : List ((Int × Int) × ByteArray))), (List.replicate 8 (0 : Int), ((0 : Int), (0 : Int), ([] : List Int)), List.replicate 16 ((0 : Int), (0 : Int))), ([] : List (Int × Int × Int)))).2.2.2.2.2.2.2.2.2.2.1.2.2 ((0 : Int), (0 : Int))), (v.getD k.toNat ((0 : Int), (0 : Int), (0 : Int), (0 : Int), (0 : Int), (0 : Int), (0 : Int), (0 : Int), { data := { toList := ([] : List UInt8) } }, (List.replicate 8 (0 : Int), ([] : List ((Int × Int) × ByteArray))), (List.replicate 8 (0 : Int), ((0 : Int), (0 : Int), ([] : List Int)), List.replicate 16 ((0 : Int), (0 : Int))), ([] : List (Int × Int × Int)))).2.2.2.2.2.2.2.2.2.2.2)]) (
    .fork (decide (IntKind.i64.wrap (n + (1 : Int)) > (1000 : Int)) || decide (Pl.hvM ((v.getD k.toNat ((0 : Int), (0 : Int), (0 : Int), (0 : Int), (0 : Int), (0 : Int), (0 : Int), (0 : Int), { data := { toList := ([] : List UInt8) } }, (List.replicate 8 (0 : Int), ([] : List ((Int × Int) × ByteArray))), (List.replicate 8 (0 : Int), ((0 : Int), (0 : Int), ([] : List Int)), List.replicate 16 ((0 : Int), (0 : Int))), ([] : List (Int × Int × Int)))).1, (v.getD k.toNat ((0 : Int), (0 : Int), (0 : Int), (0 : Int), (0 : Int), (0 : Int), (0 : Int), (0 : Int), { data := { toList := ([] : List UInt8) } }, (List.replicate 8 (0 : Int), ([] : List ((Int × Int) × ByteArray))), (List.replicate 8 (0 : Int), ((0 : Int), (0 : Int), ([] : List Int)), List.replicate 16 ((0 : Int), (0 : Int))), ([] : List (Int × Int × Int)))).2.1, (v.getD k.toNat ((0 : Int), (0 : Int), (0 : Int), (0 : Int), (0 : Int), (0 : Int), (0 : Int), (0 : Int), { data := { toList := ([] : List UInt8) } }, (List.replicate 8 (0 : Int), ([] : List ((Int × Int) × ByteArray))), (List.replicate 8 (0 : Int), ((0 : Int), (0 : Int), ([] : List Int)), List.replicate 16 ((0 : Int), (0 : Int))), ([] : List (Int × Int × Int)))).2.2.1, (v.getD k.toNat ((0 : Int), (0 : Int), (0 : Int), (0 : Int), (0 : Int), (0 : Int), (0 : Int), (0 : Int), { data := { toList := ([] : List UInt8) } }, (List.replicate 8 (0 : Int), ([] : List ((Int × Int) × ByteArray))), (List.replicate 8 (0 : Int), ((0 : Int), (0 : Int), ([] : List Int)), List.replicate 16 ((0 : Int), (0 : Int))), ([] : List (Int × Int × Int)))).2.2.2.1, (v.getD k.toNat ((0 : Int), (0 : Int), (0 : Int), (0 : Int), (0 : Int), (0 : Int), (0 : Int), (0 : Int), { data := { toList := ([] : List UInt8) } }, (List.replicate 8 (0 : Int), ([] : List ((Int × Int) × ByteArray))), (List.replicate 8 (0 : Int), ((0 : Int), (0 : Int), ([] : List Int)), List.replicate 16 ((0 : Int), (0 : Int))), ([] : List (Int × Int × Int)))).2.2.2.2.1, (v.getD k.toNat ((0 : Int), (0 : Int), (0 : Int), (0 : Int), (0 : Int), (0 : Int), (0 : Int), (0 : Int), { data := { toList := ([] : List UInt8) } }, (List.replicate 8 (0 : Int), ([] : List ((Int × Int) × ByteArray))), (List.replicate 8 (0 : Int), ((0 : Int), (0 : Int), ([] : List Int)), List.replicate 16 ((0 : Int), (0 : Int))), ([] : List (Int × Int × Int)))).2.2.2.2.2.1, (v.getD k.toNat ((0 : Int), (0 : Int), (0 : Int), (0 : Int), (0 : Int), (0 : Int), (0 : Int), (0 : Int), { data := { toList := ([] : List UInt8) } }, (List.replicate 8 (0 : Int), ([] : List ((Int × Int) × ByteArray))), (List.replicate 8 (0 : Int), ((0 : Int), (0 : Int), ([] : List Int)), List.replicate 16 ((0 : Int), (0 : Int))), ([] : List (Int × Int × Int)))).2.2.2.2.2.2.1, (v.getD k.toNat ((0 : Int), (0 : Int), (0 : Int), (0 : Int), (0 : Int), (0 : Int), (0 : Int), (0 : Int), { data := { toList := ([] : List UInt8) } }, (List.replicate 8 (0 : Int), ([] : List ((Int × Int) × ByteArray))), (List.replicate 8 (0 : Int), ((0 : Int), (0 : Int), ([] : List Int)), List.replicate 16 ((0 : Int), (0 : Int))), ([] : List (Int × Int × Int)))).2.2.2.2.2.2.2.1, (v.getD k.toNat ((0 : Int), (0 : Int), (0 : Int), (0 : Int), (0 : Int), (0 : Int), (0 : Int), (0 : Int), { data := { toList := ([] : List UInt8) } }, (List.replicate 8 (0 : Int), ([] : List ((Int × Int) × ByteArray))), (List.replicate 8 (0 : Int), ((0 : Int), (0 : Int), ([] : List Int)), List.replicate 16 ((0 : Int), (0 : Int))), ([] : List (Int × Int × Int)))).2.2.2.2.2.2.2.2.1, (tab 8 (v.getD k.toNat ((0 : Int), (0 : Int), (0 : Int), (0 : Int), (0 : Int), (0 : Int), (0 : Int), (0 : Int), { data := { toList := ([] : List UInt8) } }, (List.replicate 8 (0 : Int), ([] : List ((Int × Int) × ByteArray))), (List.replicate 8 (0 : Int), ((0 : Int), (0 : Int), ([] : List Int)), List.replicate 16 ((0 : Int), (0 : Int))), ([] : List (Int × Int × Int)))).2.2.2.2.2.2.2.2.2.1.1 (0 : Int), (v.getD k.toNat ((0 : Int), (0 : Int), (0 : Int), (0 : Int), (0 : Int), (0 : Int), (0 : Int), (0 : Int), { data := { toList := ([] : List UInt8) } }, (List.replicate 8 (0 : Int), ([] : List ((Int × Int) × ByteArray))), (List.replicate 8 (0 : Int), ((0 : Int), (0 : Int), ([] : List Int)), List.replicate 16 ((0 : Int), (0 : Int))), ([] : List (Int × Int × Int)))).2.2.2.2.2.2.2.2.2.1.2), (tab 8 (v.getD k.toNat ((0 : Int), (0 : Int), (0 : Int), (0 : Int), (0 : Int), (0 : Int), (0 : Int), (0 : Int), { data := { toList := ([] : List UInt8) } }, (List.replicate 8 (0 : Int), ([] : List ((Int × Int) × ByteArray))), (List.replicate 8 (0 : Int), ((0 : Int), (0 : Int), ([] : List Int)), List.replicate 16 ((0 : Int), (0 : Int))), ([] : List (Int × Int × Int)))).2.2.2.2.2.2.2.2.2.2.1.1 (0 : Int), (v.getD k.toNat ((0 : Int), (0 : Int), (0 : Int), (0 : Int), (0 : Int), (0 : Int), (0 : Int), (0 : Int), { data := { toList := ([] : List UInt8) } }, (List.replicate 8 (0 : Int), ([] : List ((Int × Int) × ByteArray))), (List.replicate 8 (0 : Int), ((0 : Int), (0 : Int), ([] : List Int)), List.replicate 16 ((0 : Int), (0 : Int))), ([] : List (Int × Int × Int)))).2.2.2.2.2.2.2.2.2.2.1.2.1, tab 16 (v.getD k.toNat ((0 : Int), (0 : Int), (0 : Int), (0 : Int), (0 : Int), (0 : Int), (0 : Int), (0 : Int), { data := { toList := ([] : List UInt8) } }, (List.replicate 8 (0 : Int), ([] : List ((Int × Int) × ByteArray))), (List.replicate 8 (0 : Int), ((0 : Int), (0 : Int), ([] : List Int)), List.replicate 16 ((0 : Int), (0 : Int))), ([] : List (Int × Int × Int)))).2.2.2.2.2.2.2.2.2.2.1.2.2 ((0 : Int), (0 : Int))), (v.getD k.toNat ((0 : Int), (0 : Int), (0 : Int), (0 : Int), (0 : Int), (0 : Int), (0 : Int), (0 : Int), { data := { toList := ([] : List UInt8) } }, (List.replicate 8 (0 : Int), ([] : List ((Int × Int) × ByteArray))), (List.replicate 8 (0 : Int), ((0 : Int), (0 : Int), ([] : List Int)), List.replicate 16 ((0 : Int), (0 : Int))), ([] : List (Int × Int × Int)))).2.2.2.2.2.2.2.2.2.2.2) > (0 : Int))) (
     .fork ((Pl.lgI (List.drop k.toNat v) n).isSome) (
      .req (False) (
       .leaf (Option.none))) (
      .req (True) (
       .leaf (Option.none)))) (
     .req (IntKind.i64.wrap (k + (1 : Int)) = IntKind.i64.wrap (k + (1 : Int)) ∧ (↑v.length : Int) = (↑v.length : Int) ∧ i = i ∧ i = i ∧ (↑l.length : Int) = (↑l.length : Int) ∧ IntKind.i64.wrap (n + (1 : Int)) = IntKind.i64.wrap (n + (1 : Int)) ∧ v = v ∧ l = l) (
      .leaf (Option.some { l := l, i := i, v := v, k := IntKind.i64.wrap (k + (1 : Int)), n := IntKind.i64.wrap (n + (1 : Int)) }))))))) (
 .fork ((Pl.lgI (List.drop k.toNat v) n).isSome) (
  .req (i = i ∧ i = i ∧ (↑l.length : Int) = (↑l.length : Int) ∧ n = (Pl.lgI (List.drop k.toNat v) n).getD (0 : Int) ∧ l = l) (
   .leaf (Option.none))) (
  .req (False) (
   .leaf (Option.none)))) : Tree (Option Pl.AJb)) := by kernel_rfl
noncomputable abbrev jbP : Nat × (St → Tree Out) := (1, LJb.sp)
theorem rJa (l : List CallND) (i n : Int) : @Eq _
  (LJa.round k1 [jbP] 100 Try.f14 0 ⟨l, i, n⟩)
  (.fork (decide (i < (↑l.length : Int))) (
 .req ((0 : Int) ≤ i ∧ i < (↑l.length : Int)) (
  .req ((0 : Int) ≤ i ∧ i < (↑l.length : Int)) (
   .req ((0 : Int) ≤ (0 : Int) ∧ (0 : Int) ≤ (↑(l.getD i.toNat ((0 : Int), (0 : Int), ([] : List (Int × Int × Int × Int × Int × Int × Int × Int × ByteArray × (List Int × List ((Int × Int) × ByteArray)) × (List Int × (Int × Int × List Int) × List (Int × Int)) × List (Int × Int × Int))))).2.2.length : Int) ∧ (0 : Int) ≤ n ∧ (0 : Int) ≤ n ∧ n ≤ (1000 : Int) ∧ ∀ (m : Pl.MsgD), m ∈ (l.getD i.toNat ((0 : Int), (0 : Int), ([] : List (Int × Int × Int × Int × Int × Int × Int × Int × ByteArray × (List Int × List ((Int × Int) × ByteArray)) × (List Int × (Int × Int × List Int) × List (Int × Int)) × List (Int × Int × Int))))).2.2 → Pl.inM m) (
    .req ((0 : Int) = (0 : Int) ∧ (↑(l.getD i.toNat ((0 : Int), (0 : Int), ([] : List (Int × Int × Int × Int × Int × Int × Int × Int × ByteArray × (List Int × List ((Int × Int) × ByteArray)) × (List Int × (Int × Int × List Int) × List (Int × Int)) × List (Int × Int × Int))))).2.2.length : Int) = (↑(l.getD i.toNat ((0 : Int), (0 : Int), ([] : List (Int × Int × Int × Int × Int × Int × Int × Int × ByteArray × (List Int × List ((Int × Int) × ByteArray)) × (List Int × (Int × Int × List Int) × List (Int × Int)) × List (Int × Int × Int))))).2.2.length : Int) ∧ i = i ∧ i = i ∧ (↑l.length : Int) = (↑l.length : Int) ∧ n = n ∧ (l.getD i.toNat ((0 : Int), (0 : Int), ([] : List (Int × Int × Int × Int × Int × Int × Int × Int × ByteArray × (List Int × List ((Int × Int) × ByteArray)) × (List Int × (Int × Int × List Int) × List (Int × Int)) × List (Int × Int × Int))))).2.2 = (l.getD i.toNat ((0 : Int), (0 : Int), ([] : List (Int × Int × Int × Int × Int × Int × Int × Int × ByteArray × (List Int × List ((Int × Int) × ByteArray)) × (List Int × (Int × Int × List Int) × List (Int × Int)) × List (Int × Int × Int))))).2.2 ∧ l = l) (
     .fork ((Pl.lgI (List.drop 0 (l.getD i.toNat ((0 : Int), (0 : Int), ([] : List (Int × Int × Int × Int × Int × Int × Int × Int × ByteArray × (List Int × List ((Int × Int) × ByteArray)) × (List Int × (Int × Int × List Int) × List (Int × Int)) × List (Int × Int × Int))))).2.2) n).isSome) (
      .fork (decide (i ≥ (60 : Int))) (
       .fork (Pl.lgL (List.drop i.toNat l) i n) (
        .req (False) (
         .leaf (Option.none))) (
        .req (True) (
         .leaf (Option.none)))) (
       .req (IntKind.i64.wrap (i + (1 : Int)) = IntKind.i64.wrap (i + (1 : Int)) ∧ (↑l.length : Int) = (↑l.length : Int) ∧ (Pl.lgI (List.drop 0 (l.getD i.toNat ((0 : Int), (0 : Int), ([] : List (Int × Int × Int × Int × Int × Int × Int × Int × ByteArray × (List Int × List ((Int × Int) × ByteArray)) × (List Int × (Int × Int × List Int) × List (Int × Int)) × List (Int × Int × Int))))).2.2) n).getD (0 : Int) = (Pl.lgI (List.drop 0 (l.getD i.toNat ((0 : Int), (0 : Int), ([] : List (Int × Int × Int × Int × Int × Int × Int × Int × ByteArray × (List Int × List ((Int × Int) × ByteArray)) × (List Int × (Int × Int × List Int) × List (Int × Int)) × List (Int × Int × Int))))).2.2) n).getD (0 : Int) ∧ l = l) (
        .leaf (Option.some { l := l, i := IntKind.i64.wrap (i + (1 : Int)), n := (Pl.lgI (List.drop 0 (l.getD i.toNat ((0 : Int), (0 : Int), ([] : List (Int × Int × Int × Int × Int × Int × Int × Int × ByteArray × (List Int × List ((Int × Int) × ByteArray)) × (List Int × (Int × Int × List Int) × List (Int × Int)) × List (Int × Int × Int))))).2.2) n).getD (0 : Int) })))) (
      .fork (Pl.lgL (List.drop i.toNat l) i n) (
       .req (False) (
        .leaf (Option.none))) (
       .req (True) (
        .leaf (Option.none))))))))) (
 .fork (Pl.lgL (List.drop i.toNat l) i n) (
  .req (True) (
   .leaf (Option.none))) (
  .req (False) (
   .leaf (Option.none)))) : Tree (Option Pl.AJa)) := by kernel_rfl
noncomputable abbrev jaP : Nat × (St → Tree Out) := (0, LJa.sp)
theorem tLg (l : List CallND) : @Eq _
  (fnT k1 [jaP, jbP] 100 Try.f14 [callsN] [.bool] (l, ()))
  (.req ((0 : Int) ≤ (0 : Int) ∧ (0 : Int) ≤ (↑l.length : Int) ∧ (0 : Int) ≤ (60 : Int) ∧ (0 : Int) ≤ (0 : Int) ∧ (0 : Int) ≤ (1000 : Int) ∧ ∀ (c : Pl.CallND), c ∈ l → ∀ (m : TD Pl.MsgT), m ∈ c.snd.snd → Pl.inM m) (
 .req ((0 : Int) = (0 : Int) ∧ (↑l.length : Int) = (↑l.length : Int) ∧ (0 : Int) = (0 : Int) ∧ l = l) (
  .fork (Pl.lgL l (0 : Int) (0 : Int)) (
   .leaf ((true, ()))) (
   .leaf ((false, ()))))) : Tree (Bool × PUnit)) := by kernel_rfl
end Pl
namespace Pl
open Go Sx Go.Proofs Go.RowKit
theorem lgI_le : ∀ (l : List MsgD) (n k : Int), lgI l n = some k → n ≤ k ∧ (n ≤ 1000 → k ≤ 1000)
  | [], n, k, h => by simp only [lgI, Option.some.injEq] at h; omega
  | m :: r, n, k, h => by
    rw [lgI] at h
    split at h
    · cases h
    · rename_i c
      have := lgI_le r (n + 1) k h
      omega
theorem lJb : LpsOK Try.prog Try.f14 [jbP] := by
  refine .cons (LJb.sound k1_ok (lps := []) (n := 100) (inner rfl) (fun _ => rfl) ?_) .nil
  rintro ⟨l, i, v, k, n⟩ ⟨h1, h2, h3, h4, h5, h6⟩
  simp only at h1 h2 h3 h4 h5 h6
  by_cases c : k < (v.length : Int)
  · have hlt : k.toNat < v.length := by omega
    have hd : v.drop k.toNat = v[k.toNat] :: v.drop (k + 1).toNat := by rw [List.drop_eq_getElem_cons hlt, show (k + 1).toNat = k.toNat + 1 by omega]
    have hm := h6 _ (List.getElem_mem hlt)
    rw [rJb, getD_get _ hlt, hd]
    generalize v[k.toNat] = C at *
    obtain ⟨m1, m2, m3, m4⟩ := id hm
    have e4 : ∀ z, tab 8 C.2.2.2.2.2.2.2.2.2.1.1 z = C.2.2.2.2.2.2.2.2.2.1.1 := fun z => tab_eq m1
    have e5 : ∀ z, tab 8 C.2.2.2.2.2.2.2.2.2.2.1.1 z = C.2.2.2.2.2.2.2.2.2.2.1.1 := fun z => tab_eq m3
    have e6 : ∀ z, tab 16 C.2.2.2.2.2.2.2.2.2.2.1.2.2 z = C.2.2.2.2.2.2.2.2.2.2.1.2.2 := fun z => tab_eq m4
    rw [e4, e5, e6, IntWalk.i64_in (n + 1) (by omega), IntWalk.i64_in (k + 1) (by omega)]
    have hex : (C.1, C.2.1, C.2.2.1, C.2.2.2.1, C.2.2.2.2.1, C.2.2.2.2.2.1, C.2.2.2.2.2.2.1, C.2.2.2.2.2.2.2.1, C.2.2.2.2.2.2.2.2.1, C.2.2.2.2.2.2.2.2.2.1, C.2.2.2.2.2.2.2.2.2.2.1, C.2.2.2.2.2.2.2.2.2.2.2) = C := rfl
    rw [lgI]
    refine ⟨fun _ => ⟨⟨h1, c⟩, ⟨h1, c⟩, fun _ => hm, fun e => ?_, fun e => ?_⟩, fun e => absurd c (of_decide_eq_false e)⟩
    · have e : (decide (n + 1 > 1000) || decide (hvM C > 0)) = true := e
      have e' : n + 1 > 1000 ∨ hvM C > 0 := by simpa using e
      rw [if_pos e']
      exact ⟨fun e => (by cases e), fun _ => ⟨trivial, trivial⟩⟩
    · have e : (decide (n + 1 > 1000) || decide (hvM C > 0)) = false := e
      have e' : ¬ (n + 1 > 1000 ∨ hvM C > 0) := by simpa using e
      refine ⟨by repeat' (first | exact trivial | rfl | apply And.intro), ⟨by dsimp only; omega, by dsimp only; omega, by dsimp only; omega, by dsimp only; omega, by dsimp only; omega, h6⟩, by simp only [LJb]; omega, ?_⟩
      simp only [LJb]
      rw [hd, lgI, if_neg e']
  · rw [rJb, drop_end c]
    refine ⟨fun e => absurd (of_decide_eq_true e) c, fun _ => ⟨fun _ => ⟨by repeat' (first | exact trivial | rfl | apply And.intro), trivial⟩, fun e => by cases e⟩⟩
theorem lJa : LpsOK Try.prog Try.f14 [jaP, jbP] := by
  refine .cons (LJa.sound k1_ok (lps := [jbP]) (n := 100) (lJb.within (by kernel_rfl)) (fun _ => rfl) ?_) lJb
  rintro ⟨l, i, n⟩ ⟨h1, h2, h3, h4, h5, h6⟩
  simp only at h1 h2 h3 h4 h5 h6
  by_cases c : i < (l.length : Int)
  · have hlt : i.toNat < l.length := by omega
    have hd : l.drop i.toNat = l[i.toNat] :: l.drop (i + 1).toNat := by rw [List.drop_eq_getElem_cons hlt, show (i + 1).toNat = i.toNat + 1 by omega]
    have hm := h6 _ (List.getElem_mem hlt)
    rw [rJa, getD_get _ hlt, hd, IntWalk.i64_in (i + 1) (by omega)]
    generalize l[i.toNat] = C at *
    rw [List.drop_zero, lgL]
    refine ⟨fun _ => ⟨⟨h1, c⟩, ⟨h1, c⟩, ⟨by omega, by omega, by omega, by omega, by omega, hm⟩, by repeat' (first | exact trivial | rfl | apply And.intro), fun e => ?_, fun e => ?_⟩, fun e => absurd c (of_decide_eq_false e)⟩
    · obtain ⟨k, hk⟩ := Option.isSome_iff_exists.1 e
      obtain ⟨g1, g2⟩ := lgI_le _ _ _ hk
      rw [hk]
      refine ⟨fun e2 => ?_, fun e2 => ⟨by repeat' (first | exact trivial | rfl | apply And.intro), ?_⟩⟩
      · have e2 := of_decide_eq_true e2
        simp only [if_pos e2]
        exact ⟨fun e => (by cases e), fun _ => ⟨trivial, trivial⟩⟩
      · have e2 := of_decide_eq_false e2
        refine ⟨⟨by dsimp only; omega, by dsimp only; omega, by dsimp only; omega, by simp only [Option.getD_some]; omega, by simp only [Option.getD_some]; omega, h6⟩, by simp only [LJa]; omega, ?_⟩
        simp only [LJa, Option.getD_some]
        rw [hd, lgL, hk]
        simp only [if_neg e2]
    · have hk : lgI C.2.2 n = none := by cases h : lgI C.2.2 n with | none => rfl | some k => rw [h] at e; cases e
      rw [hk]
      exact ⟨fun e => (by cases e), fun _ => ⟨trivial, trivial⟩⟩
  · rw [rJa, drop_end c]
    exact ⟨fun e => absurd (of_decide_eq_true e) c, fun _ => ⟨fun _ => ⟨trivial, trivial⟩, fun e => by simp [lgL] at e⟩⟩
theorem light_okN : PureOK Try.prog 14 [callsN] [.bool] (fun x => ∀ c ∈ (x.1 : List CallND), ∀ m ∈ (c.2.2 : List MsgD), inM m) (fun x => (lgL x.1 0 0, ())) :=
  fn_pure (E := k1) (n := 100) k1_ok Try.func14 (by kernel_rfl) lJa fun x h => by
    obtain ⟨l, _⟩ : List CallND × Unit := x
    refine Tree.all_eq (tLg l) ?_
    refine ⟨⟨by omega, by omega, by omega, by omega, by omega, h⟩, by repeat' (first | exact trivial | rfl | apply And.intro), fun c => ?_, fun c => ?_⟩
    · show (true, ()) = (lgL l 0 0, ()); rw [c]
    · show (false, ()) = (lgL l 0 0, ()); rw [c]
end Pl
namespace Pl
open Go Sx Go.Proofs

theorem toNat1 {i : Int} (h : 0 ≤ i) : (i + 1).toNat = i.toNat + 1 := by omega
theorem cut {l : List Int} {i : Int} (h0 : 0 ≤ i) (h1 : i < l.length) : ∃ x r, l.getD i.toNat 0 = x ∧ l.drop i.toNat = x :: r ∧ l.drop (i + 1).toNat = r :=
  ⟨_, _, rfl, getD_lt h0 h1, by rw [toNat1 h0]⟩
theorem ends {l : List Int} {i : Int} (h1 : ¬ i < l.length) : l.drop i.toNat = [] := List.drop_eq_nil_of_le (by omega)
def cmpI (a b : Int) : Int := if a < b then -1 else if b < a then 1 else 0
def orL : List Int → Int
  | [] => 0
  | x :: r => if x = 0 then orL r else x
def nz (l : List Int) : Bool := l.any fun x => x != 0

theorem body30 : Try.f33.body = some (bodyOf Try.f33) := by kernel_rfl
theorem body22 : Try.f31.body = some (bodyOf Try.f31) := by kernel_rfl
theorem body21 : Try.f30.body = some (bodyOf Try.f30) := by kernel_rfl
noncomputable abbrev E1 : Ex := mkEx Try.prog [(33, fnI E0 [] 100 Try.f33)]
theorem E1_ok : E1.Sound := mkEx_sound ⟨fnI_ok (E := E0) E0_ok Try.func33 body30 .nil, trivial⟩

theorem t22 (x y : Int) :
  fnT E1 [] 100 Try.f31 [i64, i64] [i64] (x, y, ()) =
.fork (x != x) (
 .fork (y != y) (
  .leaf (((0 : Int), ()))) (
  .leaf (((-1 : Int), ())))) (
 .fork (y != y) (
  .leaf (((1 : Int), ()))) (
  .fork (decide (x < y)) (
   .leaf (((-1 : Int), ()))) (
   .fork (decide (x > y)) (
    .leaf (((1 : Int), ()))) (
    .leaf (((0 : Int), ())))))) := by kernel_rfl
theorem cmp_t (x y : Int) : (fnT E1 [] 100 Try.f31 [i64, i64] [i64] (x, y, ())).all fun r => r = (cmpI x y, ()) := by
  rw [t22]
  simp only [Tree.all, decide_eq_true_eq, decide_eq_false_iff_not, bne_self_eq_false, cmpI]
  refine ⟨by simp, fun _ => ⟨by simp, fun _ => ⟨fun c => ?_, fun c => ⟨fun d => ?_, fun d => ?_⟩⟩⟩⟩
  · simp [c]
  · simp [c, show y < x from d]
  · simp [c, show ¬ y < x from d]
theorem cmp_ok : PureOK Try.prog 31 [i64, i64] [i64] (fun _ => True) (fun x => (cmpI x.1 x.2.1, ())) :=
  fn_pure (E := E1) (n := 100) E1_ok Try.func31 body22 .nil fun x _ => cmp_t x.1 x.2.1


structure A21 where
  l : List Int
  i : Int
def L21 : LoopC A21 where
  n0 := 1
  det st := match Sx.look st.gh 0, intAt st.slots 8 with
    | some (.ro (.int .i64) l), some i => some ⟨l, i⟩
    | _, _ => none
  inv a := ⟨[(8, iv a.i), (7, iv a.l.length), (6, .one (.row 0)), (3, iv 0)], [(0, .ro i64 a.l)], 1⟩
  ok a := 0 ≤ a.i ∧ a.i ≤ a.l.length ∧ (a.l.length : Int) < big
  mu a := a.l.length - a.i.toNat
  fin a := .fork (nz (a.l.drop a.i.toNat)) (.leaf ⟨1, ⟨[(2, iv (orL (a.l.drop a.i.toNat)))], [], 1⟩⟩) (.leaf ⟨2, ⟨[(3, iv 0)], [], 1⟩⟩)
theorem r21 (l : List Int) (i : Int) :
  L21.round E0 [] 100 Try.f30 0 ⟨l, i⟩ =
.fork (decide (i < (↑l.length : Int))) (
 .req ((0 : Int) ≤ i ∧ i < (↑l.length : Int)) (
  .req ((0 : Int) ≤ i ∧ i < (↑l.length : Int)) (
   .fork (l.getD i.toNat (0 : Int) != (0 : Int)) (
    .fork (Pl.nz (List.drop i.toNat l)) (
     .req (l.getD i.toNat (0 : Int) = Pl.orL (List.drop i.toNat l)) (
      .leaf (Option.none))) (
     .req (False) (
      .leaf (Option.none)))) (
    .req (IntKind.i64.wrap (i + (1 : Int)) = IntKind.i64.wrap (i + (1 : Int)) ∧ (↑l.length : Int) = (↑l.length : Int) ∧ (0 : Int) = (0 : Int) ∧ l = l) (
     .leaf (Option.some { l := l, i := IntKind.i64.wrap (i + (1 : Int)) })))))) (
 .fork (Pl.nz (List.drop i.toNat l)) (
  .req (False) (
   .leaf (Option.none))) (
  .req ((0 : Int) = (0 : Int)) (
   .leaf (Option.none)))) := by kernel_rfl
theorem t21 (l : List Int) :
  fnT E0 [(0, L21.sp)] 100 Try.f30 [ints] [i64] (l, ()) =
.req ((0 : Int) ≤ (0 : Int) ∧ (0 : Int) ≤ (↑l.length : Int) ∧ (↑l.length : Int) < (4611686018427387904 : Int)) (
 .req ((0 : Int) = (0 : Int) ∧ (↑l.length : Int) = (↑l.length : Int) ∧ (0 : Int) = (0 : Int) ∧ l = l) (
  .fork (Pl.nz l) (
   .leaf ((Pl.orL l, ()))) (
   .leaf (((0 : Int), ()))))) := by kernel_rfl
theorem l21 : LpsOK Try.prog Try.f30 [(0, L21.sp)] := by
  refine .cons (L21.sound E0_ok (lps := []) (n := 100) (inner rfl) (fun _ => rfl) ?_) .nil
  rintro ⟨l, i⟩ ⟨h1, h2, h3⟩
  simp only at h1 h2 h3
  rw [r21]
  simp only [Tree.all, decide_eq_true_eq, decide_eq_false_iff_not, bne_iff_ne, ne_eq, bne_eq_false_iff_eq]
  refine ⟨fun c => ?_, fun c => ?_⟩
  · obtain ⟨x, r, e1, e2, e3⟩ := cut h1 c
    rw [e1, e2]
    refine ⟨⟨h1, c⟩, ⟨h1, c⟩, fun d => ?_, fun d => ⟨by simp, ?_⟩⟩
    · simp [nz, orL, d, LoopC.Next]
    · rw [wrap1 h1 (by omega)]
      exact ⟨⟨by dsimp only; omega, by dsimp only; omega, h3⟩, by simp only [L21]; omega, by simp only [L21]; rw [e2, e3, d]; simp [nz, orL]⟩
  · rw [List.drop_eq_nil_of_le (by omega)]; simp [nz, LoopC.Next]

theorem orL_nz : ∀ {l : List Int}, nz l = false → orL l = 0
  | [], _ => rfl
  | x :: r, h => by
    simp only [nz, List.any_cons, Bool.or_eq_false_iff, bne_eq_false_iff_eq] at h
    rw [orL, if_pos h.1]; exact orL_nz h.2
theorem or_t (l : List Int) (h : (l.length : Int) < big) : (fnT E0 [(0, L21.sp)] 100 Try.f30 [ints] [i64] (l, ())).all fun r => r = (orL l, ()) := by
  rw [t21]
  simp only [Tree.all]
  exact ⟨⟨by omega, by omega, h⟩, by simp, fun k => by simp [k], fun c => by rw [orL_nz c]⟩
theorem or_ok : PureOK Try.prog 30 [ints] [i64] (fun x => (List.length (α := Int) x.1 : Int) < big) (fun x => (orL x.1, ())) :=
  fn_pure (E := E0) (n := 100) E0_ok Try.func30 body21 l21 fun x h => or_t x.1 h


def cmpL : List Int → List Int → Int
  | [], [] => 0
  | [], _ :: _ => -1
  | _ :: _, [] => 1
  | x :: r, y :: s => if cmpI x y = 0 then cmpL r s else cmpI x y
theorem body23 : Try.f32.body = some (bodyOf Try.f32) := by kernel_rfl
noncomputable abbrev E2 : Ex := mkEx Try.prog [(31, pureSp [i64, i64] [i64] (fun _ => True) (fun x => (cmpI x.1 x.2.1, ()))), (30, pureSp [ints] [i64] (fun x => (List.length (α := Int) x.1 : Int) < big) (fun x => (orL x.1, ())))]
theorem E2_ok : E2.Sound := mkEx_sound ⟨pureSp_ok cmp_ok, pureSp_ok or_ok, trivial⟩
structure A23 where
  l : List Int
  m : List Int
  i : Int

def dif : List Int → List Int → Bool
  | [], _ => false
  | _ :: _, [] => true
  | x :: r, y :: s => cmpI x y != 0 || dif r s
def L23 : LoopC A23 where
  n0 := 2
  det st := match Sx.look st.gh 0, Sx.look st.gh 1, intAt st.slots 11 with
    | some (.ro (.int .i64) l), some (.ro (.int .i64) m), some i => some ⟨l, m, i⟩
    | _, _, _ => none
  inv a := ⟨[(11, iv a.i), (10, iv a.l.length), (9, .one (.row 0)), (1, .one (.row 1)), (0, .one (.row 0))], [(0, .ro i64 a.l), (1, .ro i64 a.m)], 2⟩
  ok a := 0 ≤ a.i ∧ a.i ≤ a.l.length ∧ a.i ≤ a.m.length ∧ (a.l.length : Int) < big
  mu a := a.l.length - a.i.toNat
  fin a := .fork (dif (a.l.drop a.i.toNat) (a.m.drop a.i.toNat)) (.leaf ⟨1, ⟨[(4, iv (cmpL (a.l.drop a.i.toNat) (a.m.drop a.i.toNat)))], [], 2⟩⟩)
    (.leaf ⟨2, ⟨[(1, .one (.row 1)), (0, .one (.row 0))], [(0, .ro i64 a.l), (1, .ro i64 a.m)], 2⟩⟩)
theorem r23 (l m : List Int) (i : Int) :
  L23.round E2 [] 100 Try.f32 0 ⟨l, m, i⟩ =
.fork (decide (i < (↑l.length : Int))) (
 .req ((0 : Int) ≤ i ∧ i < (↑l.length : Int)) (
  .req ((0 : Int) ≤ i ∧ i < (↑l.length : Int)) (
   .fork (decide (i ≥ (↑m.length : Int))) (
    .fork (Pl.dif (List.drop i.toNat l) (List.drop i.toNat m)) (
     .req ((1 : Int) = Pl.cmpL (List.drop i.toNat l) (List.drop i.toNat m)) (
      .leaf (Option.none))) (
     .req (False) (
      .leaf (Option.none)))) (
    .req ((0 : Int) ≤ i ∧ i < (↑m.length : Int)) (
     .req ((0 : Int) ≤ i ∧ i < (↑m.length : Int)) (
      .req (True) (
       .fork (Pl.cmpI (l.getD i.toNat (0 : Int)) (m.getD i.toNat (0 : Int)) != (0 : Int)) (
        .fork (Pl.dif (List.drop i.toNat l) (List.drop i.toNat m)) (
         .req (Pl.cmpI (l.getD i.toNat (0 : Int)) (m.getD i.toNat (0 : Int)) = Pl.cmpL (List.drop i.toNat l) (List.drop i.toNat m)) (
          .leaf (Option.none))) (
         .req (False) (
          .leaf (Option.none)))) (
        .req (IntKind.i64.wrap (i + (1 : Int)) = IntKind.i64.wrap (i + (1 : Int)) ∧ (↑l.length : Int) = (↑l.length : Int) ∧ l = l ∧ m = m) (
         .leaf (Option.some { l := l, m := m, i := IntKind.i64.wrap (i + (1 : Int)) })))))))))) (
 .fork (Pl.dif (List.drop i.toNat l) (List.drop i.toNat m)) (
  .req (False) (
   .leaf (Option.none))) (
  .req (l = l ∧ m = m) (
   .leaf (Option.none)))) := by kernel_rfl
theorem t23 (l m : List Int) :
  fnT E2 [(0, L23.sp)] 100 Try.f32 [ints, ints] [i64] (l, m, ()) =
.req ((0 : Int) ≤ (0 : Int) ∧ (0 : Int) ≤ (↑l.length : Int) ∧ (0 : Int) ≤ (↑m.length : Int) ∧ (↑l.length : Int) < (4611686018427387904 : Int)) (
 .req ((0 : Int) = (0 : Int) ∧ (↑l.length : Int) = (↑l.length : Int) ∧ l = l ∧ m = m) (
  .fork (Pl.dif l m) (
   .leaf ((Pl.cmpL l m, ()))) (
   .fork (decide ((↑l.length : Int) < (↑m.length : Int))) (
    .leaf (((-1 : Int), ()))) (
    .leaf (((0 : Int), ())))))) := by kernel_rfl
theorem l23 : LpsOK Try.prog Try.f32 [(0, L23.sp)] := by
  refine .cons (L23.sound E2_ok (lps := []) (n := 100) (inner rfl) (fun _ => rfl) ?_) .nil
  rintro ⟨l, m, i⟩ ⟨h1, h2, h3, h4⟩
  simp only at h1 h2 h3 h4
  rw [r23]
  simp only [Tree.all, decide_eq_true_eq, decide_eq_false_iff_not, bne_iff_ne, ne_eq, bne_eq_false_iff_eq]
  refine ⟨fun c => ?_, fun c => ?_⟩
  · obtain ⟨x, r, e1, e2, e3⟩ := cut h1 c
    rw [e1, e2]
    refine ⟨⟨h1, c⟩, ⟨h1, c⟩, fun d => ?_, fun d => ?_⟩
    · rw [ends (l := m) (by omega)]
      simp [dif, cmpL, LoopC.Next]
    · obtain ⟨y, q, f1, f2, f3⟩ := cut (l := m) h1 (by omega)
      rw [f1, f2]
      refine ⟨⟨h1, by omega⟩, ⟨h1, by omega⟩, trivial, fun g => ?_, fun g => ⟨by simp, ?_⟩⟩
      · simp [dif, cmpL, g, LoopC.Next]
      · rw [wrap1 h1 (by omega)]
        exact ⟨⟨by dsimp only; omega, by dsimp only; omega, by dsimp only; omega, h4⟩, by simp only [L23]; omega, by simp only [L23]; rw [e2, e3, f2, f3]; simp [dif, cmpL, g]⟩
  · rw [ends c]
    simp [dif, LoopC.Next]
theorem cmpL_dif : ∀ {l m : List Int}, dif l m = false → (l.length < m.length → cmpL l m = -1) ∧ (¬ l.length < m.length → cmpL l m = 0)
  | [], [], _ => by simp [cmpL]
  | [], _ :: _, _ => by simp [cmpL]
  | _ :: _, [], h => by simp [dif] at h
  | x :: r, y :: s, h => by
    simp only [dif, Bool.or_eq_false_iff, bne_eq_false_iff_eq] at h
    have := cmpL_dif h.2
    simp only [cmpL, h.1, if_true, List.length_cons, Nat.add_lt_add_iff_right]
    exact this
theorem scmp_t (l m : List Int) (h : (l.length : Int) < big) : (fnT E2 [(0, L23.sp)] 100 Try.f32 [ints, ints] [i64] (l, m, ())).all fun r => r = (cmpL l m, ()) := by
  rw [t23]
  simp only [Tree.all, decide_eq_true_eq, decide_eq_false_iff_not]
  refine ⟨⟨by omega, by omega, by omega, h⟩, by simp, fun k => by simp [k], fun c => ⟨fun d => ?_, fun d => ?_⟩⟩
  · rw [(cmpL_dif c).1 (by omega)]
  · rw [(cmpL_dif c).2 (by omega)]
theorem scmp_ok : PureOK Try.prog 32 [ints, ints] [i64] (fun x => (List.length (α := Int) x.1 : Int) < big) (fun x => (cmpL x.1 x.2.1, ())) :=
  fn_pure (E := E2) (n := 100) E2_ok Try.func32 body23 l23 fun x h => scmp_t x.1 x.2.1 h


def cmpP (a b : PlanD) : Int := orL [cmpI a.1 b.1, cmpI a.2.1 b.2.1, cmpI a.2.2.length b.2.2.length, cmpL a.2.2 b.2.2]
theorem body12 : Try.f29.body = some (bodyOf Try.f29) := by kernel_rfl
noncomputable abbrev E3 : Ex := mkEx Try.prog [(31, pureSp [i64, i64] [i64] (fun _ => True) (fun x => (cmpI x.1 x.2.1, ()))), (30, pureSp [ints] [i64] (fun x => (List.length (α := Int) x.1 : Int) < big) (fun x => (orL x.1, ()))),
  (32, pureSp [ints, ints] [i64] (fun x => (List.length (α := Int) x.1 : Int) < big) (fun x => (cmpL x.1 x.2.1, ())))]
theorem E3_ok : E3.Sound := mkEx_sound ⟨pureSp_ok cmp_ok, pureSp_ok or_ok, pureSp_ok scmp_ok, trivial⟩
theorem t12 (v b v' b' : Int) (l l' : List Int) :
  fnT E3 [] 100 Try.f29 [Plan, Plan] [i64] ((v, b, l), (v', b', l'), ()) =
.req (True) (
 .req (True) (
  .req (True) (
   .req ((↑l.length : Int) < (4611686018427387904 : Int)) (
    .req ((4 : Int) < (4611686018427387904 : Int)) (
     .leaf ((Pl.orL [Pl.cmpI v v', Pl.cmpI b b', Pl.cmpI (↑l.length : Int) (↑l'.length : Int), Pl.cmpL l l'], ()))))))) := by kernel_rfl
end Pl
namespace Pl
open Go Sx Go.Proofs Go.RowKit
def eqV (a b : List (TD ValT)) : Bool := decide ((a : List ((Int × Int) × ByteArray)) = b)
def eqC (a b : List (TD Cl3)) : Bool := decide ((a : List (Int × Int × Int)) = b)
theorem cmpPn_ok : PureOK Try.prog 29 [Plan, Plan] [i64] (fun x => (List.length (α := Int) x.1.2.2 : Int) < big) (fun x => (cmpP x.1 x.2.1, ())) := by
  refine fn_pure (E := E3) (n := 100) E3_ok Try.func29 body12 .nil fun x h => ?_
  have := t12 x.1.1 x.1.2.1 x.2.1.1 x.2.1.2.1 x.1.2.2 x.2.1.2.2
  refine Tree.all_eq this ?_
  exact ⟨trivial, trivial, trivial, h, by decide, rfl⟩
noncomputable abbrev s1 : Ex := mkExM Try.prog [(29, pureSp [Plan, Plan] [i64] (fun x => (List.length (α := Int) x.1.2.2 : Int) < big) (fun x => (cmpP x.1 x.2.1, ())))]
theorem s1_ok : s1.Sound := mkExM_sound ⟨pureSp_ok cmpPn_ok, trivial⟩
theorem tPs (p q : PlanD) : @Eq _
  (fnT s1 [] 100 Try.f28 [Plan, Plan] [.bool] (p, q, ()))
  (.req ((↑p.2.2.length : Int) < (4611686018427387904 : Int)) (
 .leaf ((Pl.cmpP p q == (0 : Int), ()))) : Tree (Bool × PUnit)) := by kernel_rfl
structure AVe where
  a : List (TD Pl.ValT)
  b : List (TD Pl.ValT)
  i0 : Int
def LVe : LoopC AVe where
  n0 := 2
  det st := match rowS st 0 ((i64.cat i64).cat Ty.str), rowS st 1 ((i64.cat i64).cat Ty.str), intS st 13 with | some a, some b, some i0 => some ⟨a, b, i0⟩ | _, _, _ => none
  inv a := ⟨[(13, iv a.i0), (12, iv (↑a.a.length : Int)), (0, .one (.row 0)), (1, .one (.row 1))],
    [(0, Gb.ro ((i64.cat i64).cat Ty.str) a.a), (1, Gb.ro ((i64.cat i64).cat Ty.str) a.b)], 2⟩
  ok a := 0 ≤ a.i0 ∧ a.i0 ≤ a.a.length ∧ a.a.length = a.b.length ∧ (a.a.length : Int) ≤ 9223372036854775807
  mu a := a.a.length - a.i0.toNat
  fin a := .fork (eqV (a.a.drop a.i0.toNat) (a.b.drop a.i0.toNat)) (.leaf ⟨2, ⟨[], [], 2⟩⟩) (.leaf ⟨1, ⟨[(4, .one (.cbool false))], [], 2⟩⟩)
structure ACe where
  a : List (TD Pl.Cl3)
  b : List (TD Pl.Cl3)
  i0 : Int
def LCe : LoopC ACe where
  n0 := 2
  det st := match rowS st 0 (i64.cat (i64.cat i64)), rowS st 1 (i64.cat (i64.cat i64)), intS st 13 with | some a, some b, some i0 => some ⟨a, b, i0⟩ | _, _, _ => none
  inv a := ⟨[(13, iv a.i0), (12, iv (↑a.a.length : Int)), (0, .one (.row 0)), (1, .one (.row 1))],
    [(0, Gb.ro (i64.cat (i64.cat i64)) a.a), (1, Gb.ro (i64.cat (i64.cat i64)) a.b)], 2⟩
  ok a := 0 ≤ a.i0 ∧ a.i0 ≤ a.a.length ∧ a.a.length = a.b.length ∧ (a.a.length : Int) ≤ 9223372036854775807
  mu a := a.a.length - a.i0.toNat
  fin a := .fork (eqC (a.a.drop a.i0.toNat) (a.b.drop a.i0.toNat)) (.leaf ⟨2, ⟨[], [], 2⟩⟩) (.leaf ⟨1, ⟨[(4, .one (.cbool false))], [], 2⟩⟩)
theorem rVe (a b : List (TD ValT)) (i : Int) : @Eq _
  (LVe.round E0 [] 100 Try.f27 0 ⟨a, b, i⟩)
  (.fork (decide (i < (↑a.length : Int))) (
 .req ((0 : Int) ≤ i ∧ i < (↑a.length : Int)) (
  .req ((0 : Int) ≤ i ∧ i < (↑a.length : Int)) (
   .req ((0 : Int) ≤ i ∧ i < (↑b.length : Int)) (
    .req ((0 : Int) ≤ i ∧ i < (↑b.length : Int)) (
     .fork (!((a.getD i.toNat (((0 : Int), (0 : Int)), { data := { toList := ([] : List UInt8) } })).1.1 == (b.getD i.toNat (((0 : Int), (0 : Int)), { data := { toList := ([] : List UInt8) } })).1.1 && ((a.getD i.toNat (((0 : Int), (0 : Int)), { data := { toList := ([] : List UInt8) } })).1.2 == (b.getD i.toNat (((0 : Int), (0 : Int)), { data := { toList := ([] : List UInt8) } })).1.2 && true) && ((a.getD i.toNat (((0 : Int), (0 : Int)), { data := { toList := ([] : List UInt8) } })).2.toList == (b.getD i.toNat (((0 : Int), (0 : Int)), { data := { toList := ([] : List UInt8) } })).2.toList && true))) (
      .fork (Pl.eqV (List.drop i.toNat a) (List.drop i.toNat b)) (
       .req (False) (
        .leaf (Option.none))) (
       .req (True) (
        .leaf (Option.none)))) (
      .req (IntKind.i64.wrap (i + (1 : Int)) = IntKind.i64.wrap (i + (1 : Int)) ∧ (↑a.length : Int) = (↑a.length : Int) ∧ a = a ∧ b = b) (
       .leaf (Option.some { a := a, b := b, i0 := IntKind.i64.wrap (i + (1 : Int)) })))))))) (
 .fork (Pl.eqV (List.drop i.toNat a) (List.drop i.toNat b)) (
  .req (True) (
   .leaf (Option.none))) (
  .req (False) (
   .leaf (Option.none)))) : Tree (Option Pl.AVe)) := by kernel_rfl
noncomputable abbrev veP : Nat × (St → Tree Out) := (0, LVe.sp)
theorem tVe (a b : List (TD ValT)) : @Eq _
  (fnT E0 [veP] 100 Try.f27 [.slice ValT, .slice ValT] [.bool] (a, b, ()))
  (.fork ((↑a.length : Int) != (↑b.length : Int)) (
 .leaf ((false, ()))) (
 .req ((0 : Int) ≤ (0 : Int) ∧ (0 : Int) ≤ (↑a.length : Int) ∧ a.length = b.length ∧ (↑a.length : Int) ≤ (9223372036854775807 : Int)) (
  .req ((0 : Int) = (0 : Int) ∧ (↑a.length : Int) = (↑a.length : Int) ∧ a = a ∧ b = b) (
   .fork (Pl.eqV a b) (
    .leaf ((true, ()))) (
    .leaf ((false, ())))))) : Tree (Bool × PUnit)) := by kernel_rfl
theorem rCe (a b : List (TD Cl3)) (i : Int) : @Eq _
  (LCe.round E0 [] 100 Try.f21 0 ⟨a, b, i⟩)
  (.fork (decide (i < (↑a.length : Int))) (
 .req ((0 : Int) ≤ i ∧ i < (↑a.length : Int)) (
  .req ((0 : Int) ≤ i ∧ i < (↑a.length : Int)) (
   .req ((0 : Int) ≤ i ∧ i < (↑b.length : Int)) (
    .req ((0 : Int) ≤ i ∧ i < (↑b.length : Int)) (
     .fork (!((a.getD i.toNat ((0 : Int), (0 : Int), (0 : Int))).1 == (b.getD i.toNat ((0 : Int), (0 : Int), (0 : Int))).1 && ((a.getD i.toNat ((0 : Int), (0 : Int), (0 : Int))).2.1 == (b.getD i.toNat ((0 : Int), (0 : Int), (0 : Int))).2.1 && ((a.getD i.toNat ((0 : Int), (0 : Int), (0 : Int))).2.2 == (b.getD i.toNat ((0 : Int), (0 : Int), (0 : Int))).2.2 && true)))) (
      .fork (Pl.eqC (List.drop i.toNat a) (List.drop i.toNat b)) (
       .req (False) (
        .leaf (Option.none))) (
       .req (True) (
        .leaf (Option.none)))) (
      .req (IntKind.i64.wrap (i + (1 : Int)) = IntKind.i64.wrap (i + (1 : Int)) ∧ (↑a.length : Int) = (↑a.length : Int) ∧ a = a ∧ b = b) (
       .leaf (Option.some { a := a, b := b, i0 := IntKind.i64.wrap (i + (1 : Int)) })))))))) (
 .fork (Pl.eqC (List.drop i.toNat a) (List.drop i.toNat b)) (
  .req (True) (
   .leaf (Option.none))) (
  .req (False) (
   .leaf (Option.none)))) : Tree (Option Pl.ACe)) := by kernel_rfl
noncomputable abbrev ceP : Nat × (St → Tree Out) := (0, LCe.sp)
theorem tCe (a b : List (TD Cl3)) : @Eq _
  (fnT E0 [ceP] 100 Try.f21 [.slice Cl3, .slice Cl3] [.bool] (a, b, ()))
  (.fork ((↑a.length : Int) != (↑b.length : Int)) (
 .leaf ((false, ()))) (
 .req ((0 : Int) ≤ (0 : Int) ∧ (0 : Int) ≤ (↑a.length : Int) ∧ a.length = b.length ∧ (↑a.length : Int) ≤ (9223372036854775807 : Int)) (
  .req ((0 : Int) = (0 : Int) ∧ (↑a.length : Int) = (↑a.length : Int) ∧ a = a ∧ b = b) (
   .fork (Pl.eqC a b) (
    .leaf ((true, ()))) (
    .leaf ((false, ())))))) : Tree (Bool × PUnit)) := by kernel_rfl
end Pl
namespace Pl
open Go Sx Go.Proofs Go.RowKit
theorem bytes_inj {a b : ByteArray} : a.toList = b.toList ↔ a = b :=
  ⟨fun h => by rw [ByteArray.toList_eq, ByteArray.toList_eq] at h; exact ByteArray.ext (Array.toList_inj.1 h), fun h => by rw [h]⟩
theorem eqV_cons (x y : (Int × Int) × ByteArray) (r s : List ((Int × Int) × ByteArray)) : eqV (x :: r) (y :: s) = ((x.1.1 == y.1.1 && (x.1.2 == y.1.2 && true) && (x.2.toList == y.2.toList && true)) && eqV r s) := by
  unfold eqV
  rw [Bool.eq_iff_iff]
  simp only [decide_eq_true_eq, List.cons.injEq, Bool.and_eq_true, beq_iff_eq, Bool.and_true, bytes_inj, Prod.ext_iff]
theorem eqC_cons (x y : Int × Int × Int) (r s : List (Int × Int × Int)) : eqC (x :: r) (y :: s) = ((x.1 == y.1 && (x.2.1 == y.2.1 && (x.2.2 == y.2.2 && true))) && eqC r s) := by
  unfold eqC
  rw [Bool.eq_iff_iff]
  simp only [decide_eq_true_eq, List.cons.injEq, Bool.and_eq_true, beq_iff_eq, Bool.and_true, Prod.ext_iff]
theorem cutN {α : Type} {l : List α} {i : Int} (h0 : 0 ≤ i) (h : i.toNat < l.length) : ∃ x, l[i.toNat] = x ∧ l.drop i.toNat = x :: l.drop (i + 1).toNat :=
  ⟨_, rfl, by rw [List.drop_eq_getElem_cons h, show (i + 1).toNat = i.toNat + 1 by omega]⟩
theorem lVe : LpsOK Try.prog Try.f27 [veP] := by
  refine .cons (LVe.sound E0_ok (lps := []) (n := 100) (inner rfl) (fun _ => rfl) ?_) .nil
  rintro ⟨a, b, i⟩ ⟨h1, h2, h3, h4⟩
  simp only at h1 h2 h3 h4
  by_cases c : i < (a.length : Int)
  · have hlt : i.toNat < a.length := by omega
    have hlt' : i.toNat < b.length := by omega
    obtain ⟨x, hx, dx⟩ := cutN h1 hlt
    obtain ⟨y, hy, dy⟩ := cutN h1 hlt'
    rw [rVe, getD_get _ hlt, getD_get _ hlt', hx, hy, IntWalk.i64_in (i + 1) (by omega)]
    have hc := eqV_cons x y (a.drop (i + 1).toNat) (b.drop (i + 1).toNat)
    rw [← dx, ← dy] at hc
    refine ⟨fun _ => ⟨⟨h1, c⟩, ⟨h1, c⟩, ⟨h1, by omega⟩, ⟨h1, by omega⟩, fun e => ?_, fun e => ?_⟩, fun e => absurd c (of_decide_eq_false e)⟩
    · rw [Bool.not_eq_true'] at e
      rw [hc, e]
      exact ⟨fun g => (by cases g), fun _ => ⟨trivial, trivial⟩⟩
    · rw [Bool.not_eq_false'] at e
      refine ⟨by repeat' (first | exact trivial | rfl | apply And.intro), ⟨by dsimp only; omega, by dsimp only; omega, h3, h4⟩, by simp only [LVe]; omega, ?_⟩
      simp only [LVe]
      rw [hc, e, Bool.true_and]
  · rw [rVe, drop_end c, drop_end (l := b) (by omega)]
    exact ⟨fun e => absurd (of_decide_eq_true e) c, fun _ => ⟨fun _ => ⟨trivial, trivial⟩, fun e => by simp [eqV] at e⟩⟩
theorem lCe : LpsOK Try.prog Try.f21 [ceP] := by
  refine .cons (LCe.sound E0_ok (lps := []) (n := 100) (inner rfl) (fun _ => rfl) ?_) .nil
  rintro ⟨a, b, i⟩ ⟨h1, h2, h3, h4⟩
  simp only at h1 h2 h3 h4
  by_cases c : i < (a.length : Int)
  · have hlt : i.toNat < a.length := by omega
    have hlt' : i.toNat < b.length := by omega
    obtain ⟨x, hx, dx⟩ := cutN h1 hlt
    obtain ⟨y, hy, dy⟩ := cutN h1 hlt'
    rw [rCe, getD_get _ hlt, getD_get _ hlt', hx, hy, IntWalk.i64_in (i + 1) (by omega)]
    have hc := eqC_cons x y (a.drop (i + 1).toNat) (b.drop (i + 1).toNat)
    rw [← dx, ← dy] at hc
    refine ⟨fun _ => ⟨⟨h1, c⟩, ⟨h1, c⟩, ⟨h1, by omega⟩, ⟨h1, by omega⟩, fun e => ?_, fun e => ?_⟩, fun e => absurd c (of_decide_eq_false e)⟩
    · rw [Bool.not_eq_true'] at e
      rw [hc, e]
      exact ⟨fun g => (by cases g), fun _ => ⟨trivial, trivial⟩⟩
    · rw [Bool.not_eq_false'] at e
      refine ⟨by repeat' (first | exact trivial | rfl | apply And.intro), ⟨by dsimp only; omega, by dsimp only; omega, h3, h4⟩, by simp only [LCe]; omega, ?_⟩
      simp only [LCe]
      rw [hc, e, Bool.true_and]
  · rw [rCe, drop_end c, drop_end (l := b) (by omega)]
    exact ⟨fun e => absurd (of_decide_eq_true e) c, fun _ => ⟨fun _ => ⟨trivial, trivial⟩, fun e => by simp [eqC] at e⟩⟩
theorem veq_ok : PureOK Try.prog 27 [.slice ValT, .slice ValT] [.bool] (fun x => (List.length (α := TD ValT) x.1 : Int) ≤ 9223372036854775807) (fun x => (eqV x.1 x.2.1, ())) :=
  fn_pure (E := E0) (n := 100) E0_ok Try.func27 (by kernel_rfl) lVe fun x h => by
    obtain ⟨a, b, _⟩ : List (TD ValT) × List (TD ValT) × Unit := x
    have h : (List.length (α := TD ValT) a : Int) ≤ 9223372036854775807 := h
    refine Tree.all_eq (tVe a b) ?_
    refine ⟨fun e => ?_, fun e => ⟨⟨by omega, by omega, ?_, h⟩, by repeat' (first | exact trivial | rfl | apply And.intro), fun d => ?_, fun d => ?_⟩⟩
    · have e : ((List.length (α := TD ValT) a : Int) != (List.length (α := TD ValT) b : Int)) = true := e
      have hne : a ≠ b := fun g => by rw [g] at e; simp at e
      show (false, ()) = (eqV a b, ())
      unfold eqV; rw [decide_eq_false hne]
    · have e : ((List.length (α := TD ValT) a : Int) != (List.length (α := TD ValT) b : Int)) = false := e
      simp only [bne_eq_false_iff_eq] at e
      omega
    · show (true, ()) = (eqV a b, ()); rw [d]
    · show (false, ()) = (eqV a b, ()); rw [d]
theorem ceq_ok : PureOK Try.prog 21 [.slice Cl3, .slice Cl3] [.bool] (fun x => (List.length (α := TD Cl3) x.1 : Int) ≤ 9223372036854775807) (fun x => (eqC x.1 x.2.1, ())) :=
  fn_pure (E := E0) (n := 100) E0_ok Try.func21 (by kernel_rfl) lCe fun x h => by
    obtain ⟨a, b, _⟩ : List (TD Cl3) × List (TD Cl3) × Unit := x
    have h : (List.length (α := TD Cl3) a : Int) ≤ 9223372036854775807 := h
    refine Tree.all_eq (tCe a b) ?_
    refine ⟨fun e => ?_, fun e => ⟨⟨by omega, by omega, ?_, h⟩, by repeat' (first | exact trivial | rfl | apply And.intro), fun d => ?_, fun d => ?_⟩⟩
    · have e : ((List.length (α := TD Cl3) a : Int) != (List.length (α := TD Cl3) b : Int)) = true := e
      have hne : a ≠ b := fun g => by rw [g] at e; simp at e
      show (false, ()) = (eqC a b, ())
      unfold eqC; rw [decide_eq_false hne]
    · have e : ((List.length (α := TD Cl3) a : Int) != (List.length (α := TD Cl3) b : Int)) = false := e
      simp only [bne_eq_false_iff_eq] at e
      omega
    · show (true, ()) = (eqC a b, ()); rw [d]
    · show (false, ()) = (eqC a b, ()); rw [d]
theorem psameN_ok : PureOK Try.prog 28 [Plan, Plan] [.bool] (fun x => (List.length (α := Int) x.1.2.2 : Int) < big) (fun x => (cmpP x.1 x.2.1 == 0, ())) :=
  fn_pure (E := s1) (n := 100) s1_ok Try.func28 (by kernel_rfl) .nil fun x h => Tree.all_eq (tPs x.1 x.2.1) ⟨h, rfl⟩
abbrev KPs : Nat × Sx.Spec := (28, pureSp [Plan, Plan] [.bool] (fun x => (List.length (α := Int) x.1.2.2 : Int) < big) (fun x => (cmpP x.1 x.2.1 == 0, ())))
abbrev KVe : Nat × Sx.Spec := (27, pureSp [.slice ValT, .slice ValT] [.bool] (fun x => (List.length (α := TD ValT) x.1 : Int) ≤ 9223372036854775807) (fun x => (eqV x.1 x.2.1, ())))
noncomputable abbrev s2 : Ex := mkExM Try.prog [KPs, KVe]
theorem s2_ok : s2.Sound := mkExM_sound ⟨pureSp_ok psameN_ok, pureSp_ok veq_ok, trivial⟩
theorem tRs (a b : TD RingN) : @Eq _
  (fnT s2 [] 100 Try.f20 [RingN, RingN] [.bool] (a, b, ()))
  (.req ((List.getD a.1 0 (0 : Int) == List.getD b.1 0 (0 : Int) && (List.getD a.1 1 (0 : Int) == List.getD b.1 1 (0 : Int) && (List.getD a.1 2 (0 : Int) == List.getD b.1 2 (0 : Int) && (List.getD a.1 3 (0 : Int) == List.getD b.1 3 (0 : Int) && (List.getD a.1 4 (0 : Int) == List.getD b.1 4 (0 : Int) && (List.getD a.1 5 (0 : Int) == List.getD b.1 5 (0 : Int) && (List.getD a.1 6 (0 : Int) == List.getD b.1 6 (0 : Int) && (List.getD a.1 7 (0 : Int) == List.getD b.1 7 (0 : Int) && true)))))))) = true → conjP ((((List.getD a.2.2 0 ((0 : Int), (0 : Int))).1 == (List.getD b.2.2 0 ((0 : Int), (0 : Int))).1 && ((List.getD a.2.2 0 ((0 : Int), (0 : Int))).2 == (List.getD b.2.2 0 ((0 : Int), (0 : Int))).2 && true) && ((List.getD a.2.2 1 ((0 : Int), (0 : Int))).1 == (List.getD b.2.2 1 ((0 : Int), (0 : Int))).1 && ((List.getD a.2.2 1 ((0 : Int), (0 : Int))).2 == (List.getD b.2.2 1 ((0 : Int), (0 : Int))).2 && true) && ((List.getD a.2.2 2 ((0 : Int), (0 : Int))).1 == (List.getD b.2.2 2 ((0 : Int), (0 : Int))).1 && ((List.getD a.2.2 2 ((0 : Int), (0 : Int))).2 == (List.getD b.2.2 2 ((0 : Int), (0 : Int))).2 && true) && ((List.getD a.2.2 3 ((0 : Int), (0 : Int))).1 == (List.getD b.2.2 3 ((0 : Int), (0 : Int))).1 && ((List.getD a.2.2 3 ((0 : Int), (0 : Int))).2 == (List.getD b.2.2 3 ((0 : Int), (0 : Int))).2 && true) && ((List.getD a.2.2 4 ((0 : Int), (0 : Int))).1 == (List.getD b.2.2 4 ((0 : Int), (0 : Int))).1 && ((List.getD a.2.2 4 ((0 : Int), (0 : Int))).2 == (List.getD b.2.2 4 ((0 : Int), (0 : Int))).2 && true) && ((List.getD a.2.2 5 ((0 : Int), (0 : Int))).1 == (List.getD b.2.2 5 ((0 : Int), (0 : Int))).1 && ((List.getD a.2.2 5 ((0 : Int), (0 : Int))).2 == (List.getD b.2.2 5 ((0 : Int), (0 : Int))).2 && true) && ((List.getD a.2.2 6 ((0 : Int), (0 : Int))).1 == (List.getD b.2.2 6 ((0 : Int), (0 : Int))).1 && ((List.getD a.2.2 6 ((0 : Int), (0 : Int))).2 == (List.getD b.2.2 6 ((0 : Int), (0 : Int))).2 && true) && ((List.getD a.2.2 7 ((0 : Int), (0 : Int))).1 == (List.getD b.2.2 7 ((0 : Int), (0 : Int))).1 && ((List.getD a.2.2 7 ((0 : Int), (0 : Int))).2 == (List.getD b.2.2 7 ((0 : Int), (0 : Int))).2 && true) && ((List.getD a.2.2 8 ((0 : Int), (0 : Int))).1 == (List.getD b.2.2 8 ((0 : Int), (0 : Int))).1 && ((List.getD a.2.2 8 ((0 : Int), (0 : Int))).2 == (List.getD b.2.2 8 ((0 : Int), (0 : Int))).2 && true) && ((List.getD a.2.2 9 ((0 : Int), (0 : Int))).1 == (List.getD b.2.2 9 ((0 : Int), (0 : Int))).1 && ((List.getD a.2.2 9 ((0 : Int), (0 : Int))).2 == (List.getD b.2.2 9 ((0 : Int), (0 : Int))).2 && true) && ((List.getD a.2.2 10 ((0 : Int), (0 : Int))).1 == (List.getD b.2.2 10 ((0 : Int), (0 : Int))).1 && ((List.getD a.2.2 10 ((0 : Int), (0 : Int))).2 == (List.getD b.2.2 10 ((0 : Int), (0 : Int))).2 && true) && ((List.getD a.2.2 11 ((0 : Int), (0 : Int))).1 == (List.getD b.2.2 11 ((0 : Int), (0 : Int))).1 && ((List.getD a.2.2 11 ((0 : Int), (0 : Int))).2 == (List.getD b.2.2 11 ((0 : Int), (0 : Int))).2 && true) && ((List.getD a.2.2 12 ((0 : Int), (0 : Int))).1 == (List.getD b.2.2 12 ((0 : Int), (0 : Int))).1 && ((List.getD a.2.2 12 ((0 : Int), (0 : Int))).2 == (List.getD b.2.2 12 ((0 : Int), (0 : Int))).2 && true) && ((List.getD a.2.2 13 ((0 : Int), (0 : Int))).1 == (List.getD b.2.2 13 ((0 : Int), (0 : Int))).1 && ((List.getD a.2.2 13 ((0 : Int), (0 : Int))).2 == (List.getD b.2.2 13 ((0 : Int), (0 : Int))).2 && true) && ((List.getD a.2.2 14 ((0 : Int), (0 : Int))).1 == (List.getD b.2.2 14 ((0 : Int), (0 : Int))).1 && ((List.getD a.2.2 14 ((0 : Int), (0 : Int))).2 == (List.getD b.2.2 14 ((0 : Int), (0 : Int))).2 && true) && ((List.getD a.2.2 15 ((0 : Int), (0 : Int))).1 == (List.getD b.2.2 15 ((0 : Int), (0 : Int))).1 && ((List.getD a.2.2 15 ((0 : Int), (0 : Int))).2 == (List.getD b.2.2 15 ((0 : Int), (0 : Int))).2 && true) && true)))))))))))))))) = true → conjP [(↑(List.length a.2.1.2.2) : Int) < (4611686018427387904 : Int)]) :: ([] : List Prop))) (
 .leaf ((List.getD a.1 0 (0 : Int) == List.getD b.1 0 (0 : Int) && (List.getD a.1 1 (0 : Int) == List.getD b.1 1 (0 : Int) && (List.getD a.1 2 (0 : Int) == List.getD b.1 2 (0 : Int) && (List.getD a.1 3 (0 : Int) == List.getD b.1 3 (0 : Int) && (List.getD a.1 4 (0 : Int) == List.getD b.1 4 (0 : Int) && (List.getD a.1 5 (0 : Int) == List.getD b.1 5 (0 : Int) && (List.getD a.1 6 (0 : Int) == List.getD b.1 6 (0 : Int) && (List.getD a.1 7 (0 : Int) == List.getD b.1 7 (0 : Int) && true))))))) && ((List.getD a.2.2 0 ((0 : Int), (0 : Int))).1 == (List.getD b.2.2 0 ((0 : Int), (0 : Int))).1 && ((List.getD a.2.2 0 ((0 : Int), (0 : Int))).2 == (List.getD b.2.2 0 ((0 : Int), (0 : Int))).2 && true) && ((List.getD a.2.2 1 ((0 : Int), (0 : Int))).1 == (List.getD b.2.2 1 ((0 : Int), (0 : Int))).1 && ((List.getD a.2.2 1 ((0 : Int), (0 : Int))).2 == (List.getD b.2.2 1 ((0 : Int), (0 : Int))).2 && true) && ((List.getD a.2.2 2 ((0 : Int), (0 : Int))).1 == (List.getD b.2.2 2 ((0 : Int), (0 : Int))).1 && ((List.getD a.2.2 2 ((0 : Int), (0 : Int))).2 == (List.getD b.2.2 2 ((0 : Int), (0 : Int))).2 && true) && ((List.getD a.2.2 3 ((0 : Int), (0 : Int))).1 == (List.getD b.2.2 3 ((0 : Int), (0 : Int))).1 && ((List.getD a.2.2 3 ((0 : Int), (0 : Int))).2 == (List.getD b.2.2 3 ((0 : Int), (0 : Int))).2 && true) && ((List.getD a.2.2 4 ((0 : Int), (0 : Int))).1 == (List.getD b.2.2 4 ((0 : Int), (0 : Int))).1 && ((List.getD a.2.2 4 ((0 : Int), (0 : Int))).2 == (List.getD b.2.2 4 ((0 : Int), (0 : Int))).2 && true) && ((List.getD a.2.2 5 ((0 : Int), (0 : Int))).1 == (List.getD b.2.2 5 ((0 : Int), (0 : Int))).1 && ((List.getD a.2.2 5 ((0 : Int), (0 : Int))).2 == (List.getD b.2.2 5 ((0 : Int), (0 : Int))).2 && true) && ((List.getD a.2.2 6 ((0 : Int), (0 : Int))).1 == (List.getD b.2.2 6 ((0 : Int), (0 : Int))).1 && ((List.getD a.2.2 6 ((0 : Int), (0 : Int))).2 == (List.getD b.2.2 6 ((0 : Int), (0 : Int))).2 && true) && ((List.getD a.2.2 7 ((0 : Int), (0 : Int))).1 == (List.getD b.2.2 7 ((0 : Int), (0 : Int))).1 && ((List.getD a.2.2 7 ((0 : Int), (0 : Int))).2 == (List.getD b.2.2 7 ((0 : Int), (0 : Int))).2 && true) && ((List.getD a.2.2 8 ((0 : Int), (0 : Int))).1 == (List.getD b.2.2 8 ((0 : Int), (0 : Int))).1 && ((List.getD a.2.2 8 ((0 : Int), (0 : Int))).2 == (List.getD b.2.2 8 ((0 : Int), (0 : Int))).2 && true) && ((List.getD a.2.2 9 ((0 : Int), (0 : Int))).1 == (List.getD b.2.2 9 ((0 : Int), (0 : Int))).1 && ((List.getD a.2.2 9 ((0 : Int), (0 : Int))).2 == (List.getD b.2.2 9 ((0 : Int), (0 : Int))).2 && true) && ((List.getD a.2.2 10 ((0 : Int), (0 : Int))).1 == (List.getD b.2.2 10 ((0 : Int), (0 : Int))).1 && ((List.getD a.2.2 10 ((0 : Int), (0 : Int))).2 == (List.getD b.2.2 10 ((0 : Int), (0 : Int))).2 && true) && ((List.getD a.2.2 11 ((0 : Int), (0 : Int))).1 == (List.getD b.2.2 11 ((0 : Int), (0 : Int))).1 && ((List.getD a.2.2 11 ((0 : Int), (0 : Int))).2 == (List.getD b.2.2 11 ((0 : Int), (0 : Int))).2 && true) && ((List.getD a.2.2 12 ((0 : Int), (0 : Int))).1 == (List.getD b.2.2 12 ((0 : Int), (0 : Int))).1 && ((List.getD a.2.2 12 ((0 : Int), (0 : Int))).2 == (List.getD b.2.2 12 ((0 : Int), (0 : Int))).2 && true) && ((List.getD a.2.2 13 ((0 : Int), (0 : Int))).1 == (List.getD b.2.2 13 ((0 : Int), (0 : Int))).1 && ((List.getD a.2.2 13 ((0 : Int), (0 : Int))).2 == (List.getD b.2.2 13 ((0 : Int), (0 : Int))).2 && true) && ((List.getD a.2.2 14 ((0 : Int), (0 : Int))).1 == (List.getD b.2.2 14 ((0 : Int), (0 : Int))).1 && ((List.getD a.2.2 14 ((0 : Int), (0 : Int))).2 == (List.getD b.2.2 14 ((0 : Int), (0 : Int))).2 && true) && ((List.getD a.2.2 15 ((0 : Int), (0 : Int))).1 == (List.getD b.2.2 15 ((0 : Int), (0 : Int))).1 && ((List.getD a.2.2 15 ((0 : Int), (0 : Int))).2 == (List.getD b.2.2 15 ((0 : Int), (0 : Int))).2 && true) && true))))))))))))))) && Pl.cmpP a.2.1 b.2.1 == (0 : Int)), ()))) : Tree (Bool × PUnit)) := by kernel_rfl
theorem tBs (a b : TD BagT) : @Eq _
  (fnT s2 [] 100 Try.f19 [BagT, BagT] [.bool] (a, b, ()))
  (.req ((List.getD a.1 0 (0 : Int) == List.getD b.1 0 (0 : Int) && (List.getD a.1 1 (0 : Int) == List.getD b.1 1 (0 : Int) && (List.getD a.1 2 (0 : Int) == List.getD b.1 2 (0 : Int) && (List.getD a.1 3 (0 : Int) == List.getD b.1 3 (0 : Int) && (List.getD a.1 4 (0 : Int) == List.getD b.1 4 (0 : Int) && (List.getD a.1 5 (0 : Int) == List.getD b.1 5 (0 : Int) && (List.getD a.1 6 (0 : Int) == List.getD b.1 6 (0 : Int) && (List.getD a.1 7 (0 : Int) == List.getD b.1 7 (0 : Int) && true)))))))) = true → conjP [(↑(List.length a.2) : Int) ≤ (9223372036854775807 : Int)]) (
 .leaf ((List.getD a.1 0 (0 : Int) == List.getD b.1 0 (0 : Int) && (List.getD a.1 1 (0 : Int) == List.getD b.1 1 (0 : Int) && (List.getD a.1 2 (0 : Int) == List.getD b.1 2 (0 : Int) && (List.getD a.1 3 (0 : Int) == List.getD b.1 3 (0 : Int) && (List.getD a.1 4 (0 : Int) == List.getD b.1 4 (0 : Int) && (List.getD a.1 5 (0 : Int) == List.getD b.1 5 (0 : Int) && (List.getD a.1 6 (0 : Int) == List.getD b.1 6 (0 : Int) && (List.getD a.1 7 (0 : Int) == List.getD b.1 7 (0 : Int) && true))))))) && Pl.eqV a.2 b.2, ()))) : Tree (Bool × PUnit)) := by kernel_rfl
end Pl
