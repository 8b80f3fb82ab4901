import Derived.Test.YtofimljfdlnkgaaNeNeC
import Derived.Test.YtofimljfdlnkgaaSx32
namespace Pl
open Go Sx Go.Proofs Go.RowKit
def zM : MsgD := (0, 0, 0, 0, 0, 0, 0, 0, ByteArray.empty, (List.replicate 8 0, []), (List.replicate 8 0, (0, 0, []), List.replicate 16 (0, 0)), [])
def takeF (o : List MsgD) (i : Int) : List MsgD × MsgD × Bool := if 0 ≤ i ∧ i < (o.length : Int) then (o.eraseIdx i.toNat, o.getD i.toNat zM, true) else (o, zM, false)
def atF (o : List MsgD) (i : Int) : List MsgD × MsgD × Bool := if 0 ≤ i ∧ i < (o.length : Int) then (o, o.getD i.toNat zM, true) else (o, zM, false)
abbrev netP : List MsgD → Prop := fun o => o.length ≤ 500 ∧ ∀ m ∈ o, okM m
theorem at_okN : MutOK true Try.prog 13 (.row MsgT) [i64] [MsgT, .bool] (fun x => netP x.1) (fun x => ((atF x.1 x.2.1).1, (atF x.1 x.2.1).2.1, (atF x.1 x.2.1).2.2, ())) :=
  fn_mut (E := n2) (n := 100) n2_ok Try.func13 (by kernel_rfl) .nil fun o x h => by
    obtain ⟨i, _⟩ : Int × Unit := x
    obtain ⟨h1, h2⟩ : List.length (α := MsgD) o ≤ 500 ∧ ∀ m ∈ (o : List MsgD), okM m := h
    refine Tree.all_eq (tAt o i) ?_
    show Tree.all _ fun y => y = ((atF o i).1, (atF o i).2.1, (atF o i).2.2, ())
    unfold atF
    by_cases c : 0 ≤ i ∧ i < (List.length (α := MsgD) o : Int)
    · have hlt : i.toNat < List.length (α := MsgD) o := by omega
      rw [if_pos c, getD_get _ hlt, getD_get _ hlt]
      have hm := h2 _ (List.getElem_mem hlt)
      generalize (o : List MsgD)[i.toNat] = C at *
      obtain ⟨m1, m2, m3, m4, m5, m6⟩ := id hm
      have e4 : ∀ z, tab 8 C.2.2.2.2.2.2.2.2.2.1.1 z = C.2.2.2.2.2.2.2.2.2.1.1 := fun z => tab_eq m4
      have e5 : ∀ z, tab 8 C.2.2.2.2.2.2.2.2.2.2.1.1 z = C.2.2.2.2.2.2.2.2.2.2.1.1 := fun z => tab_eq m5
      have e6 : ∀ z, tab 16 C.2.2.2.2.2.2.2.2.2.2.1.2.2 z = C.2.2.2.2.2.2.2.2.2.2.1.2.2 := fun z => tab_eq m6
      refine ⟨fun e => absurd (of_decide_eq_true e) (by omega), fun _ => ⟨fun e => absurd (of_decide_eq_true e) (by omega), fun _ => ⟨c, c, ?_, ?_⟩⟩⟩
      · rw [e4, e5, e6]; exact hm
      · erw [e4, e5, e6]; rfl
    · rw [if_neg c]
      refine ⟨fun _ => rfl, fun e => ⟨fun _ => rfl, fun e2 => ?_⟩⟩
      have e := of_decide_eq_false e
      have e2 := of_decide_eq_false e2
      exact absurd ⟨by omega, by omega⟩ c
theorem take_okN : MutOK true Try.prog 10 (.row MsgT) [i64] [MsgT, .bool] (fun x => netP x.1) (fun x => ((takeF x.1 x.2.1).1, (takeF x.1 x.2.1).2.1, (takeF x.1 x.2.1).2.2, ())) :=
  fn_mut (E := n4) (n := 100) n4_ok Try.func10 (by kernel_rfl) .nil fun o x h => by
    obtain ⟨i, _⟩ : Int × Unit := x
    obtain ⟨h1, h2⟩ : List.length (α := MsgD) o ≤ 500 ∧ ∀ m ∈ (o : List MsgD), okM m := h
    refine Tree.all_eq (tTk o i) ?_
    show Tree.all _ fun y => y = ((takeF o i).1, (takeF o i).2.1, (takeF o i).2.2, ())
    unfold takeF
    by_cases c : 0 ≤ i ∧ i < (List.length (α := MsgD) o : Int)
    · have hlt : i.toNat < List.length (α := MsgD) o := by omega
      rw [if_pos c, getD_get _ hlt, getD_get _ hlt]
      have hm := h2 _ (List.getElem_mem hlt)
      generalize (o : List MsgD)[i.toNat] = C at *
      obtain ⟨m1, m2, m3, m4, m5, m6⟩ := id hm
      have e4 : ∀ z, tab 8 C.2.2.2.2.2.2.2.2.2.1.1 z = C.2.2.2.2.2.2.2.2.2.1.1 := fun z => tab_eq m4
      have e5 : ∀ z, tab 8 C.2.2.2.2.2.2.2.2.2.2.1.1 z = C.2.2.2.2.2.2.2.2.2.2.1.1 := fun z => tab_eq m5
      have e6 : ∀ z, tab 16 C.2.2.2.2.2.2.2.2.2.2.1.2.2 z = C.2.2.2.2.2.2.2.2.2.2.1.2.2 := fun z => tab_eq m6
      rw [IntWalk.i64_in (i + 1) (by omega), show (i + 1).toNat = i.toNat + 1 by omega]
      have hk : i = ((i.toNat : Nat) : Int) := by omega
      generalize i.toNat = k at *
      have hlen : ((List.length (α := MsgD) o : Nat) : Int).toNat = List.length (α := MsgD) o := Int.toNat_natCast _
      rw [hlen]
      have hN : k - 0 + (List.length (α := MsgD) o - (k + 1)) = List.length (α := MsgD) o - 1 := by omega
      rw [hN]
      have hE : List.take (k - 0) o ++ List.drop (k + 1) o = List.eraseIdx (α := MsgD) o k := by rw [Nat.sub_zero, List.eraseIdx_eq_take_drop_succ]
      rw [hE]
      have hEl : (List.eraseIdx (α := MsgD) o k).length = List.length (α := MsgD) o - 1 := by rw [List.length_eraseIdx, if_pos hlt]
      have hLl : (List.eraseIdx (α := MsgD) o k ++ List.drop (List.length (α := MsgD) o - 1) o).length = List.length (α := MsgD) o := by rw [List.length_append, hEl, List.length_drop]; omega
      rw [hLl, show min (List.length (α := MsgD) o - 1) (List.length (α := MsgD) o - 0) = List.length (α := MsgD) o - 1 by omega]
      refine ⟨fun e => absurd (of_decide_eq_true e) (by omega), fun _ => ⟨fun e => absurd (of_decide_eq_true e) (by omega), fun _ => ⟨c, c, ?_, ⟨by omega, by omega, by omega, by omega⟩, fun e => absurd (eq_of_beq e) (by omega), fun _ => ⟨⟨by omega, by omega, by omega⟩, ⟨by omega, by omega, by omega⟩, ⟨rfl, by omega, by omega⟩, ⟨by omega, by omega, by omega⟩, ?_, ?_⟩⟩⟩⟩
      · rw [e4, e5, e6]; exact hm
      · rw [Int.toNat_natCast]; omega
      · have hw : List.take (0 + ((List.length (α := MsgD) o - 1 : Nat) : Int).toNat) (List.eraseIdx (α := MsgD) o k ++ List.drop (List.length (α := MsgD) o - 1) o) = List.eraseIdx (α := MsgD) o k := by
          rw [Int.toNat_natCast, Nat.zero_add, List.take_left' hEl]
        rw [hw, List.drop_zero, List.append_assoc, List.take_left' hEl]
        erw [e4, e5, e6]; rfl
    · rw [if_neg c]
      refine ⟨fun _ => rfl, fun e => ⟨fun _ => rfl, fun e2 => ?_⟩⟩
      have e := of_decide_eq_false e
      have e2 := of_decide_eq_false e2
      exact absurd ⟨by omega, by omega⟩ c
end Pl
namespace Pl
open Go Sx Go.Proofs Go.RowKit
noncomputable abbrev KTkN : Nat × Sx.Spec := (10, mutSp true (.row MsgT) [i64] [MsgT, .bool] (fun x => netP x.1) (fun x => ((takeF x.1 x.2.1).1, (takeF x.1 x.2.1).2.1, (takeF x.1 x.2.1).2.2, ())))
noncomputable abbrev KAtN : Nat × Sx.Spec := (13, mutSp true (.row MsgT) [i64] [MsgT, .bool] (fun x => netP x.1) (fun x => ((atF x.1 x.2.1).1, (atF x.1 x.2.1).2.1, (atF x.1 x.2.1).2.2, ())))
noncomputable abbrev KNn : Nat × Sx.Spec := (7, fnI E0 [] 100 Try.f7)
noncomputable abbrev n5 : Ex := mkExM Try.prog [KNn, KSd, KTkN, KAtN, KLn]
theorem n5_ok : n5.Sound := mkExM_sound ⟨fnI_ok (E := E0) E0_ok Try.func7 (by kernel_rfl) .nil, mutSp_ok send_ok, mutSp_ok take_okN, mutSp_ok at_okN, fnI_ok (E := E0) E0_ok Try.func9 (by kernel_rfl) .nil, trivial⟩
theorem tAwN  : @Eq _
  (cutT <| fnT n5 [] 100 Try.f11 [] [.bool] ())
  (.req (0 ≤ 500 ∧ (2 : Int) < (4611686018427387904 : Int) ∧ ∀ (m : TD Pl.MsgT), m ∈ [((1 : Int), (0 : Int), (0 : Int), (0 : Int), (0 : Int), (0 : Int), (0 : Int), (0 : Int), { data := { toList := ([] : List UInt8) } }, (List.replicate 8 (0 : Int), ([] : List ((Int × Int) × ByteArray))), (List.replicate 8 (0 : Int), ((0 : Int), (0 : Int), ([] : List Int)), List.replicate 16 ((0 : Int), (0 : Int))), ([] : List (Int × Int × Int))), ((2 : Int), (0 : Int), (0 : Int), (0 : Int), (0 : Int), (0 : Int), (0 : Int), (0 : Int), { data := { toList := ([] : List UInt8) } }, (List.replicate 8 (0 : Int), ([] : List ((Int × Int) × ByteArray))), (List.replicate 8 (0 : Int), ((0 : Int), (0 : Int), ([] : List Int)), List.replicate 16 ((0 : Int), (0 : Int))), ([] : List (Int × Int × Int)))] → Pl.okM m) (
 .req (2 ≤ 500 ∧ ∀ (m : Pl.MsgD), m ∈ [((1 : Int), (0 : Int), (0 : Int), (0 : Int), (0 : Int), (0 : Int), (0 : Int), (0 : Int), { data := { toList := ([] : List UInt8) } }, (List.replicate 8 (0 : Int), ([] : List ((Int × Int) × ByteArray))), (List.replicate 8 (0 : Int), ((0 : Int), (0 : Int), ([] : List Int)), List.replicate 16 ((0 : Int), (0 : Int))), ([] : List (Int × Int × Int))), ((2 : Int), (0 : Int), (0 : Int), (0 : Int), (0 : Int), (0 : Int), (0 : Int), (0 : Int), { data := { toList := ([] : List UInt8) } }, (List.replicate 8 (0 : Int), ([] : List ((Int × Int) × ByteArray))), (List.replicate 8 (0 : Int), ((0 : Int), (0 : Int), ([] : List Int)), List.replicate 16 ((0 : Int), (0 : Int))), ([] : List (Int × Int × Int)))] → Pl.okM m) (
  .req (1 ≤ 500 ∧ ∀ (m : Pl.MsgD), m ∈ [((2 : Int), (0 : Int), (0 : Int), (0 : Int), (0 : Int), (0 : Int), (0 : Int), (0 : Int), { data := { toList := ([] : List UInt8) } }, (List.replicate 8 (0 : Int), ([] : List ((Int × Int) × ByteArray))), (List.replicate 8 (0 : Int), ((0 : Int), (0 : Int), ([] : List Int)), List.replicate 16 ((0 : Int), (0 : Int))), ([] : List (Int × Int × Int)))] → Pl.okM m) (
   .leaf ((true, ()))))) : Tree (Bool × PUnit)) := by kernel_rfl
def mkM (k s : Int) : MsgD := (k, 0, 0, s, 0, 0, 0, 0, ByteArray.empty, (List.replicate 8 0, []), (List.replicate 8 0, (0, 0, []), List.replicate 16 (0, 0)), [])
theorem okM_mk (k s : Int) : okM (mkM k s) := ⟨Nat.zero_le _, Nat.zero_le _, Nat.zero_le _, rfl, rfl, rfl⟩
theorem okM_all {l : List MsgD} (h : ∀ m ∈ l, ∃ k s, m = mkM k s) : ∀ m ∈ l, okM m := fun m hm => by obtain ⟨k, s, rfl⟩ := h m hm; exact okM_mk k s
theorem aw_okN : PureOK Try.prog 11 [] [.bool] (fun _ => True) (fun _ => (true, ())) :=
  fn_pure (E := n5) (n := 100) n5_ok Try.func11 (by kernel_rfl) .nil fun x _ => by
    refine cut_all (Tree.all_eq tAwN ?_)
    have h2 : ∀ m ∈ [mkM 1 0, mkM 2 0], okM m := fun m hm => by
      simp only [List.mem_cons, List.not_mem_nil, or_false] at hm
      rcases hm with rfl | rfl <;> exact okM_mk _ _
    have h1 : ∀ m ∈ [mkM 2 0], okM m := fun m hm => by
      simp only [List.mem_cons, List.not_mem_nil, or_false] at hm
      subst hm; exact okM_mk _ _
    exact ⟨⟨by decide, by decide, h2⟩, ⟨by decide, h2⟩, ⟨by decide, h1⟩, rfl⟩
abbrev KAwN : Nat × Sx.Spec := (11, pureSp [] [.bool] (fun _ => True) (fun _ => (true, ())))
noncomputable abbrev n6 : Ex := mkExM Try.prog [KNn, KSd, KTkN, KAtN, KLn, KAwN]
theorem n6_ok : n6.Sound := mkExM_sound ⟨fnI_ok (E := E0) E0_ok Try.func7 (by kernel_rfl) .nil, mutSp_ok send_ok, mutSp_ok take_okN, mutSp_ok at_okN, fnI_ok (E := E0) E0_ok Try.func9 (by kernel_rfl) .nil, pureSp_ok aw_okN, trivial⟩
end Pl
namespace Pl
open Go Sx Go.Proofs Go.RowKit
def seqM (n : Nat) : List MsgD := List.map (fun (j : Nat) => mkM 1 (j : Int)) (List.range n)
structure AOa where
  b : Bool
  n : Int
  i : Int
  o : List MsgD
def LOa : LoopC AOa where
  n0 := 1
  det st := match boolS st 1, intS st 19, intS st 20, rowC st 0 0 MsgT with | some b, some n, some i, some o => some ⟨b, n, i, o⟩ | _, _, _, _ => none
  rows := [(1, .cell 0 0)]
  inv a := ⟨[(20, iv a.i), (19, iv a.n), (5, .one (.ptr 0 0)), (0, iv a.n), (1, .one (.bool a.b))],
    [(0, .blk [.row 1]), (1, .own MsgT a.o)], 2⟩
  ok a := 0 ≤ a.i ∧ a.i ≤ a.n ∧ a.n < 60 ∧ a.o = seqM a.i.toNat
  mu a := (a.n - a.i).toNat
  fin a := .leaf ⟨2, ⟨[(5, .one (.ptr 0 0)), (0, iv a.n), (1, .one (.bool a.b))],
    [(0, .blk [.row 1]), (1, .own MsgT (seqM a.n.toNat))], 2⟩⟩
theorem rOa (b : Bool) (n i : Int) (o : List MsgD) : @Eq _
  (LOa.round n6 [] 100 Try.f3 0 ⟨b, n, i, o⟩)
  (.fork (decide (i < n)) (
 .req (o.length ≤ 500 ∧ (1 : Int) < (4611686018427387904 : Int) ∧ ∀ (m : TD Pl.MsgT), m ∈ [((1 : Int), (0 : Int), (0 : Int), i, (0 : Int), (0 : Int), (0 : Int), (0 : Int), { data := { toList := ([] : List UInt8) } }, (List.replicate 8 (0 : Int), ([] : List ((Int × Int) × ByteArray))), (List.replicate 8 (0 : Int), ((0 : Int), (0 : Int), ([] : List Int)), List.replicate 16 ((0 : Int), (0 : Int))), ([] : List (Int × Int × Int)))] → Pl.okM m) (
  .fork ((Pl.sendF o [((1 : Int), (0 : Int), (0 : Int), i, (0 : Int), (0 : Int), (0 : Int), (0 : Int), { data := { toList := ([] : List UInt8) } }, (List.replicate 8 (0 : Int), ([] : List ((Int × Int) × ByteArray))), (List.replicate 8 (0 : Int), ((0 : Int), (0 : Int), ([] : List Int)), List.replicate 16 ((0 : Int), (0 : Int))), ([] : List (Int × Int × Int)))]).2 != (1 : Int)) (
   .req (False) (
    .leaf (Option.none))) (
   .req (IntKind.i64.wrap (i + (1 : Int)) = IntKind.i64.wrap (i + (1 : Int)) ∧ n = n ∧ n = n ∧ b = b ∧ (Pl.sendF o [((1 : Int), (0 : Int), (0 : Int), i, (0 : Int), (0 : Int), (0 : Int), (0 : Int), { data := { toList := ([] : List UInt8) } }, (List.replicate 8 (0 : Int), ([] : List ((Int × Int) × ByteArray))), (List.replicate 8 (0 : Int), ((0 : Int), (0 : Int), ([] : List Int)), List.replicate 16 ((0 : Int), (0 : Int))), ([] : List (Int × Int × Int)))]).1 = (Pl.sendF o [((1 : Int), (0 : Int), (0 : Int), i, (0 : Int), (0 : Int), (0 : Int), (0 : Int), { data := { toList := ([] : List UInt8) } }, (List.replicate 8 (0 : Int), ([] : List ((Int × Int) × ByteArray))), (List.replicate 8 (0 : Int), ((0 : Int), (0 : Int), ([] : List Int)), List.replicate 16 ((0 : Int), (0 : Int))), ([] : List (Int × Int × Int)))]).1) (
    .leaf (Option.some { b := b, n := n, i := IntKind.i64.wrap (i + (1 : Int)), o := (Pl.sendF o [((1 : Int), (0 : Int), (0 : Int), i, (0 : Int), (0 : Int), (0 : Int), (0 : Int), { data := { toList := ([] : List UInt8) } }, (List.replicate 8 (0 : Int), ([] : List ((Int × Int) × ByteArray))), (List.replicate 8 (0 : Int), ((0 : Int), (0 : Int), ([] : List Int)), List.replicate 16 ((0 : Int), (0 : Int))), ([] : List (Int × Int × Int)))]).1 }))))) (
 .req (n = n ∧ b = b ∧ o = Pl.seqM n.toNat) (
  .leaf (Option.none))) : Tree (Option Pl.AOa)) := by kernel_rfl
noncomputable abbrev oaP : Nat × (St → Tree Out) := (0, LOa.sp)
structure AOb where
  b : Bool
  n : Int
  i : Int
  o : List MsgD
def LOb : LoopC AOb where
  n0 := 2
  det st := match boolS st 1, intS st 30, intS st 31, rowC st 0 0 MsgT with | some b, some n, some i, some o => some ⟨b, n, i, o⟩ | _, _, _, _ => none
  rows := [(2, .cell 0 0)]
  inv a := ⟨[(31, iv a.i), (30, iv a.n), (5, .one (.ptr 0 0)), (0, iv a.n), (1, .one (.bool a.b))],
    [(0, .blk [.row 2]), (2, .own MsgT a.o)], 3⟩
  ok a := 0 ≤ a.i ∧ a.i ≤ a.n ∧ a.n < 60 ∧ a.o = (if a.b = true then seqM (a.n - a.i).toNat else (seqM a.n.toNat).drop a.i.toNat)
  mu a := (a.n - a.i).toNat
  fin a := .leaf ⟨4, ⟨[(5, .one (.ptr 0 0))],
    [(0, .blk [.row 2]), (2, .own MsgT [])], 3⟩⟩
theorem rOb (b : Bool) (n i : Int) (o : List MsgD) : @Eq _
  (LOb.round n6 [] 100 Try.f3 1 ⟨b, n, i, o⟩)
  (.fork (decide (i < n)) (
 .fork (b) (
  .req (o.length ≤ 500 ∧ ∀ (m : Pl.MsgD), m ∈ o → Pl.okM m) (
   .req (True) (
    .fork (!(Pl.takeF o (IntKind.i64.wrap ((↑o.length : Int) - (1 : Int)))).2.2 || (Pl.takeF o (IntKind.i64.wrap ((↑o.length : Int) - (1 : Int)))).2.1.2.2.2.1 != IntKind.i64.wrap (IntKind.i64.wrap (n - (1 : Int)) - i)) (
     .req (False) (
      .leaf (Option.none))) (
     .req (IntKind.i64.wrap (i + (1 : Int)) = IntKind.i64.wrap (i + (1 : Int)) ∧ n = n ∧ n = n ∧ b = b ∧ (Pl.takeF o (IntKind.i64.wrap ((↑o.length : Int) - (1 : Int)))).1 = (Pl.takeF o (IntKind.i64.wrap ((↑o.length : Int) - (1 : Int)))).1) (
      .leaf (Option.some { b := b, n := n, i := IntKind.i64.wrap (i + (1 : Int)), o := (Pl.takeF o (IntKind.i64.wrap ((↑o.length : Int) - (1 : Int)))).1 })))))) (
  .req (o.length ≤ 500 ∧ ∀ (m : Pl.MsgD), m ∈ o → Pl.okM m) (
   .req (True) (
    .fork (!(Pl.takeF o (0 : Int)).2.2 || (Pl.takeF o (0 : Int)).2.1.2.2.2.1 != i) (
     .req (False) (
      .leaf (Option.none))) (
     .req (IntKind.i64.wrap (i + (1 : Int)) = IntKind.i64.wrap (i + (1 : Int)) ∧ n = n ∧ n = n ∧ b = b ∧ (Pl.takeF o (0 : Int)).1 = (Pl.takeF o (0 : Int)).1) (
      .leaf (Option.some { b := b, n := n, i := IntKind.i64.wrap (i + (1 : Int)), o := (Pl.takeF o (0 : Int)).1 }))))))) (
 .req (o = ([] : List (Int × Int × Int × Int × Int × Int × Int × Int × ByteArray × (List Int × List ((Int × Int) × ByteArray)) × (List Int × (Int × Int × List Int) × List (Int × Int)) × List (Int × Int × Int)))) (
  .leaf (Option.none))) : Tree (Option Pl.AOb)) := by kernel_rfl
noncomputable abbrev obP : Nat × (St → Tree Out) := (1, LOb.sp)
theorem tOr (n : Int) (b : Bool) : @Eq _
  (fnT n6 [oaP, obP] 100 Try.f3 [i64, .bool] [.bool] (n, b, ()))
  (.req ((60 : Int) ≠ (0 : Int)) (
 .req ((0 : Int) ≤ (0 : Int) ∧ (0 : Int) ≤ IntKind.i64.wrap ((IntKind.u64.wrap n).tmod (60 : Int)) ∧ IntKind.i64.wrap ((IntKind.u64.wrap n).tmod (60 : Int)) < (60 : Int) ∧ ([] : List (Int × Int × Int × Int × Int × Int × Int × Int × ByteArray × (List Int × List ((Int × Int) × ByteArray)) × (List Int × (Int × Int × List Int) × List (Int × Int)) × List (Int × Int × Int))) = Pl.seqM 0) (
  .req ((0 : Int) = (0 : Int) ∧ IntKind.i64.wrap ((IntKind.u64.wrap n).tmod (60 : Int)) = IntKind.i64.wrap ((IntKind.u64.wrap n).tmod (60 : Int)) ∧ IntKind.i64.wrap ((IntKind.u64.wrap n).tmod (60 : Int)) = IntKind.i64.wrap ((IntKind.u64.wrap n).tmod (60 : Int)) ∧ b = b ∧ ([] : List (Int × Int × Int × Int × Int × Int × Int × Int × ByteArray × (List Int × List ((Int × Int) × ByteArray)) × (List Int × (Int × Int × List Int) × List (Int × Int)) × List (Int × Int × Int))) = ([] : List (Int × Int × Int × Int × Int × Int × Int × Int × ByteArray × (List Int × List ((Int × Int) × ByteArray)) × (List Int × (Int × Int × List Int) × List (Int × Int)) × List (Int × Int × Int)))) (
   .req ((0 : Int) ≤ (0 : Int) ∧ (0 : Int) ≤ IntKind.i64.wrap ((IntKind.u64.wrap n).tmod (60 : Int)) ∧ IntKind.i64.wrap ((IntKind.u64.wrap n).tmod (60 : Int)) < (60 : Int) ∧ Pl.seqM (IntKind.i64.wrap ((IntKind.u64.wrap n).tmod (60 : Int))).toNat = if b = true then Pl.seqM (IntKind.i64.wrap ((IntKind.u64.wrap n).tmod (60 : Int)) - (0 : Int)).toNat else Pl.seqM (IntKind.i64.wrap ((IntKind.u64.wrap n).tmod (60 : Int))).toNat) (
    .req ((0 : Int) = (0 : Int) ∧ IntKind.i64.wrap ((IntKind.u64.wrap n).tmod (60 : Int)) = IntKind.i64.wrap ((IntKind.u64.wrap n).tmod (60 : Int)) ∧ IntKind.i64.wrap ((IntKind.u64.wrap n).tmod (60 : Int)) = IntKind.i64.wrap ((IntKind.u64.wrap n).tmod (60 : Int)) ∧ b = b ∧ Pl.seqM (IntKind.i64.wrap ((IntKind.u64.wrap n).tmod (60 : Int))).toNat = Pl.seqM (IntKind.i64.wrap ((IntKind.u64.wrap n).tmod (60 : Int))).toNat) (
     .req (0 ≤ 500 ∧ ∀ (m : Pl.MsgD), m ∈ ([] : List (Int × Int × Int × Int × Int × Int × Int × Int × ByteArray × (List Int × List ((Int × Int) × ByteArray)) × (List Int × (Int × Int × List Int) × List (Int × Int)) × List (Int × Int × Int))) → Pl.okM m) (
      .fork (!(Pl.takeF (([] : List (Int × Int × Int × Int × Int × Int × Int × Int × ByteArray × (List Int × List ((Int × Int) × ByteArray)) × (List Int × (Int × Int × List Int) × List (Int × Int)) × List (Int × Int × Int)))) (0 : Int)).2.2) (
       .fork ((↑(Pl.takeF (([] : List (Int × Int × Int × Int × Int × Int × Int × Int × ByteArray × (List Int × List ((Int × Int) × ByteArray)) × (List Int × (Int × Int × List Int) × List (Int × Int)) × List (Int × Int × Int)))) (0 : Int)).1.length : Int) == (0 : Int)) (
        .req (True) (
         .leaf ((true, ())))) (
        .leaf ((false, ())))) (
       .leaf ((false, ()))))))))) : Tree (Bool × PUnit)) := by kernel_rfl
end Pl
namespace Pl
open Go Sx Go.Proofs Go.RowKit
theorem seqM_len (n : Nat) : (seqM n).length = n := by simp [seqM]
theorem seqM_succ (n : Nat) : seqM (n + 1) = seqM n ++ [mkM 1 (n : Int)] := by simp [seqM, List.range_succ]
theorem seqM_okM (n : Nat) : ∀ m ∈ seqM n, okM m := fun m hm => by
  simp only [seqM, List.mem_map] at hm
  obtain ⟨k, _, rfl⟩ := hm
  exact okM_mk _ _
theorem seqM_get {n k : Nat} (h : k < n) : (seqM n).getD k zM = mkM 1 (k : Int) := by
  simp [seqM, List.getD_eq_getElem?_getD, h]
theorem sendF_one {o : List MsgD} {m : MsgD} (h : o.length < 500) : sendF o [m] = (o ++ [m], 1) := by
  have e : List.take (500 - o.length) [m] = [m] := List.take_of_length_le (by simp; omega)
  have e2 : min [m].length (500 - o.length) = 1 := by rw [List.length_singleton]; omega
  unfold sendF
  rw [e, e2]; rfl
theorem takeF_at {o : List MsgD} {i : Int} (h0 : 0 ≤ i) (h1 : i < o.length) : takeF o i = (o.eraseIdx i.toNat, o.getD i.toNat zM, true) := by
  unfold takeF; rw [if_pos ⟨h0, h1⟩]
theorem lOa : LpsOK Try.prog Try.f3 [oaP] := by
  refine .cons (LOa.sound n6_ok (lps := []) (n := 100) (inner rfl) (fun _ => rfl) ?_) .nil
  rintro ⟨b, n, i, o⟩ ⟨h1, h2, h3, h4⟩
  simp only at h1 h2 h3 h4
  subst h4
  have hl := seqM_len i.toNat
  have hsend : sendF (seqM i.toNat) [mkM 1 i] = (seqM (i + 1).toNat, 1) := by
    rw [sendF_one (by omega), show (i + 1).toNat = i.toNat + 1 by omega, seqM_succ, show ((i.toNat : Nat) : Int) = i by omega]
  rw [rOa]
  refine ⟨fun c => ?_, fun c => ?_⟩
  · have c : i < n := of_decide_eq_true c
    refine ⟨⟨by omega, by decide, fun m hm => ?_⟩, fun e => ?_, fun _ => ⟨by repeat' (first | exact trivial | rfl | apply And.intro), ?_⟩⟩
    · have hm : m ∈ [mkM 1 i] := hm
      rw [List.mem_singleton] at hm; subst hm; exact okM_mk _ _
    · exfalso
      have e : ((sendF (seqM i.toNat) [mkM 1 i]).2 != 1) = true := e
      rw [hsend] at e; exact absurd e (by simp)
    · rw [IntWalk.i64_in (i + 1) (by omega)]
      refine ⟨⟨by dsimp only; omega, by dsimp only; omega, h3, ?_⟩, by simp only [LOa]; omega, rfl⟩
      show (sendF (seqM i.toNat) [mkM 1 i]).1 = seqM (i + 1).toNat
      rw [hsend]
  · have c : ¬ i < n := of_decide_eq_false c
    exact ⟨⟨rfl, rfl, by rw [show i = n by omega]⟩, trivial⟩
theorem lOb : LpsOK Try.prog Try.f3 [oaP, obP] := by
  refine .cons (lOa 0 _ rfl) (.cons (LOb.sound n6_ok (lps := []) (n := 100) (inner rfl) (fun _ => rfl) ?_) .nil)
  rintro ⟨b, n, i, o⟩ ⟨h1, h2, h3, h4⟩
  simp only at h1 h2 h3 h4
  rw [rOb]
  have hok : o.length ≤ 500 ∧ ∀ m ∈ o, okM m := by
    rw [h4]
    cases b with
    | true => simp only [if_true]; exact ⟨by rw [seqM_len]; omega, seqM_okM _⟩
    | false => simp only [Bool.false_eq_true, if_false]; exact ⟨by rw [List.length_drop, seqM_len]; omega, fun m hm => seqM_okM _ m (List.mem_of_mem_drop hm)⟩
  refine ⟨fun c => ?_, fun c => ?_⟩
  · have c : i < n := of_decide_eq_true c
    have next : ∀ o', o' = (if b = true then seqM (n - (i + 1)).toNat else (seqM n.toNat).drop (i + 1).toNat) → LOb.Next ⟨b, n, i, o⟩ (some ⟨b, n, IntKind.i64.wrap (i + 1), o'⟩) := by
      intro o' e
      rw [IntWalk.i64_in (i + 1) (by omega)]
      exact ⟨⟨by dsimp only; omega, by dsimp only; omega, h3, e⟩, by simp only [LOb]; omega, rfl⟩
    refine ⟨fun hb => ?_, fun hb => ?_⟩
    · have hb : b = true := hb
      subst hb
      simp only [if_true] at h4 next
      have hl : o.length = (n - i).toNat := by rw [h4, seqM_len]
      have htk : takeF o (IntKind.i64.wrap ((o.length : Int) - 1)) = (seqM (n - (i + 1)).toNat, mkM 1 (n - 1 - i), true) := by
        rw [IntWalk.i64_in _ (by omega), takeF_at (by omega) (by omega), h4]
        have e1 : (((seqM (n - i).toNat).length : Int) - 1).toNat = (n - (i + 1)).toNat := by rw [seqM_len]; omega
        have e2 : (n - i).toNat = (n - (i + 1)).toNat + 1 := by omega
        rw [e1, seqM_get (by omega), e2, seqM_succ]
        have e3 : List.eraseIdx (seqM (n - (i + 1)).toNat ++ [mkM 1 (((n - (i + 1)).toNat : Nat) : Int)]) (n - (i + 1)).toNat = seqM (n - (i + 1)).toNat := by
          rw [List.eraseIdx_append_of_length_le (by rw [seqM_len]; omega), seqM_len, Nat.sub_self]; simp
        rw [e3, show (((n - (i + 1)).toNat : Nat) : Int) = n - 1 - i by omega]
      rw [htk]
      refine ⟨hok, trivial, fun e => ?_, fun _ => ⟨by repeat' (first | exact trivial | rfl | apply And.intro), next _ rfl⟩⟩
      exfalso
      rw [IntWalk.i64_in (n - 1) (by omega), IntWalk.i64_in _ (by omega)] at e
      have e : (!true || (n - 1 - i != n - 1 - i)) = true := e
      simp at e
    · have hb : b = false := hb
      subst hb
      simp only [Bool.false_eq_true, if_false] at h4 next
      have hd : (seqM n.toNat).drop i.toNat = mkM 1 i :: (seqM n.toNat).drop (i + 1).toNat := by
        have hlt : i.toNat < (seqM n.toNat).length := by rw [seqM_len]; omega
        rw [List.drop_eq_getElem_cons hlt, show (i + 1).toNat = i.toNat + 1 by omega]
        congr 1
        have := seqM_get (n := n.toNat) (k := i.toNat) (by omega)
        rw [getD_get _ hlt] at this
        rw [this, show ((i.toNat : Nat) : Int) = i by omega]
      have htk : takeF o 0 = ((seqM n.toNat).drop (i + 1).toNat, mkM 1 i, true) := by
        rw [h4, hd, takeF_at (by omega) (by simp)]; rfl
      rw [htk]
      refine ⟨hok, trivial, fun e => ?_, fun _ => ⟨by repeat' (first | exact trivial | rfl | apply And.intro), next _ rfl⟩⟩
      exfalso
      have e : (!true || (i != i)) = true := e
      simp at e
  · have c : ¬ i < n := of_decide_eq_false c
    have hi : i = n := by omega
    refine ⟨?_, trivial⟩
    rw [h4, hi]
    cases b with
    | true => simp only [if_true]; rw [show (n - n).toNat = 0 by omega]; rfl
    | false => simp only [Bool.false_eq_true, if_false]; rw [List.drop_of_length_le (by rw [seqM_len]; omega)]
theorem n60_in {n : Int} : 0 ≤ IntKind.i64.wrap ((IntKind.u64.wrap n).tmod 60) ∧ IntKind.i64.wrap ((IntKind.u64.wrap n).tmod 60) < 60 := by
  have h := u64_range n
  have h1 : 0 ≤ (IntKind.u64.wrap n).tmod 60 := Int.tmod_nonneg _ h.1
  have h2 : (IntKind.u64.wrap n).tmod 60 < 60 := Int.tmod_lt_of_pos _ (by omega)
  rw [IntWalk.i64_in ((IntKind.u64.wrap n).tmod 60) (by omega)]
  exact ⟨h1, h2⟩
theorem order_ok : PureOK Try.prog 3 [i64, .bool] [.bool] (fun _ => True) (fun _ => (true, ())) :=
  fn_pure (E := n6) (n := 100) n6_ok Try.func3 (by kernel_rfl) lOb fun x _ => by
    obtain ⟨n, b, _⟩ : Int × Bool × Unit := x
    refine Tree.all_eq (tOr n b) ?_
    have hm := n60_in (n := n)
    revert hm
    generalize IntKind.i64.wrap ((IntKind.u64.wrap n).tmod 60) = N
    rintro ⟨m1, m2⟩
    refine ⟨by decide, ⟨by omega, by omega, m2, rfl⟩, by repeat' (first | exact trivial | rfl | apply And.intro), ⟨by omega, by omega, m2, ?_⟩, by repeat' (first | exact trivial | rfl | apply And.intro), ⟨by omega, fun m hm => by cases hm⟩, fun _ => ⟨fun _ => ⟨trivial, rfl⟩, fun e => by cases e⟩, fun e => by cases e⟩
    show seqM N.toNat = if b = true then seqM (N - 0).toNat else (seqM N.toNat).drop 0
    rw [Int.sub_zero]; cases b <;> rfl
end Pl
namespace Pl
open Go Sx Go.Proofs Go.RowKit
noncomputable abbrev n7 : Ex := mkExM Try.prog [KAtN, KSd]
theorem n7_ok : n7.Sound := mkExM_sound ⟨mutSp_ok at_okN, mutSp_ok send_ok, trivial⟩
theorem tDb (o : List MsgD) (i : Int) : @Eq _
  (fnM true n7 [] 100 Try.f12 (.row MsgT) [i64] [.bool] o (i, ()))
  (.req (o.length ≤ 500 ∧ ∀ (m : Pl.MsgD), m ∈ o → Pl.okM m) (
 .fork ((Pl.atF o i).2.2) (
  .req ((Pl.atF o i).1.length ≤ 500 ∧ (1 : Int) < (4611686018427387904 : Int) ∧ ∀ (m : TD Pl.MsgT), m ∈ [((Pl.atF o i).2.1.1, (Pl.atF o i).2.1.2.1, (Pl.atF o i).2.1.2.2.1, (Pl.atF o i).2.1.2.2.2.1, (Pl.atF o i).2.1.2.2.2.2.1, (Pl.atF o i).2.1.2.2.2.2.2.1, (Pl.atF o i).2.1.2.2.2.2.2.2.1, (Pl.atF o i).2.1.2.2.2.2.2.2.2.1, (Pl.atF o i).2.1.2.2.2.2.2.2.2.2.1, (tab 8 (Pl.atF o i).2.1.2.2.2.2.2.2.2.2.2.1.1 (0 : Int), (Pl.atF o i).2.1.2.2.2.2.2.2.2.2.2.1.2), (tab 8 (Pl.atF o i).2.1.2.2.2.2.2.2.2.2.2.2.1.1 (0 : Int), (Pl.atF o i).2.1.2.2.2.2.2.2.2.2.2.2.1.2.1, tab 16 (Pl.atF o i).2.1.2.2.2.2.2.2.2.2.2.2.1.2.2 ((0 : Int), (0 : Int))), (Pl.atF o i).2.1.2.2.2.2.2.2.2.2.2.2.2)] → Pl.okM m) (
   .leaf (((Pl.sendF (Pl.atF o i).1 [((Pl.atF o i).2.1.1, (Pl.atF o i).2.1.2.1, (Pl.atF o i).2.1.2.2.1, (Pl.atF o i).2.1.2.2.2.1, (Pl.atF o i).2.1.2.2.2.2.1, (Pl.atF o i).2.1.2.2.2.2.2.1, (Pl.atF o i).2.1.2.2.2.2.2.2.1, (Pl.atF o i).2.1.2.2.2.2.2.2.2.1, (Pl.atF o i).2.1.2.2.2.2.2.2.2.2.1, (tab 8 (Pl.atF o i).2.1.2.2.2.2.2.2.2.2.2.1.1 (0 : Int), (Pl.atF o i).2.1.2.2.2.2.2.2.2.2.2.1.2), (tab 8 (Pl.atF o i).2.1.2.2.2.2.2.2.2.2.2.2.1.1 (0 : Int), (Pl.atF o i).2.1.2.2.2.2.2.2.2.2.2.2.1.2.1, tab 16 (Pl.atF o i).2.1.2.2.2.2.2.2.2.2.2.2.1.2.2 ((0 : Int), (0 : Int))), (Pl.atF o i).2.1.2.2.2.2.2.2.2.2.2.2.2)]).1, (Pl.sendF (Pl.atF o i).1 [((Pl.atF o i).2.1.1, (Pl.atF o i).2.1.2.1, (Pl.atF o i).2.1.2.2.1, (Pl.atF o i).2.1.2.2.2.1, (Pl.atF o i).2.1.2.2.2.2.1, (Pl.atF o i).2.1.2.2.2.2.2.1, (Pl.atF o i).2.1.2.2.2.2.2.2.1, (Pl.atF o i).2.1.2.2.2.2.2.2.2.1, (Pl.atF o i).2.1.2.2.2.2.2.2.2.2.1, (tab 8 (Pl.atF o i).2.1.2.2.2.2.2.2.2.2.2.1.1 (0 : Int), (Pl.atF o i).2.1.2.2.2.2.2.2.2.2.2.1.2), (tab 8 (Pl.atF o i).2.1.2.2.2.2.2.2.2.2.2.2.1.1 (0 : Int), (Pl.atF o i).2.1.2.2.2.2.2.2.2.2.2.2.1.2.1, tab 16 (Pl.atF o i).2.1.2.2.2.2.2.2.2.2.2.2.1.2.2 ((0 : Int), (0 : Int))), (Pl.atF o i).2.1.2.2.2.2.2.2.2.2.2.2.2)]).2 == (1 : Int), ())))) (
  .leaf (((Pl.atF o i).1, false, ())))) : Tree (List (Int × Int × Int × Int × Int × Int × Int × Int × ByteArray × (List Int × List ((Int × Int) × ByteArray)) × (List Int × (Int × Int × List Int) × List (Int × Int)) × List (Int × Int × Int)) × Bool × PUnit)) := by kernel_rfl
def dblF (o : List MsgD) (i : Int) : List MsgD × Bool := if 0 ≤ i ∧ i < (o.length : Int) then ((sendF o [o.getD i.toNat zM]).1, (sendF o [o.getD i.toNat zM]).2 == 1) else (o, false)
def capM (i : Int) : Nat := min i.toNat 500
structure AFa where
  j : Int
  n : Int
  i : Int
  o : List MsgD
def LFa : LoopC AFa where
  n0 := 1
  det st := match intS st 1, intS st 18, intS st 19, rowC st 0 0 MsgT with | some j, some n, some i, some o => some ⟨j, n, i, o⟩ | _, _, _, _ => none
  rows := [(1, .cell 0 0)]
  inv a := ⟨[(19, iv a.i), (18, iv a.n), (5, .one (.ptr 0 0)), (0, iv a.n), (1, iv a.j)],
    [(0, .blk [.row 1]), (1, .own MsgT a.o)], 2⟩
  ok a := 0 ≤ a.i ∧ a.i ≤ a.n ∧ a.n < 510 ∧ a.o = seqM (capM a.i)
  mu a := (a.n - a.i).toNat
  fin a := .leaf ⟨2, ⟨[(5, .one (.ptr 0 0)), (0, iv a.n), (1, iv a.j)],
    [(0, .blk [.row 1]), (1, .own MsgT (seqM (capM a.n)))], 2⟩⟩
theorem rFa (j n i : Int) (o : List MsgD) : @Eq _
  (LFa.round n6 [] 100 Try.f4 0 ⟨j, n, i, o⟩)
  (.fork (decide (i < n)) (
 .req (o.length ≤ 500 ∧ (1 : Int) < (4611686018427387904 : Int) ∧ ∀ (m : TD Pl.MsgT), m ∈ [((1 : Int), (0 : Int), (0 : Int), i, (0 : Int), (0 : Int), (0 : Int), (0 : Int), { data := { toList := ([] : List UInt8) } }, (List.replicate 8 (0 : Int), ([] : List ((Int × Int) × ByteArray))), (List.replicate 8 (0 : Int), ((0 : Int), (0 : Int), ([] : List Int)), List.replicate 16 ((0 : Int), (0 : Int))), ([] : List (Int × Int × Int)))] → Pl.okM m) (
  .fork ((Pl.sendF o [((1 : Int), (0 : Int), (0 : Int), i, (0 : Int), (0 : Int), (0 : Int), (0 : Int), { data := { toList := ([] : List UInt8) } }, (List.replicate 8 (0 : Int), ([] : List ((Int × Int) × ByteArray))), (List.replicate 8 (0 : Int), ((0 : Int), (0 : Int), ([] : List Int)), List.replicate 16 ((0 : Int), (0 : Int))), ([] : List (Int × Int × Int)))]).2 != if (if IntKind.i64.wrap ((500 : Int) - i) > (0 : Int) then IntKind.i64.wrap ((500 : Int) - i) else (0 : Int)) < (1 : Int) then if IntKind.i64.wrap ((500 : Int) - i) > (0 : Int) then IntKind.i64.wrap ((500 : Int) - i) else (0 : Int) else (1 : Int)) (
   .req (False) (
    .leaf (Option.none))) (
   .req (IntKind.i64.wrap (i + (1 : Int)) = IntKind.i64.wrap (i + (1 : Int)) ∧ n = n ∧ n = n ∧ j = j ∧ (Pl.sendF o [((1 : Int), (0 : Int), (0 : Int), i, (0 : Int), (0 : Int), (0 : Int), (0 : Int), { data := { toList := ([] : List UInt8) } }, (List.replicate 8 (0 : Int), ([] : List ((Int × Int) × ByteArray))), (List.replicate 8 (0 : Int), ((0 : Int), (0 : Int), ([] : List Int)), List.replicate 16 ((0 : Int), (0 : Int))), ([] : List (Int × Int × Int)))]).1 = (Pl.sendF o [((1 : Int), (0 : Int), (0 : Int), i, (0 : Int), (0 : Int), (0 : Int), (0 : Int), { data := { toList := ([] : List UInt8) } }, (List.replicate 8 (0 : Int), ([] : List ((Int × Int) × ByteArray))), (List.replicate 8 (0 : Int), ((0 : Int), (0 : Int), ([] : List Int)), List.replicate 16 ((0 : Int), (0 : Int))), ([] : List (Int × Int × Int)))]).1) (
    .leaf (Option.some { j := j, n := n, i := IntKind.i64.wrap (i + (1 : Int)), o := (Pl.sendF o [((1 : Int), (0 : Int), (0 : Int), i, (0 : Int), (0 : Int), (0 : Int), (0 : Int), { data := { toList := ([] : List UInt8) } }, (List.replicate 8 (0 : Int), ([] : List ((Int × Int) × ByteArray))), (List.replicate 8 (0 : Int), ((0 : Int), (0 : Int), ([] : List Int)), List.replicate 16 ((0 : Int), (0 : Int))), ([] : List (Int × Int × Int)))]).1 }))))) (
 .req (n = n ∧ j = j ∧ o = Pl.seqM (Pl.capM n)) (
  .leaf (Option.none))) : Tree (Option Pl.AFa)) := by kernel_rfl
noncomputable abbrev faP : Nat × (St → Tree Out) := (0, LFa.sp)
end Pl
namespace Pl
open Go Sx Go.Proofs Go.RowKit
theorem dbl_okN : MutOK true Try.prog 12 (.row MsgT) [i64] [.bool] (fun x => netP x.1) (fun x => ((dblF x.1 x.2.1).1, (dblF x.1 x.2.1).2, ())) :=
  fn_mut (E := n7) (n := 100) n7_ok Try.func12 (by kernel_rfl) .nil fun o x h => by
    obtain ⟨i, _⟩ : Int × Unit := x
    obtain ⟨h1, h2⟩ : List.length (α := MsgD) o ≤ 500 ∧ ∀ m ∈ (o : List MsgD), okM m := h
    refine Tree.all_eq (tDb o i) ?_
    show Tree.all _ fun y => y = ((dblF o i).1, (dblF o i).2, ())
    unfold dblF
    by_cases c : 0 ≤ i ∧ i < (List.length (α := MsgD) o : Int)
    · have hlt : i.toNat < List.length (α := MsgD) o := by omega
      have ha : atF o i = (o, (o : List MsgD)[i.toNat], true) := by unfold atF; rw [if_pos c, getD_get _ hlt]
      rw [if_pos c, ha, getD_get _ hlt]
      have hm := h2 _ (List.getElem_mem hlt)
      generalize (o : List MsgD)[i.toNat] = C at *
      obtain ⟨m1, m2, m3, m4, m5, m6⟩ := id hm
      have e4 : ∀ z, tab 8 C.2.2.2.2.2.2.2.2.2.1.1 z = C.2.2.2.2.2.2.2.2.2.1.1 := fun z => tab_eq m4
      have e5 : ∀ z, tab 8 C.2.2.2.2.2.2.2.2.2.2.1.1 z = C.2.2.2.2.2.2.2.2.2.2.1.1 := fun z => tab_eq m5
      have e6 : ∀ z, tab 16 C.2.2.2.2.2.2.2.2.2.2.1.2.2 z = C.2.2.2.2.2.2.2.2.2.2.1.2.2 := fun z => tab_eq m6
      refine ⟨⟨h1, h2⟩, fun _ => ⟨⟨h1, by decide, fun m hm' => ?_⟩, ?_⟩, fun e => by cases e⟩
      · have hm' : m = _ := List.mem_singleton.1 hm'
        rw [hm']
        erw [e4, e5, e6]; exact hm
      · erw [e4, e5, e6]; rfl
    · have ha : atF o i = (o, zM, false) := by unfold atF; rw [if_neg c]
      rw [if_neg c, ha]
      refine And.intro ⟨h1, h2⟩ (And.intro (fun e => ?_) (fun _ => rfl))
      exact absurd (show false = true from e) (by decide)
theorem lFa : LpsOK Try.prog Try.f4 [faP] := by
  refine .cons (LFa.sound n6_ok (lps := []) (n := 100) (inner rfl) (fun _ => rfl) ?_) .nil
  rintro ⟨j, n, i, o⟩ ⟨h1, h2, h3, h4⟩
  simp only at h1 h2 h3 h4
  subst h4
  have hl := seqM_len (capM i)
  have hc : capM i = min i.toNat 500 := rfl
  have hsend : sendF (seqM (capM i)) [mkM 1 i] = (seqM (capM (i + 1)), if i < 500 then 1 else 0) := by
    by_cases q : i < 500
    · rw [sendF_one (by omega), if_pos q, show capM (i + 1) = capM i + 1 by unfold capM; omega, seqM_succ, show ((capM i : Nat) : Int) = i by omega]
    · have e0 : 500 - (seqM (capM i)).length = 0 := by omega
      unfold sendF
      rw [e0, if_neg q, show capM (i + 1) = capM i by unfold capM; omega]
      simp
  rw [rFa]
  refine ⟨fun c => ?_, fun c => ?_⟩
  · have c : i < n := of_decide_eq_true c
    refine ⟨⟨by omega, by decide, fun m hm => ?_⟩, fun e => ?_, fun _ => ⟨by repeat' (first | exact trivial | rfl | apply And.intro), ?_⟩⟩
    · have hm : m ∈ [mkM 1 i] := hm
      rw [List.mem_singleton] at hm; subst hm; exact okM_mk _ _
    · exfalso
      rw [IntWalk.i64_in (500 - i) (by omega)] at e
      have e : ((sendF (seqM (capM i)) [mkM 1 i]).2 != (if (if 500 - i > 0 then 500 - i else 0) < 1 then if 500 - i > 0 then 500 - i else 0 else 1)) = true := e
      rw [hsend] at e
      have e := bne_iff_ne.1 e
      refine e ?_
      show (if i < 500 then (1 : Int) else 0) = _
      by_cases q : i < 500
      · rw [if_pos q, if_pos (show 500 - i > 0 by omega), if_neg (by omega)]
      · rw [if_neg q, if_neg (show ¬ 500 - i > 0 by omega), if_pos (by omega)]
    · rw [IntWalk.i64_in (i + 1) (by omega)]
      refine ⟨⟨by dsimp only; omega, by dsimp only; omega, h3, ?_⟩, by simp only [LFa]; omega, rfl⟩
      show (sendF (seqM (capM i)) [mkM 1 i]).1 = seqM (capM (i + 1))
      rw [hsend]
  · have c : ¬ i < n := of_decide_eq_false c
    exact ⟨⟨rfl, rfl, by rw [show i = n by omega]⟩, trivial⟩
abbrev KDbN : Nat × Sx.Spec := (12, mutSp true (.row MsgT) [i64] [.bool] (fun x => netP x.1) (fun x => ((dblF x.1 x.2.1).1, (dblF x.1 x.2.1).2, ())))
noncomputable abbrev n9 : Ex := mkExM Try.prog [KNn, KSd, KTkN, KAtN, KLn, KAwN, KDbN]
theorem n9_ok : n9.Sound := mkExM_sound ⟨fnI_ok (E := E0) E0_ok Try.func7 (by kernel_rfl) .nil, mutSp_ok send_ok, mutSp_ok take_okN, mutSp_ok at_okN, fnI_ok (E := E0) E0_ok Try.func9 (by kernel_rfl) .nil, pureSp_ok aw_okN, mutSp_ok dbl_okN, trivial⟩
end Pl
namespace Pl
open Go Sx Go.Proofs Go.RowKit
theorem tFu (n j : Int) : @Eq _
  (fnT n9 [faP] 100 Try.f4 [i64, i64] [.bool] (n, j, ()))
  (.req ((20 : Int) ≠ (0 : Int)) (
 .req ((0 : Int) ≤ (0 : Int) ∧ (0 : Int) ≤ IntKind.i64.wrap ((490 : Int) + IntKind.i64.wrap ((IntKind.u64.wrap n).tmod (20 : Int))) ∧ IntKind.i64.wrap ((490 : Int) + IntKind.i64.wrap ((IntKind.u64.wrap n).tmod (20 : Int))) < (510 : Int) ∧ ([] : List (Int × Int × Int × Int × Int × Int × Int × Int × ByteArray × (List Int × List ((Int × Int) × ByteArray)) × (List Int × (Int × Int × List Int) × List (Int × Int)) × List (Int × Int × Int))) = Pl.seqM (Pl.capM (0 : Int))) (
  .req ((0 : Int) = (0 : Int) ∧ IntKind.i64.wrap ((490 : Int) + IntKind.i64.wrap ((IntKind.u64.wrap n).tmod (20 : Int))) = IntKind.i64.wrap ((490 : Int) + IntKind.i64.wrap ((IntKind.u64.wrap n).tmod (20 : Int))) ∧ IntKind.i64.wrap ((490 : Int) + IntKind.i64.wrap ((IntKind.u64.wrap n).tmod (20 : Int))) = IntKind.i64.wrap ((490 : Int) + IntKind.i64.wrap ((IntKind.u64.wrap n).tmod (20 : Int))) ∧ j = j ∧ ([] : List (Int × Int × Int × Int × Int × Int × Int × Int × ByteArray × (List Int × List ((Int × Int) × ByteArray)) × (List Int × (Int × Int × List Int) × List (Int × Int)) × List (Int × Int × Int))) = ([] : List (Int × Int × Int × Int × Int × Int × Int × Int × ByteArray × (List Int × List ((Int × Int) × ByteArray)) × (List Int × (Int × Int × List Int) × List (Int × Int)) × List (Int × Int × Int)))) (
   .req (IntKind.u64.wrap (if (500 : Int) < IntKind.i64.wrap ((490 : Int) + IntKind.i64.wrap ((IntKind.u64.wrap n).tmod (20 : Int))) then (500 : Int) else IntKind.i64.wrap ((490 : Int) + IntKind.i64.wrap ((IntKind.u64.wrap n).tmod (20 : Int)))) ≠ (0 : Int)) (
    .fork ((↑(Pl.seqM (Pl.capM (IntKind.i64.wrap ((490 : Int) + IntKind.i64.wrap ((IntKind.u64.wrap n).tmod (20 : Int)))))).length : Int) != if (500 : Int) < IntKind.i64.wrap ((490 : Int) + IntKind.i64.wrap ((IntKind.u64.wrap n).tmod (20 : Int))) then (500 : Int) else IntKind.i64.wrap ((490 : Int) + IntKind.i64.wrap ((IntKind.u64.wrap n).tmod (20 : Int)))) (
     .leaf ((false, ()))) (
     .req ((Pl.seqM (Pl.capM (IntKind.i64.wrap ((490 : Int) + IntKind.i64.wrap ((IntKind.u64.wrap n).tmod (20 : Int)))))).length ≤ 500 ∧ ∀ (m : Pl.MsgD), m ∈ Pl.seqM (Pl.capM (IntKind.i64.wrap ((490 : Int) + IntKind.i64.wrap ((IntKind.u64.wrap n).tmod (20 : Int))))) → Pl.okM m) (
      .fork (!(Pl.dblF (Pl.seqM (Pl.capM (IntKind.i64.wrap ((490 : Int) + IntKind.i64.wrap ((IntKind.u64.wrap n).tmod (20 : Int)))))) (IntKind.i64.wrap ((IntKind.u64.wrap j).tmod (IntKind.u64.wrap (if (500 : Int) < IntKind.i64.wrap ((490 : Int) + IntKind.i64.wrap ((IntKind.u64.wrap n).tmod (20 : Int))) then (500 : Int) else IntKind.i64.wrap ((490 : Int) + IntKind.i64.wrap ((IntKind.u64.wrap n).tmod (20 : Int)))))))).2 == decide ((if (500 : Int) < IntKind.i64.wrap ((490 : Int) + IntKind.i64.wrap ((IntKind.u64.wrap n).tmod (20 : Int))) then (500 : Int) else IntKind.i64.wrap ((490 : Int) + IntKind.i64.wrap ((IntKind.u64.wrap n).tmod (20 : Int)))) < (500 : Int))) (
       .leaf ((false, ()))) (
       .req ((Pl.dblF (Pl.seqM (Pl.capM (IntKind.i64.wrap ((490 : Int) + IntKind.i64.wrap ((IntKind.u64.wrap n).tmod (20 : Int)))))) (IntKind.i64.wrap ((IntKind.u64.wrap j).tmod (IntKind.u64.wrap (if (500 : Int) < IntKind.i64.wrap ((490 : Int) + IntKind.i64.wrap ((IntKind.u64.wrap n).tmod (20 : Int))) then (500 : Int) else IntKind.i64.wrap ((490 : Int) + IntKind.i64.wrap ((IntKind.u64.wrap n).tmod (20 : Int)))))))).1.length ≤ 500 ∧ ∀ (m : Pl.MsgD), m ∈ (Pl.dblF (Pl.seqM (Pl.capM (IntKind.i64.wrap ((490 : Int) + IntKind.i64.wrap ((IntKind.u64.wrap n).tmod (20 : Int)))))) (IntKind.i64.wrap ((IntKind.u64.wrap j).tmod (IntKind.u64.wrap (if (500 : Int) < IntKind.i64.wrap ((490 : Int) + IntKind.i64.wrap ((IntKind.u64.wrap n).tmod (20 : Int))) then (500 : Int) else IntKind.i64.wrap ((490 : Int) + IntKind.i64.wrap ((IntKind.u64.wrap n).tmod (20 : Int)))))))).1 → Pl.okM m) (
        .req ((Pl.takeF (Pl.dblF (Pl.seqM (Pl.capM (IntKind.i64.wrap ((490 : Int) + IntKind.i64.wrap ((IntKind.u64.wrap n).tmod (20 : Int)))))) (IntKind.i64.wrap ((IntKind.u64.wrap j).tmod (IntKind.u64.wrap (if (500 : Int) < IntKind.i64.wrap ((490 : Int) + IntKind.i64.wrap ((IntKind.u64.wrap n).tmod (20 : Int))) then (500 : Int) else IntKind.i64.wrap ((490 : Int) + IntKind.i64.wrap ((IntKind.u64.wrap n).tmod (20 : Int)))))))).1 (IntKind.i64.wrap ((IntKind.u64.wrap j).tmod (IntKind.u64.wrap (if (500 : Int) < IntKind.i64.wrap ((490 : Int) + IntKind.i64.wrap ((IntKind.u64.wrap n).tmod (20 : Int))) then (500 : Int) else IntKind.i64.wrap ((490 : Int) + IntKind.i64.wrap ((IntKind.u64.wrap n).tmod (20 : Int)))))))).1.length ≤ 500 ∧ ∀ (m : Pl.MsgD), m ∈ (Pl.takeF (Pl.dblF (Pl.seqM (Pl.capM (IntKind.i64.wrap ((490 : Int) + IntKind.i64.wrap ((IntKind.u64.wrap n).tmod (20 : Int)))))) (IntKind.i64.wrap ((IntKind.u64.wrap j).tmod (IntKind.u64.wrap (if (500 : Int) < IntKind.i64.wrap ((490 : Int) + IntKind.i64.wrap ((IntKind.u64.wrap n).tmod (20 : Int))) then (500 : Int) else IntKind.i64.wrap ((490 : Int) + IntKind.i64.wrap ((IntKind.u64.wrap n).tmod (20 : Int)))))))).1 (IntKind.i64.wrap ((IntKind.u64.wrap j).tmod (IntKind.u64.wrap (if (500 : Int) < IntKind.i64.wrap ((490 : Int) + IntKind.i64.wrap ((IntKind.u64.wrap n).tmod (20 : Int))) then (500 : Int) else IntKind.i64.wrap ((490 : Int) + IntKind.i64.wrap ((IntKind.u64.wrap n).tmod (20 : Int)))))))).1 → Pl.okM m) (
         .fork ((Pl.takeF (Pl.dblF (Pl.seqM (Pl.capM (IntKind.i64.wrap ((490 : Int) + IntKind.i64.wrap ((IntKind.u64.wrap n).tmod (20 : Int)))))) (IntKind.i64.wrap ((IntKind.u64.wrap j).tmod (IntKind.u64.wrap (if (500 : Int) < IntKind.i64.wrap ((490 : Int) + IntKind.i64.wrap ((IntKind.u64.wrap n).tmod (20 : Int))) then (500 : Int) else IntKind.i64.wrap ((490 : Int) + IntKind.i64.wrap ((IntKind.u64.wrap n).tmod (20 : Int)))))))).1 (IntKind.i64.wrap ((IntKind.u64.wrap j).tmod (IntKind.u64.wrap (if (500 : Int) < IntKind.i64.wrap ((490 : Int) + IntKind.i64.wrap ((IntKind.u64.wrap n).tmod (20 : Int))) then (500 : Int) else IntKind.i64.wrap ((490 : Int) + IntKind.i64.wrap ((IntKind.u64.wrap n).tmod (20 : Int)))))))).2.2) (
          .fork ((Pl.takeF (Pl.dblF (Pl.seqM (Pl.capM (IntKind.i64.wrap ((490 : Int) + IntKind.i64.wrap ((IntKind.u64.wrap n).tmod (20 : Int)))))) (IntKind.i64.wrap ((IntKind.u64.wrap j).tmod (IntKind.u64.wrap (if (500 : Int) < IntKind.i64.wrap ((490 : Int) + IntKind.i64.wrap ((IntKind.u64.wrap n).tmod (20 : Int))) then (500 : Int) else IntKind.i64.wrap ((490 : Int) + IntKind.i64.wrap ((IntKind.u64.wrap n).tmod (20 : Int)))))))).1 (IntKind.i64.wrap ((IntKind.u64.wrap j).tmod (IntKind.u64.wrap (if (500 : Int) < IntKind.i64.wrap ((490 : Int) + IntKind.i64.wrap ((IntKind.u64.wrap n).tmod (20 : Int))) then (500 : Int) else IntKind.i64.wrap ((490 : Int) + IntKind.i64.wrap ((IntKind.u64.wrap n).tmod (20 : Int)))))))).2.1.2.2.2.1 == IntKind.i64.wrap ((IntKind.u64.wrap j).tmod (IntKind.u64.wrap (if (500 : Int) < IntKind.i64.wrap ((490 : Int) + IntKind.i64.wrap ((IntKind.u64.wrap n).tmod (20 : Int))) then (500 : Int) else IntKind.i64.wrap ((490 : Int) + IntKind.i64.wrap ((IntKind.u64.wrap n).tmod (20 : Int))))))) (
           .fork (decide (IntKind.i64.wrap (IntKind.i64.wrap ((IntKind.u64.wrap j).tmod (IntKind.u64.wrap (if (500 : Int) < IntKind.i64.wrap ((490 : Int) + IntKind.i64.wrap ((IntKind.u64.wrap n).tmod (20 : Int))) then (500 : Int) else IntKind.i64.wrap ((490 : Int) + IntKind.i64.wrap ((IntKind.u64.wrap n).tmod (20 : Int)))))) + (1 : Int)) ≥ if (500 : Int) < IntKind.i64.wrap ((490 : Int) + IntKind.i64.wrap ((IntKind.u64.wrap n).tmod (20 : Int))) then (500 : Int) else IntKind.i64.wrap ((490 : Int) + IntKind.i64.wrap ((IntKind.u64.wrap n).tmod (20 : Int))))) (
            .req ((Pl.atF (Pl.takeF (Pl.dblF (Pl.seqM (Pl.capM (IntKind.i64.wrap ((490 : Int) + IntKind.i64.wrap ((IntKind.u64.wrap n).tmod (20 : Int)))))) (IntKind.i64.wrap ((IntKind.u64.wrap j).tmod (IntKind.u64.wrap (if (500 : Int) < IntKind.i64.wrap ((490 : Int) + IntKind.i64.wrap ((IntKind.u64.wrap n).tmod (20 : Int))) then (500 : Int) else IntKind.i64.wrap ((490 : Int) + IntKind.i64.wrap ((IntKind.u64.wrap n).tmod (20 : Int)))))))).1 (IntKind.i64.wrap ((IntKind.u64.wrap j).tmod (IntKind.u64.wrap (if (500 : Int) < IntKind.i64.wrap ((490 : Int) + IntKind.i64.wrap ((IntKind.u64.wrap n).tmod (20 : Int))) then (500 : Int) else IntKind.i64.wrap ((490 : Int) + IntKind.i64.wrap ((IntKind.u64.wrap n).tmod (20 : Int)))))))).1 (IntKind.i64.wrap ((IntKind.u64.wrap j).tmod (IntKind.u64.wrap (if (500 : Int) < IntKind.i64.wrap ((490 : Int) + IntKind.i64.wrap ((IntKind.u64.wrap n).tmod (20 : Int))) then (500 : Int) else IntKind.i64.wrap ((490 : Int) + IntKind.i64.wrap ((IntKind.u64.wrap n).tmod (20 : Int)))))))).1.length ≤ 500 ∧ (1 : Int) < (4611686018427387904 : Int) ∧ ∀ (m : TD Pl.MsgT), m ∈ [((2 : Int), (0 : Int), (0 : Int), (0 : Int), (0 : Int), (0 : Int), (0 : Int), (0 : Int), { data := { toList := ([] : List UInt8) } }, (List.replicate 8 (0 : Int), ([] : List ((Int × Int) × ByteArray))), (List.replicate 8 (0 : Int), ((0 : Int), (0 : Int), ([] : List Int)), List.replicate 16 ((0 : Int), (0 : Int))), ([] : List (Int × Int × Int)))] → Pl.okM m) (
             .fork ((Pl.sendF (Pl.atF (Pl.takeF (Pl.dblF (Pl.seqM (Pl.capM (IntKind.i64.wrap ((490 : Int) + IntKind.i64.wrap ((IntKind.u64.wrap n).tmod (20 : Int)))))) (IntKind.i64.wrap ((IntKind.u64.wrap j).tmod (IntKind.u64.wrap (if (500 : Int) < IntKind.i64.wrap ((490 : Int) + IntKind.i64.wrap ((IntKind.u64.wrap n).tmod (20 : Int))) then (500 : Int) else IntKind.i64.wrap ((490 : Int) + IntKind.i64.wrap ((IntKind.u64.wrap n).tmod (20 : Int)))))))).1 (IntKind.i64.wrap ((IntKind.u64.wrap j).tmod (IntKind.u64.wrap (if (500 : Int) < IntKind.i64.wrap ((490 : Int) + IntKind.i64.wrap ((IntKind.u64.wrap n).tmod (20 : Int))) then (500 : Int) else IntKind.i64.wrap ((490 : Int) + IntKind.i64.wrap ((IntKind.u64.wrap n).tmod (20 : Int)))))))).1 (IntKind.i64.wrap ((IntKind.u64.wrap j).tmod (IntKind.u64.wrap (if (500 : Int) < IntKind.i64.wrap ((490 : Int) + IntKind.i64.wrap ((IntKind.u64.wrap n).tmod (20 : Int))) then (500 : Int) else IntKind.i64.wrap ((490 : Int) + IntKind.i64.wrap ((IntKind.u64.wrap n).tmod (20 : Int)))))))).1 [((2 : Int), (0 : Int), (0 : Int), (0 : Int), (0 : Int), (0 : Int), (0 : Int), (0 : Int), { data := { toList := ([] : List UInt8) } }, (List.replicate 8 (0 : Int), ([] : List ((Int × Int) × ByteArray))), (List.replicate 8 (0 : Int), ((0 : Int), (0 : Int), ([] : List Int)), List.replicate 16 ((0 : Int), (0 : Int))), ([] : List (Int × Int × Int)))]).2 == (1 : Int)) (
              .req (True) (
               .leaf ((true, ())))) (
              .leaf ((false, ()))))) (
            .fork ((Pl.atF (Pl.takeF (Pl.dblF (Pl.seqM (Pl.capM (IntKind.i64.wrap ((490 : Int) + IntKind.i64.wrap ((IntKind.u64.wrap n).tmod (20 : Int)))))) (IntKind.i64.wrap ((IntKind.u64.wrap j).tmod (IntKind.u64.wrap (if (500 : Int) < IntKind.i64.wrap ((490 : Int) + IntKind.i64.wrap ((IntKind.u64.wrap n).tmod (20 : Int))) then (500 : Int) else IntKind.i64.wrap ((490 : Int) + IntKind.i64.wrap ((IntKind.u64.wrap n).tmod (20 : Int)))))))).1 (IntKind.i64.wrap ((IntKind.u64.wrap j).tmod (IntKind.u64.wrap (if (500 : Int) < IntKind.i64.wrap ((490 : Int) + IntKind.i64.wrap ((IntKind.u64.wrap n).tmod (20 : Int))) then (500 : Int) else IntKind.i64.wrap ((490 : Int) + IntKind.i64.wrap ((IntKind.u64.wrap n).tmod (20 : Int)))))))).1 (IntKind.i64.wrap ((IntKind.u64.wrap j).tmod (IntKind.u64.wrap (if (500 : Int) < IntKind.i64.wrap ((490 : Int) + IntKind.i64.wrap ((IntKind.u64.wrap n).tmod (20 : Int))) then (500 : Int) else IntKind.i64.wrap ((490 : Int) + IntKind.i64.wrap ((IntKind.u64.wrap n).tmod (20 : Int)))))))).2.2) (
             .fork ((Pl.atF (Pl.takeF (Pl.dblF (Pl.seqM (Pl.capM (IntKind.i64.wrap ((490 : Int) + IntKind.i64.wrap ((IntKind.u64.wrap n).tmod (20 : Int)))))) (IntKind.i64.wrap ((IntKind.u64.wrap j).tmod (IntKind.u64.wrap (if (500 : Int) < IntKind.i64.wrap ((490 : Int) + IntKind.i64.wrap ((IntKind.u64.wrap n).tmod (20 : Int))) then (500 : Int) else IntKind.i64.wrap ((490 : Int) + IntKind.i64.wrap ((IntKind.u64.wrap n).tmod (20 : Int)))))))).1 (IntKind.i64.wrap ((IntKind.u64.wrap j).tmod (IntKind.u64.wrap (if (500 : Int) < IntKind.i64.wrap ((490 : Int) + IntKind.i64.wrap ((IntKind.u64.wrap n).tmod (20 : Int))) then (500 : Int) else IntKind.i64.wrap ((490 : Int) + IntKind.i64.wrap ((IntKind.u64.wrap n).tmod (20 : Int)))))))).1 (IntKind.i64.wrap ((IntKind.u64.wrap j).tmod (IntKind.u64.wrap (if (500 : Int) < IntKind.i64.wrap ((490 : Int) + IntKind.i64.wrap ((IntKind.u64.wrap n).tmod (20 : Int))) then (500 : Int) else IntKind.i64.wrap ((490 : Int) + IntKind.i64.wrap ((IntKind.u64.wrap n).tmod (20 : Int)))))))).2.1.2.2.2.1 == IntKind.i64.wrap (IntKind.i64.wrap ((IntKind.u64.wrap j).tmod (IntKind.u64.wrap (if (500 : Int) < IntKind.i64.wrap ((490 : Int) + IntKind.i64.wrap ((IntKind.u64.wrap n).tmod (20 : Int))) then (500 : Int) else IntKind.i64.wrap ((490 : Int) + IntKind.i64.wrap ((IntKind.u64.wrap n).tmod (20 : Int)))))) + (1 : Int))) (
              .req ((Pl.atF (Pl.takeF (Pl.dblF (Pl.seqM (Pl.capM (IntKind.i64.wrap ((490 : Int) + IntKind.i64.wrap ((IntKind.u64.wrap n).tmod (20 : Int)))))) (IntKind.i64.wrap ((IntKind.u64.wrap j).tmod (IntKind.u64.wrap (if (500 : Int) < IntKind.i64.wrap ((490 : Int) + IntKind.i64.wrap ((IntKind.u64.wrap n).tmod (20 : Int))) then (500 : Int) else IntKind.i64.wrap ((490 : Int) + IntKind.i64.wrap ((IntKind.u64.wrap n).tmod (20 : Int)))))))).1 (IntKind.i64.wrap ((IntKind.u64.wrap j).tmod (IntKind.u64.wrap (if (500 : Int) < IntKind.i64.wrap ((490 : Int) + IntKind.i64.wrap ((IntKind.u64.wrap n).tmod (20 : Int))) then (500 : Int) else IntKind.i64.wrap ((490 : Int) + IntKind.i64.wrap ((IntKind.u64.wrap n).tmod (20 : Int)))))))).1 (IntKind.i64.wrap ((IntKind.u64.wrap j).tmod (IntKind.u64.wrap (if (500 : Int) < IntKind.i64.wrap ((490 : Int) + IntKind.i64.wrap ((IntKind.u64.wrap n).tmod (20 : Int))) then (500 : Int) else IntKind.i64.wrap ((490 : Int) + IntKind.i64.wrap ((IntKind.u64.wrap n).tmod (20 : Int)))))))).1.length ≤ 500 ∧ (1 : Int) < (4611686018427387904 : Int) ∧ ∀ (m : TD Pl.MsgT), m ∈ [((2 : Int), (0 : Int), (0 : Int), (0 : Int), (0 : Int), (0 : Int), (0 : Int), (0 : Int), { data := { toList := ([] : List UInt8) } }, (List.replicate 8 (0 : Int), ([] : List ((Int × Int) × ByteArray))), (List.replicate 8 (0 : Int), ((0 : Int), (0 : Int), ([] : List Int)), List.replicate 16 ((0 : Int), (0 : Int))), ([] : List (Int × Int × Int)))] → Pl.okM m) (
               .fork ((Pl.sendF (Pl.atF (Pl.takeF (Pl.dblF (Pl.seqM (Pl.capM (IntKind.i64.wrap ((490 : Int) + IntKind.i64.wrap ((IntKind.u64.wrap n).tmod (20 : Int)))))) (IntKind.i64.wrap ((IntKind.u64.wrap j).tmod (IntKind.u64.wrap (if (500 : Int) < IntKind.i64.wrap ((490 : Int) + IntKind.i64.wrap ((IntKind.u64.wrap n).tmod (20 : Int))) then (500 : Int) else IntKind.i64.wrap ((490 : Int) + IntKind.i64.wrap ((IntKind.u64.wrap n).tmod (20 : Int)))))))).1 (IntKind.i64.wrap ((IntKind.u64.wrap j).tmod (IntKind.u64.wrap (if (500 : Int) < IntKind.i64.wrap ((490 : Int) + IntKind.i64.wrap ((IntKind.u64.wrap n).tmod (20 : Int))) then (500 : Int) else IntKind.i64.wrap ((490 : Int) + IntKind.i64.wrap ((IntKind.u64.wrap n).tmod (20 : Int)))))))).1 (IntKind.i64.wrap ((IntKind.u64.wrap j).tmod (IntKind.u64.wrap (if (500 : Int) < IntKind.i64.wrap ((490 : Int) + IntKind.i64.wrap ((IntKind.u64.wrap n).tmod (20 : Int))) then (500 : Int) else IntKind.i64.wrap ((490 : Int) + IntKind.i64.wrap ((IntKind.u64.wrap n).tmod (20 : Int)))))))).1 [((2 : Int), (0 : Int), (0 : Int), (0 : Int), (0 : Int), (0 : Int), (0 : Int), (0 : Int), { data := { toList := ([] : List UInt8) } }, (List.replicate 8 (0 : Int), ([] : List ((Int × Int) × ByteArray))), (List.replicate 8 (0 : Int), ((0 : Int), (0 : Int), ([] : List Int)), List.replicate 16 ((0 : Int), (0 : Int))), ([] : List (Int × Int × Int)))]).2 == (1 : Int)) (
                .req (True) (
                 .leaf ((true, ())))) (
                .leaf ((false, ()))))) (
              .leaf ((false, ())))) (
             .leaf ((false, ()))))) (
           .leaf ((false, ())))) (
          .leaf ((false, ())))))))))))) : Tree (Bool × PUnit)) := by kernel_rfl
end Pl
namespace Pl
open Go Sx Go.Proofs Go.RowKit
theorem n490_in {n : Int} : 490 ≤ IntKind.i64.wrap (490 + IntKind.i64.wrap ((IntKind.u64.wrap n).tmod 20)) ∧ IntKind.i64.wrap (490 + IntKind.i64.wrap ((IntKind.u64.wrap n).tmod 20)) < 510 := by
  have h := u64_range n
  have h1 : 0 ≤ (IntKind.u64.wrap n).tmod 20 := Int.tmod_nonneg _ h.1
  have h2 : (IntKind.u64.wrap n).tmod 20 < 20 := Int.tmod_lt_of_pos _ (by omega)
  rw [IntWalk.i64_in ((IntKind.u64.wrap n).tmod 20) (by omega), IntWalk.i64_in _ (by omega)]
  omega
theorem j_in {j s : Int} (h0 : 1 ≤ s) (h1 : s ≤ 500) : 0 ≤ IntKind.i64.wrap ((IntKind.u64.wrap j).tmod (IntKind.u64.wrap s)) ∧ IntKind.i64.wrap ((IntKind.u64.wrap j).tmod (IntKind.u64.wrap s)) < s := by
  have h := u64_range j
  rw [IntWalk.u64_in s (by omega)]
  have h2 : 0 ≤ (IntKind.u64.wrap j).tmod s := Int.tmod_nonneg _ h.1
  have h3 : (IntKind.u64.wrap j).tmod s < s := Int.tmod_lt_of_pos _ (by omega)
  rw [IntWalk.i64_in _ (by omega)]
  exact ⟨h2, h3⟩
theorem full_facts {s J : Int} (h0 : 0 ≤ J) (h1 : J < s) (h2 : s ≤ 500) : ∃ d k : List MsgD, dblF (seqM s.toNat) J = (d, decide (s < 500)) ∧ d.length ≤ 500 ∧ (∀ m ∈ d, okM m) ∧ takeF d J = (k, mkM 1 J, true) ∧ k.length < 500 ∧ (∀ m ∈ k, okM m) ∧ (atF k J).1 = k ∧ (J + 1 < s → atF k J = (k, mkM 1 (J + 1), true)) := by
  have hl := seqM_len s.toNat
  have hg : (seqM s.toNat).getD J.toNat zM = mkM 1 J := by rw [seqM_get (by omega), show ((J.toNat : Nat) : Int) = J by omega]
  have key : ∀ d : List MsgD, d.length ≤ 500 → s ≤ d.length → (∀ m ∈ d, okM m) → (∀ i : Nat, i < s.toNat → d.getD i zM = mkM 1 (i : Int)) → ∃ k : List MsgD, takeF d J = (k, mkM 1 J, true) ∧ k.length < 500 ∧ (∀ m ∈ k, okM m) ∧ (atF k J).1 = k ∧ (J + 1 < s → atF k J = (k, mkM 1 (J + 1), true)) := by
    intro d g1 g2 g3 g4
    have hk : (d.eraseIdx J.toNat).length = d.length - 1 := by rw [List.length_eraseIdx, if_pos (by omega)]
    refine ⟨d.eraseIdx J.toNat, ?_, by omega, fun m hm => g3 m (List.mem_of_mem_eraseIdx hm), ?_, fun hJ => ?_⟩
    · rw [takeF_at h0 (by omega), g4 _ (by omega), show ((J.toNat : Nat) : Int) = J by omega]
    · unfold atF; split <;> rfl
    · unfold atF
      rw [if_pos ⟨h0, by omega⟩]
      have : (d.eraseIdx J.toNat).getD J.toNat zM = d.getD (J.toNat + 1) zM := by
        simp only [List.getD_eq_getElem?_getD, List.getElem?_eraseIdx, Nat.lt_irrefl, if_false]
      rw [this, g4 _ (by omega), show ((J.toNat + 1 : Nat) : Int) = J + 1 by omega]
  have hdb : dblF (seqM s.toNat) J = ((sendF (seqM s.toNat) [mkM 1 J]).1, (sendF (seqM s.toNat) [mkM 1 J]).2 == 1) := by
    unfold dblF; rw [if_pos ⟨h0, by omega⟩, hg]
  by_cases q : s < 500
  · obtain ⟨k, k1⟩ := key (seqM s.toNat ++ [mkM 1 J]) (by simp only [List.length_append, List.length_singleton]; omega) (by simp only [List.length_append, List.length_singleton]; omega) (fun m hm => by
      rcases List.mem_append.1 hm with hm | hm
      · exact seqM_okM _ m hm
      · rw [List.mem_singleton] at hm; subst hm; exact okM_mk _ _) (fun i hi => by
        rw [← seqM_get hi]
        simp only [List.getD_eq_getElem?_getD]
        rw [List.getElem?_append_left (by omega)])
    refine ⟨_, k, ?_, by simp only [List.length_append, List.length_singleton]; omega, (fun m hm => by
      rcases List.mem_append.1 hm with hm | hm
      · exact seqM_okM _ m hm
      · rw [List.mem_singleton] at hm; subst hm; exact okM_mk _ _), k1⟩
    rw [hdb, sendF_one (by omega), decide_eq_true q]; rfl
  · obtain ⟨k, k1⟩ := key (seqM s.toNat) (by omega) (by omega) (seqM_okM _) (fun i hi => seqM_get hi)
    refine ⟨_, k, ?_, by omega, seqM_okM _, k1⟩
    have e0 : 500 - (seqM s.toNat).length = 0 := by omega
    rw [hdb, decide_eq_false q]
    unfold sendF
    rw [e0]; simp
theorem netfull_ok : PureOK Try.prog 4 [i64, i64] [.bool] (fun _ => True) (fun _ => (true, ())) :=
  fn_pure (E := n9) (n := 100) n9_ok Try.func4 (by kernel_rfl) lFa fun x _ => by
    obtain ⟨n, j, _⟩ : Int × Int × Unit := x
    refine Tree.all_eq (tFu n j) ?_
    have hm := n490_in (n := n)
    revert hm
    generalize IntKind.i64.wrap (490 + IntKind.i64.wrap ((IntKind.u64.wrap n).tmod 20)) = N
    rintro ⟨m1, m2⟩
    have hs : 1 ≤ (if 500 < N then 500 else N) ∧ (if 500 < N then 500 else N) ≤ 500 := by split <;> omega
    have hcap : capM N = (if 500 < N then 500 else N).toNat := by unfold capM; split <;> omega
    rw [hcap]
    have hsl : ((seqM (if 500 < N then 500 else N).toNat).length : Int) = (if 500 < N then 500 else N) := by rw [seqM_len]; split <;> omega
    generalize (if 500 < N then 500 else N) = s at *
    obtain ⟨j1, j2⟩ := j_in (j := j) hs.1 hs.2
    have hu : IntKind.u64.wrap s ≠ 0 := by rw [IntWalk.u64_in s (by omega)]; omega
    generalize IntKind.i64.wrap ((IntKind.u64.wrap j).tmod (IntKind.u64.wrap s)) = J at *
    obtain ⟨d, k, e1, e2, e3, e4, e5, e6, e7, e8⟩ := full_facts j1 j2 hs.2
    rw [e1, e4, e7, IntWalk.i64_in (J + 1) (by omega)]
    have hS : sendF k [mkM 2 0] = (k ++ [mkM 2 0], 1) := sendF_one e5
    refine ⟨by decide, ⟨by omega, by omega, m2, rfl⟩, ?_, hu, fun q => ?_, fun _ => ⟨⟨by rw [seqM_len]; omega, seqM_okM _⟩, fun q => ?_, fun _ => ⟨⟨e2, e3⟩, ⟨Nat.le_of_lt e5, e6⟩, fun _ => ⟨fun _ => ⟨fun q => ?_, fun q => ?_⟩, fun q => ?_⟩, fun q => by cases q⟩⟩⟩
    · repeat' (first | exact trivial | rfl | apply And.intro)
    · exfalso
      have q : ((((seqM s.toNat).length : Nat) : Int) != s) = true := q
      rw [hsl] at q; simp at q
    · exfalso
      have q : (!(decide (s < 500) == decide (s < 500))) = true := q
      simp at q
    · refine ⟨⟨by omega, by decide, fun m hm => ?_⟩, fun _ => ⟨trivial, rfl⟩, fun w => ?_⟩
      · have hm : m ∈ [mkM 2 0] := hm
        rw [List.mem_singleton] at hm; subst hm; exact okM_mk _ _
      · have w : ((sendF k [mkM 2 0]).2 == 1) = false := w
        rw [hS] at w; simp at w
    · have q : ¬ J + 1 ≥ s := of_decide_eq_false q
      rw [e8 (by omega)]
      refine ⟨fun _ => ⟨fun _ => ⟨⟨by omega, by decide, fun m hm => ?_⟩, fun _ => ⟨trivial, rfl⟩, fun w => ?_⟩, fun w => ?_⟩, fun w => by cases w⟩
      · have hm : m ∈ [mkM 2 0] := hm
        rw [List.mem_singleton] at hm; subst hm; exact okM_mk _ _
      · have w : ((sendF k [mkM 2 0]).2 == 1) = false := w
        rw [hS] at w; simp at w
      · have w : ((mkM 1 (J + 1)).2.2.2.1 == J + 1) = false := w
        have : (mkM 1 (J + 1)).2.2.2.1 = J + 1 := rfl
        rw [this] at w; simp at w
    · have q : ((mkM 1 J).2.2.2.1 == J) = false := q
      have : (mkM 1 J).2.2.2.1 = J := rfl
      rw [this] at q; simp at q
end Pl
