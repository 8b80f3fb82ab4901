import Derived.Test.YtofimljfdlnkgaaNeNeC
import Derived.Test.YtofimljfdlnkgaaSx32
namespace Pl
open Go Sx Go.Proofs Go.RowKit
def zM : MsgD := (0, 0, 0, 0, 0, 0, 0, 0, ByteArray.empty, (List.replicate 8 0, []), (List.replicate 8 0, (0, 0, []), List.replicate 16 (0, 0)), [])
def takeF (o : List MsgD) (i : Int) : List MsgD × MsgD × Bool := if 0 ≤ i ∧ i < (o.length : Int) then (o.eraseIdx i.toNat, o.getD i.toNat zM, true) else (o, zM, false)
def atF (o : List MsgD) (i : Int) : List MsgD × MsgD × Bool := if 0 ≤ i ∧ i < (o.length : Int) then (o, o.getD i.toNat zM, true) else (o, zM, false)
abbrev netP : List MsgD → Prop := fun o => o.length ≤ 500 ∧ ∀ m ∈ o, okM m
theorem at_okN : MutOK true Try.prog 13 (.row MsgT) [i64] [MsgT, .bool] (fun x => netP x.1) (fun x => ((atF x.1 x.2.1).1, (atF x.1 x.2.1).2.1, (atF x.1 x.2.1).2.2, ())) :=
  fn_mut (E := n2) (n := 100) n2_ok Try.func13 (by kernel_rfl) .nil fun o x h => by
    obtain ⟨i, _⟩ : Int × Unit := x
    obtain ⟨h1, h2⟩ : List.length (α := MsgD) o ≤ 500 ∧ ∀ m ∈ (o : List MsgD), okM m := h
    refine Tree.all_eq (tAt o i) ?_
    show Tree.all _ fun y => y = ((atF o i).1, (atF o i).2.1, (atF o i).2.2, ())
    unfold atF
    by_cases c : 0 ≤ i ∧ i < (List.length (α := MsgD) o : Int)
    · have hlt : i.toNat < List.length (α := MsgD) o := by omega
      rw [if_pos c, getD_get _ hlt, getD_get _ hlt]
      have hm := h2 _ (List.getElem_mem hlt)
      generalize (o : List MsgD)[i.toNat] = C at *
      obtain ⟨m1, m2, m3, m4, m5, m6⟩ := id hm
      have e4 : ∀ z, tab 8 C.2.2.2.2.2.2.2.2.2.1.1 z = C.2.2.2.2.2.2.2.2.2.1.1 := fun z => tab_eq m4
      have e5 : ∀ z, tab 8 C.2.2.2.2.2.2.2.2.2.2.1.1 z = C.2.2.2.2.2.2.2.2.2.2.1.1 := fun z => tab_eq m5
      have e6 : ∀ z, tab 16 C.2.2.2.2.2.2.2.2.2.2.1.2.2 z = C.2.2.2.2.2.2.2.2.2.2.1.2.2 := fun z => tab_eq m6
      refine ⟨fun e => absurd (of_decide_eq_true e) (by omega), fun _ => ⟨fun e => absurd (of_decide_eq_true e) (by omega), fun _ => ⟨c, c, ?_, ?_⟩⟩⟩
      · rw [e4, e5, e6]; exact hm
      · erw [e4, e5, e6]; rfl
    · rw [if_neg c]
      refine ⟨fun _ => rfl, fun e => ⟨fun _ => rfl, fun e2 => ?_⟩⟩
      have e := of_decide_eq_false e
      have e2 := of_decide_eq_false e2
      exact absurd ⟨by omega, by omega⟩ c
theorem take_okN : MutOK true Try.prog 10 (.row MsgT) [i64] [MsgT, .bool] (fun x => netP x.1) (fun x => ((takeF x.1 x.2.1).1, (takeF x.1 x.2.1).2.1, (takeF x.1 x.2.1).2.2, ())) :=
  fn_mut (E := n4) (n := 100) n4_ok Try.func10 (by kernel_rfl) .nil fun o x h => by
    obtain ⟨i, _⟩ : Int × Unit := x
    obtain ⟨h1, h2⟩ : List.length (α := MsgD) o ≤ 500 ∧ ∀ m ∈ (o : List MsgD), okM m := h
    refine Tree.all_eq (tTk o i) ?_
    show Tree.all _ fun y => y = ((takeF o i).1, (takeF o i).2.1, (takeF o i).2.2, ())
    unfold takeF
    by_cases c : 0 ≤ i ∧ i < (List.length (α := MsgD) o : Int)
    · have hlt : i.toNat < List.length (α := MsgD) o := by omega
      rw [if_pos c, getD_get _ hlt, getD_get _ hlt]
      have hm := h2 _ (List.getElem_mem hlt)
      generalize (o : List MsgD)[i.toNat] = C at *
      obtain ⟨m1, m2, m3, m4, m5, m6⟩ := id hm
      have e4 : ∀ z, tab 8 C.2.2.2.2.2.2.2.2.2.1.1 z = C.2.2.2.2.2.2.2.2.2.1.1 := fun z => tab_eq m4
      have e5 : ∀ z, tab 8 C.2.2.2.2.2.2.2.2.2.2.1.1 z = C.2.2.2.2.2.2.2.2.2.2.1.1 := fun z => tab_eq m5
      have e6 : ∀ z, tab 16 C.2.2.2.2.2.2.2.2.2.2.1.2.2 z = C.2.2.2.2.2.2.2.2.2.2.1.2.2 := fun z => tab_eq m6
      rw [IntWalk.i64_in (i + 1) (by omega), show (i + 1).toNat = i.toNat + 1 by omega]
      have hk : i = ((i.toNat : Nat) : Int) := by omega
      generalize i.toNat = k at *
      have hlen : ((List.length (α := MsgD) o : Nat) : Int).toNat = List.length (α := MsgD) o := Int.toNat_natCast _
      rw [hlen]
      have hN : k - 0 + (List.length (α := MsgD) o - (k + 1)) = List.length (α := MsgD) o - 1 := by omega
      rw [hN]
      have hE : List.take (k - 0) o ++ List.drop (k + 1) o = List.eraseIdx (α := MsgD) o k := by rw [Nat.sub_zero, List.eraseIdx_eq_take_drop_succ]
      rw [hE]
      have hEl : (List.eraseIdx (α := MsgD) o k).length = List.length (α := MsgD) o - 1 := by rw [List.length_eraseIdx, if_pos hlt]
      have hLl : (List.eraseIdx (α := MsgD) o k ++ List.drop (List.length (α := MsgD) o - 1) o).length = List.length (α := MsgD) o := by rw [List.length_append, hEl, List.length_drop]; omega
      rw [hLl, show min (List.length (α := MsgD) o - 1) (List.length (α := MsgD) o - 0) = List.length (α := MsgD) o - 1 by omega]
      refine ⟨fun e => absurd (of_decide_eq_true e) (by omega), fun _ => ⟨fun e => absurd (of_decide_eq_true e) (by omega), fun _ => ⟨c, c, ?_, ⟨by omega, by omega, by omega, by omega⟩, fun e => absurd (eq_of_beq e) (by omega), fun _ => ⟨⟨by omega, by omega, by omega⟩, ⟨by omega, by omega, by omega⟩, ⟨rfl, by omega, by omega⟩, ⟨by omega, by omega, by omega⟩, ?_, ?_⟩⟩⟩⟩
      · rw [e4, e5, e6]; exact hm
      · rw [Int.toNat_natCast]; omega
      · have hw : List.take (0 + ((List.length (α := MsgD) o - 1 : Nat) : Int).toNat) (List.eraseIdx (α := MsgD) o k ++ List.drop (List.length (α := MsgD) o - 1) o) = List.eraseIdx (α := MsgD) o k := by
          rw [Int.toNat_natCast, Nat.zero_add, List.take_left' hEl]
        rw [hw, List.drop_zero, List.append_assoc, List.take_left' hEl]
        erw [e4, e5, e6]; rfl
    · rw [if_neg c]
      refine ⟨fun _ => rfl, fun e => ⟨fun _ => rfl, fun e2 => ?_⟩⟩
      have e := of_decide_eq_false e
      have e2 := of_decide_eq_false e2
      exact absurd ⟨by omega, by omega⟩ c
end Pl
namespace Pl
open Go Sx Go.Proofs Go.RowKit
noncomputable abbrev KTkN : Nat × Sx.Spec := (10, mutSp true (.row MsgT) [i64] [MsgT, .bool] (fun x => netP x.1) (fun x => ((takeF x.1 x.2.1).1, (takeF x.1 x.2.1).2.1, (takeF x.1 x.2.1).2.2, ())))
noncomputable abbrev KAtN : Nat × Sx.Spec := (13, mutSp true (.row MsgT) [i64] [MsgT, .bool] (fun x => netP x.1) (fun x => ((atF x.1 x.2.1).1, (atF x.1 x.2.1).2.1, (atF x.1 x.2.1).2.2, ())))
noncomputable abbrev KNn : Nat × Sx.Spec := (7, fnI E0 [] 100 Try.f7)
noncomputable abbrev n5 : Ex := mkExM Try.prog [KNn, KSd, KTkN, KAtN, KLn]
theorem n5_ok : n5.Sound := mkExM_sound ⟨fnI_ok (E := E0) E0_ok Try.func7 (by kernel_rfl) .nil, mutSp_ok send_ok, mutSp_ok take_okN, mutSp_ok at_okN, fnI_ok (E := E0) E0_ok Try.func9 (by kernel_rfl) .nil, trivial⟩
theorem tAwN  : @Eq _
  (cutT <| fnT n5 [] 100 Try.f11 [] [.bool] ())
  (.req (0 ≤ 500 ∧ (2 : Int) < (4611686018427387904 : Int) ∧ ∀ (m : TD Pl.MsgT), m ∈ [((1 : Int), (0 : Int), (0 : Int), (0 : Int), (0 : Int), (0 : Int), (0 : Int), (0 : Int), { data := { toList := ([] : List UInt8) } }, (List.replicate 8 (0 : Int), ([] : List ((Int × Int) × ByteArray))), (List.replicate 8 (0 : Int), ((0 : Int), (0 : Int), ([] : List Int)), List.replicate 16 ((0 : Int), (0 : Int))), ([] : List (Int × Int × Int))), ((2 : Int), (0 : Int), (0 : Int), (0 : Int), (0 : Int), (0 : Int), (0 : Int), (0 : Int), { data := { toList := ([] : List UInt8) } }, (List.replicate 8 (0 : Int), ([] : List ((Int × Int) × ByteArray))), (List.replicate 8 (0 : Int), ((0 : Int), (0 : Int), ([] : List Int)), List.replicate 16 ((0 : Int), (0 : Int))), ([] : List (Int × Int × Int)))] → Pl.okM m) (
 .req (2 ≤ 500 ∧ ∀ (m : Pl.MsgD), m ∈ [((1 : Int), (0 : Int), (0 : Int), (0 : Int), (0 : Int), (0 : Int), (0 : Int), (0 : Int), { data := { toList := ([] : List UInt8) } }, (List.replicate 8 (0 : Int), ([] : List ((Int × Int) × ByteArray))), (List.replicate 8 (0 : Int), ((0 : Int), (0 : Int), ([] : List Int)), List.replicate 16 ((0 : Int), (0 : Int))), ([] : List (Int × Int × Int))), ((2 : Int), (0 : Int), (0 : Int), (0 : Int), (0 : Int), (0 : Int), (0 : Int), (0 : Int), { data := { toList := ([] : List UInt8) } }, (List.replicate 8 (0 : Int), ([] : List ((Int × Int) × ByteArray))), (List.replicate 8 (0 : Int), ((0 : Int), (0 : Int), ([] : List Int)), List.replicate 16 ((0 : Int), (0 : Int))), ([] : List (Int × Int × Int)))] → Pl.okM m) (
  .req (1 ≤ 500 ∧ ∀ (m : Pl.MsgD), m ∈ [((2 : Int), (0 : Int), (0 : Int), (0 : Int), (0 : Int), (0 : Int), (0 : Int), (0 : Int), { data := { toList := ([] : List UInt8) } }, (List.replicate 8 (0 : Int), ([] : List ((Int × Int) × ByteArray))), (List.replicate 8 (0 : Int), ((0 : Int), (0 : Int), ([] : List Int)), List.replicate 16 ((0 : Int), (0 : Int))), ([] : List (Int × Int × Int)))] → Pl.okM m) (
   .leaf ((true, ()))))) : Tree (Bool × PUnit)) := by kernel_rfl
def mkM (k s : Int) : MsgD := (k, 0, 0, s, 0, 0, 0, 0, ByteArray.empty, (List.replicate 8 0, []), (List.replicate 8 0, (0, 0, []), List.replicate 16 (0, 0)), [])
theorem okM_mk (k s : Int) : okM (mkM k s) := ⟨Nat.zero_le _, Nat.zero_le _, Nat.zero_le _, rfl, rfl, rfl⟩
theorem okM_all {l : List MsgD} (h : ∀ m ∈ l, ∃ k s, m = mkM k s) : ∀ m ∈ l, okM m := fun m hm => by obtain ⟨k, s, rfl⟩ := h m hm; exact okM_mk k s
theorem aw_okN : PureOK Try.prog 11 [] [.bool] (fun _ => True) (fun _ => (true, ())) :=
  fn_pure (E := n5) (n := 100) n5_ok Try.func11 (by kernel_rfl) .nil fun x _ => by
    refine cut_all (Tree.all_eq tAwN ?_)
    have h2 : ∀ m ∈ [mkM 1 0, mkM 2 0], okM m := fun m hm => by
      simp only [List.mem_cons, List.not_mem_nil, or_false] at hm
      rcases hm with rfl | rfl <;> exact okM_mk _ _
    have h1 : ∀ m ∈ [mkM 2 0], okM m := fun m hm => by
      simp only [List.mem_cons, List.not_mem_nil, or_false] at hm
      subst hm; exact okM_mk _ _
    exact ⟨⟨by decide, by decide, h2⟩, ⟨by decide, h2⟩, ⟨by decide, h1⟩, rfl⟩
abbrev KAwN : Nat × Sx.Spec := (11, pureSp [] [.bool] (fun _ => True) (fun _ => (true, ())))
noncomputable abbrev n6 : Ex := mkExM Try.prog [KNn, KSd, KTkN, KAtN, KLn, KAwN]
theorem n6_ok : n6.Sound := mkExM_sound ⟨fnI_ok (E := E0) E0_ok Try.func7 (by kernel_rfl) .nil, mutSp_ok send_ok, mutSp_ok take_okN, mutSp_ok at_okN, fnI_ok (E := E0) E0_ok Try.func9 (by kernel_rfl) .nil, pureSp_ok aw_okN, trivial⟩
end Pl
namespace Pl
open Go Sx Go.Proofs Go.RowKit
def seqM (n : Nat) : List MsgD := List.map (fun (j : Nat) => mkM 1 (j : Int)) (List.range n)
structure AOa where
  b : Bool
  n : Int
  i : Int
  o : List MsgD
def LOa : LoopC AOa where
  n0 := 1
  det st := match boolS st 1, intS st 19, intS st 20, rowC st 0 0 MsgT with | some b, some n, some i, some o => some ⟨b, n, i, o⟩ | _, _, _, _ => none
  rows := [(1, .cell 0 0)]
  inv a := ⟨[(20, iv a.i), (19, iv a.n), (5, .one (.ptr 0 0)), (0, iv a.n), (1, .one (.bool a.b))],
    [(0, .blk [.row 1]), (1, .own MsgT a.o)], 2⟩
  ok a := 0 ≤ a.i ∧ a.i ≤ a.n ∧ a.n < 60 ∧ a.o = seqM a.i.toNat
  mu a := (a.n - a.i).toNat
  fin a := .leaf ⟨2, ⟨[(5, .one (.ptr 0 0)), (0, iv a.n), (1, .one (.bool a.b))],
    [(0, .blk [.row 1]), (1, .own MsgT (seqM a.n.toNat))], 2⟩⟩
theorem rOa (b : Bool) (n i : Int) (o : List MsgD) : @Eq _
  (LOa.round n6 [] 100 Try.f3 0 ⟨b, n, i, o⟩)
  (.fork (decide (i < n)) (
 .req (o.length ≤ 500 ∧ (1 : Int) < (4611686018427387904 : Int) ∧ ∀ (m : TD Pl.MsgT), m ∈ [((1 : Int), (0 : Int), (0 : Int), i, (0 : Int), (0 : Int), (0 : Int), (0 : Int), { data := { toList := ([] : List UInt8) } }, (List.replicate 8 (0 : Int), ([] : List ((Int × Int) × ByteArray))), (List.replicate 8 (0 : Int), ((0 : Int), (0 : Int), ([] : List Int)), List.replicate 16 ((0 : Int), (0 : Int))), ([] : List (Int × Int × Int)))] → Pl.okM m) (
  .fork ((Pl.sendF o [((1 : Int), (0 : Int), (0 : Int), i, (0 : Int), (0 : Int), (0 : Int), (0 : Int), { data := { toList := ([] : List UInt8) } }, (List.replicate 8 (0 : Int), ([] : List ((Int × Int) × ByteArray))), (List.replicate 8 (0 : Int), ((0 : Int), (0 : Int), ([] : List Int)), List.replicate 16 ((0 : Int), (0 : Int))), ([] : List (Int × Int × Int)))]).2 != (1 : Int)) (
   .req (False) (
    .leaf (Option.none))) (
   .req (IntKind.i64.wrap (i + (1 : Int)) = IntKind.i64.wrap (i + (1 : Int)) ∧ n = n ∧ n = n ∧ b = b ∧ (Pl.sendF o [((1 : Int), (0 : Int), (0 : Int), i, (0 : Int), (0 : Int), (0 : Int), (0 : Int), { data := { toList := ([] : List UInt8) } }, (List.replicate 8 (0 : Int), ([] : List ((Int × Int) × ByteArray))), (List.replicate 8 (0 : Int), ((0 : Int), (0 : Int), ([] : List Int)), List.replicate 16 ((0 : Int), (0 : Int))), ([] : List (Int × Int × Int)))]).1 = (Pl.sendF o [((1 : Int), (0 : Int), (0 : Int), i, (0 : Int), (0 : Int), (0 : Int), (0 : Int), { data := { toList := ([] : List UInt8) } }, (List.replicate 8 (0 : Int), ([] : List ((Int × Int) × ByteArray))), (List.replicate 8 (0 : Int), ((0 : Int), (0 : Int), ([] : List Int)), List.replicate 16 ((0 : Int), (0 : Int))), ([] : List (Int × Int × Int)))]).1) (
    .leaf (Option.some { b := b, n := n, i := IntKind.i64.wrap (i + (1 : Int)), o := (Pl.sendF o [((1 : Int), (0 : Int), (0 : Int), i, (0 : Int), (0 : Int), (0 : Int), (0 : Int), { data := { toList := ([] : List UInt8) } }, (List.replicate 8 (0 : Int), ([] : List ((Int × Int) × ByteArray))), (List.replicate 8 (0 : Int), ((0 : Int), (0 : Int), ([] : List Int)), List.replicate 16 ((0 : Int), (0 : Int))), ([] : List (Int × Int × Int)))]).1 }))))) (
 .req (n = n ∧ b = b ∧ o = Pl.seqM n.toNat) (
  .leaf (Option.none))) : Tree (Option Pl.AOa)) := by kernel_rfl
noncomputable abbrev oaP : Nat × (St → Tree Out) := (0, LOa.sp)
structure AOb where
  b : Bool
  n : Int
  i : Int
  o : List MsgD
def LOb : LoopC AOb where
  n0 := 2
  det st := match boolS st 1, intS st 30, intS st 31, rowC st 0 0 MsgT with | some b, some n, some i, some o => some ⟨b, n, i, o⟩ | _, _, _, _ => none
  rows := [(2, .cell 0 0)]
  inv a := ⟨[(31, iv a.i), (30, iv a.n), (5, .one (.ptr 0 0)), (0, iv a.n), (1, .one (.bool a.b))],
    [(0, .blk [.row 2]), (2, .own MsgT a.o)], 3⟩
  ok a := 0 ≤ a.i ∧ a.i ≤ a.n ∧ a.n < 60 ∧ a.o = (if a.b = true then seqM (a.n - a.i).toNat else (seqM a.n.toNat).drop a.i.toNat)
  mu a := (a.n - a.i).toNat
  fin a := .leaf ⟨4, ⟨[(5, .one (.ptr 0 0))],
    [(0, .blk [.row 2]), (2, .own MsgT [])], 3⟩⟩
theorem rOb (b : Bool) (n i : Int) (o : List MsgD) : @Eq _
  (LOb.round n6 [] 100 Try.f3 1 ⟨b, n, i, o⟩)
  (.fork (decide (i < n)) (
 .fork (b) (
  .req (o.length ≤ 500 ∧ ∀ (m : Pl.MsgD), m ∈ o → Pl.okM m) (
   .req (True) (
    .fork (!(Pl.takeF o (IntKind.i64.wrap ((↑o.length : Int) - (1 : Int)))).2.2 || (Pl.takeF o (IntKind.i64.wrap ((↑o.length : Int) - (1 : Int)))).2.1.2.2.2.1 != IntKind.i64.wrap (IntKind.i64.wrap (n - (1 : Int)) - i)) (
     .req (False) (
      .leaf (Option.none))) (
     .req (IntKind.i64.wrap (i + (1 : Int)) = IntKind.i64.wrap (i + (1 : Int)) ∧ n = n ∧ n = n ∧ b = b ∧ (Pl.takeF o (IntKind.i64.wrap ((↑o.length : Int) - (1 : Int)))).1 = (Pl.takeF o (IntKind.i64.wrap ((↑o.length : Int) - (1 : Int)))).1) (
      .leaf (Option.some { b := b, n := n, i := IntKind.i64.wrap (i + (1 : Int)), o := (Pl.takeF o (IntKind.i64.wrap ((↑o.length : Int) - (1 : Int)))).1 })))))) (
  .req (o.length ≤ 500 ∧ ∀ (m : Pl.MsgD), m ∈ o → Pl.okM m) (
   .req (True) (
    .fork (!(Pl.takeF o (0 : Int)).2.2 || (Pl.takeF o (0 : Int)).2.1.2.2.2.1 != i) (
     .req (False) (
      .leaf (Option.none))) (
     .req (IntKind.i64.wrap (i + (1 : Int)) = IntKind.i64.wrap (i + (1 : Int)) ∧ n = n ∧ n = n ∧ b = b ∧ (Pl.takeF o (0 : Int)).1 = (Pl.takeF o (0 : Int)).1) (
      .leaf (Option.some { b := b, n := n, i := IntKind.i64.wrap (i + (1 : Int)), o := (Pl.takeF o (0 : Int)).1 }))))))) (
 .req (o = ([] : List (Int × Int × Int × Int × Int × Int × Int × Int × ByteArray × (List Int × List ((Int × Int) × ByteArray)) × (List Int × (Int × Int × List Int) × List (Int × Int)) × List (Int × Int × Int)))) (
  .leaf (Option.none))) : Tree (Option Pl.AOb)) := by kernel_rfl
noncomputable abbrev obP : Nat × (St → Tree Out) := (1, LOb.sp)
theorem tOr (n : Int) (b : Bool) : @Eq _
  (fnT n6 [oaP, obP] 100 Try.f3 [i64, .bool] [.bool] (n, b, ()))
  (.req ((60 : Int) ≠ (0 : Int)) (
 .req ((0 : Int) ≤ (0 : Int) ∧ (0 : Int) ≤ IntKind.i64.wrap ((IntKind.u64.wrap n).tmod (60 : Int)) ∧ IntKind.i64.wrap ((IntKind.u64.wrap n).tmod (60 : Int)) < (60 : Int) ∧ ([] : List (Int × Int × Int × Int × Int × Int × Int × Int × ByteArray × (List Int × List ((Int × Int) × ByteArray)) × (List Int × (Int × Int × List Int) × List (Int × Int)) × List (Int × Int × Int))) = Pl.seqM 0) (
  .req ((0 : Int) = (0 : Int) ∧ IntKind.i64.wrap ((IntKind.u64.wrap n).tmod (60 : Int)) = IntKind.i64.wrap ((IntKind.u64.wrap n).tmod (60 : Int)) ∧ IntKind.i64.wrap ((IntKind.u64.wrap n).tmod (60 : Int)) = IntKind.i64.wrap ((IntKind.u64.wrap n).tmod (60 : Int)) ∧ b = b ∧ ([] : List (Int × Int × Int × Int × Int × Int × Int × Int × ByteArray × (List Int × List ((Int × Int) × ByteArray)) × (List Int × (Int × Int × List Int) × List (Int × Int)) × List (Int × Int × Int))) = ([] : List (Int × Int × Int × Int × Int × Int × Int × Int × ByteArray × (List Int × List ((Int × Int) × ByteArray)) × (List Int × (Int × Int × List Int) × List (Int × Int)) × List (Int × Int × Int)))) (
   .req ((0 : Int) ≤ (0 : Int) ∧ (0 : Int) ≤ IntKind.i64.wrap ((IntKind.u64.wrap n).tmod (60 : Int)) ∧ IntKind.i64.wrap ((IntKind.u64.wrap n).tmod (60 : Int)) < (60 : Int) ∧ Pl.seqM (IntKind.i64.wrap ((IntKind.u64.wrap n).tmod (60 : Int))).toNat = if b = true then Pl.seqM (IntKind.i64.wrap ((IntKind.u64.wrap n).tmod (60 : Int)) - (0 : Int)).toNat else Pl.seqM (IntKind.i64.wrap ((IntKind.u64.wrap n).tmod (60 : Int))).toNat) (
    .req ((0 : Int) = (0 : Int) ∧ IntKind.i64.wrap ((IntKind.u64.wrap n).tmod (60 : Int)) = IntKind.i64.wrap ((IntKind.u64.wrap n).tmod (60 : Int)) ∧ IntKind.i64.wrap ((IntKind.u64.wrap n).tmod (60 : Int)) = IntKind.i64.wrap ((IntKind.u64.wrap n).tmod (60 : Int)) ∧ b = b ∧ Pl.seqM (IntKind.i64.wrap ((IntKind.u64.wrap n).tmod (60 : Int))).toNat = Pl.seqM (IntKind.i64.wrap ((IntKind.u64.wrap n).tmod (60 : Int))).toNat) (
     .req (0 ≤ 500 ∧ ∀ (m : Pl.MsgD), m ∈ ([] : List (Int × Int × Int × Int × Int × Int × Int × Int × ByteArray × (List Int × List ((Int × Int) × ByteArray)) × (List Int × (Int × Int × List Int) × List (Int × Int)) × List (Int × Int × Int))) → Pl.okM m) (
      .fork (!(Pl.takeF (([] : List (Int × Int × Int × Int × Int × Int × Int × Int × ByteArray × (List Int × List ((Int × Int) × ByteArray)) × (List Int × (Int × Int × List Int) × List (Int × Int)) × List (Int × Int × Int)))) (0 : Int)).2.2) (
       .fork ((↑(Pl.takeF (([] : List (Int × Int × Int × Int × Int × Int × Int × Int × ByteArray × (List Int × List ((Int × Int) × ByteArray)) × (List Int × (Int × Int × List Int) × List (Int × Int)) × List (Int × Int × Int)))) (0 : Int)).1.length : Int) == (0 : Int)) (
        .req (True) (
         .leaf ((true, ())))) (
        .leaf ((false, ())))) (
       .leaf ((false, ()))))))))) : Tree (Bool × PUnit)) := by kernel_rfl
end Pl
namespace Pl
open Go Sx Go.Proofs Go.RowKit
theorem seqM_len (n : Nat) : (seqM n).length = n := by simp [seqM]
theorem seqM_succ (n : Nat) : seqM (n + 1) = seqM n ++ [mkM 1 (n : Int)] := by simp [seqM, List.range_succ]
theorem seqM_okM (n : Nat) : ∀ m ∈ seqM n, okM m := fun m hm => by
  simp only [seqM, List.mem_map] at hm
  obtain ⟨k, _, rfl⟩ := hm
  exact okM_mk _ _
theorem seqM_get {n k : Nat} (h : k < n) : (seqM n).getD k zM = mkM 1 (k : Int) := by
  simp [seqM, List.getD_eq_getElem?_getD, h]
theorem sendF_one {o : List MsgD} {m : MsgD} (h : o.length < 500) : sendF o [m] = (o ++ [m], 1) := by
  have e : List.take (500 - o.length) [m] = [m] := List.take_of_length_le (by simp; omega)
  have e2 : min [m].length (500 - o.length) = 1 := by rw [List.length_singleton]; omega
  unfold sendF
  rw [e, e2]; rfl
theorem takeF_at {o : List MsgD} {i : Int} (h0 : 0 ≤ i) (h1 : i < o.length) : takeF o i = (o.eraseIdx i.toNat, o.getD i.toNat zM, true) := by
  unfold takeF; rw [if_pos ⟨h0, h1⟩]
theorem lOa : LpsOK Try.prog Try.f3 [oaP] := by
  refine .cons (LOa.sound n6_ok (lps := []) (n := 100) (inner rfl) (fun _ => rfl) ?_) .nil
  rintro ⟨b, n, i, o⟩ ⟨h1, h2, h3, h4⟩
  simp only at h1 h2 h3 h4
  subst h4
  have hl := seqM_len i.toNat
  have hsend : sendF (seqM i.toNat) [mkM 1 i] = (seqM (i + 1).toNat, 1) := by
    rw [sendF_one (by omega), show (i + 1).toNat = i.toNat + 1 by omega, seqM_succ, show ((i.toNat : Nat) : Int) = i by omega]
  rw [rOa]
  refine ⟨fun c => ?_, fun c => ?_⟩
  · have c : i < n := of_decide_eq_true c
    refine ⟨⟨by omega, by decide, fun m hm => ?_⟩, fun e => ?_, fun _ => ⟨by repeat' (first | exact trivial | rfl | apply And.intro), ?_⟩⟩
    · have hm : m ∈ [mkM 1 i] := hm
      rw [List.mem_singleton] at hm; subst hm; exact okM_mk _ _
    · exfalso
      have e : ((sendF (seqM i.toNat) [mkM 1 i]).2 != 1) = true := e
      rw [hsend] at e; exact absurd e (by simp)
    · rw [IntWalk.i64_in (i + 1) (by omega)]
      refine ⟨⟨by dsimp only; omega, by dsimp only; omega, h3, ?_⟩, by simp only [LOa]; omega, rfl⟩
      show (sendF (seqM i.toNat) [mkM 1 i]).1 = seqM (i + 1).toNat
      rw [hsend]
  · have c : ¬ i < n := of_decide_eq_false c
    exact ⟨⟨rfl, rfl, by rw [show i = n by omega]⟩, trivial⟩
theorem lOb : LpsOK Try.prog Try.f3 [oaP, obP] := by
  refine .cons (lOa 0 _ rfl) (.cons (LOb.sound n6_ok (lps := []) (n := 100) (inner rfl) (fun _ => rfl) ?_) .nil)
  rintro ⟨b, n, i, o⟩ ⟨h1, h2, h3, h4⟩
  simp only at h1 h2 h3 h4
  rw [rOb]
  have hok : o.length ≤ 500 ∧ ∀ m ∈ o, okM m := by
    rw [h4]
    cases b with
    | true => simp only [if_true]; exact ⟨by rw [seqM_len]; omega, seqM_okM _⟩
    | false => simp only [Bool.false_eq_true, if_false]; exact ⟨by rw [List.length_drop, seqM_len]; omega, fun m hm => seqM_okM _ m (List.mem_of_mem_drop hm)⟩
  refine ⟨fun c => ?_, fun c => ?_⟩
  · have c : i < n := of_decide_eq_true c
    have next : ∀ o', o' = (if b = true then seqM (n - (i + 1)).toNat else (seqM n.toNat).drop (i + 1).toNat) → LOb.Next ⟨b, n, i, o⟩ (some ⟨b, n, IntKind.i64.wrap (i + 1), o'⟩) := by
      intro o' e
      rw [IntWalk.i64_in (i + 1) (by omega)]
      exact ⟨⟨by dsimp only; omega, by dsimp only; omega, h3, e⟩, by simp only [LOb]; omega, rfl⟩
    refine ⟨fun hb => ?_, fun hb => ?_⟩
    · have hb : b = true := hb
      subst hb
      simp only [if_true] at h4 next
      have hl : o.length = (n - i).toNat := by rw [h4, seqM_len]
      have htk : takeF o (IntKind.i64.wrap ((o.length : Int) - 1)) = (seqM (n - (i + 1)).toNat, mkM 1 (n - 1 - i), true) := by
        rw [IntWalk.i64_in _ (by omega), takeF_at (by omega) (by omega), h4]
        have e1 : (((seqM (n - i).toNat).length : Int) - 1).toNat = (n - (i + 1)).toNat := by rw [seqM_len]; omega
        have e2 : (n - i).toNat = (n - (i + 1)).toNat + 1 := by omega
        rw [e1, seqM_get (by omega), e2, seqM_succ]
        have e3 : List.eraseIdx (seqM (n - (i + 1)).toNat ++ [mkM 1 (((n - (i + 1)).toNat : Nat) : Int)]) (n - (i + 1)).toNat = seqM (n - (i + 1)).toNat := by
          rw [List.eraseIdx_append_of_length_le (by rw [seqM_len]; omega), seqM_len, Nat.sub_self]; simp
        rw [e3, show (((n - (i + 1)).toNat : Nat) : Int) = n - 1 - i by omega]
      rw [htk]
      refine ⟨hok, trivial, fun e => ?_, fun _ => ⟨by repeat' (first | exact trivial | rfl | apply And.intro), next _ rfl⟩⟩
      exfalso
      rw [IntWalk.i64_in (n - 1) (by omega), IntWalk.i64_in _ (by omega)] at e
      have e : (!true || (n - 1 - i != n - 1 - i)) = true := e
      simp at e
    · have hb : b = false := hb
      subst hb
      simp only [Bool.false_eq_true, if_false] at h4 next
      have hd : (seqM n.toNat).drop i.toNat = mkM 1 i :: (seqM n.toNat).drop (i + 1).toNat := by
        have hlt : i.toNat < (seqM n.toNat).length := by rw [seqM_len]; omega
        rw [List.drop_eq_getElem_cons hlt, show (i + 1).toNat = i.toNat + 1 by omega]
        congr 1
        have := seqM_get (n := n.toNat) (k := i.toNat) (by omega)
        rw [getD_get _ hlt] at this
        rw [this, show ((i.toNat : Nat) : Int) = i by omega]
      have htk : takeF o 0 = ((seqM n.toNat).drop (i + 1).toNat, mkM 1 i, true) := by
        rw [h4, hd, takeF_at (by omega) (by simp)]; rfl
      rw [htk]
      refine ⟨hok, trivial, fun e => ?_, fun _ => ⟨by repeat' (first | exact trivial | rfl | apply And.intro), next _ rfl⟩⟩
      exfalso
      have e : (!true || (i != i)) = true := e
      simp at e
  · have c : ¬ i < n := of_decide_eq_false c
    have hi : i = n := by omega
    refine ⟨?_, trivial⟩
    rw [h4, hi]
    cases b with
    | true => simp only [if_true]; rw [show (n - n).toNat = 0 by omega]; rfl
    | false => simp only [Bool.false_eq_true, if_false]; rw [List.drop_of_length_le (by rw [seqM_len]; omega)]
theorem n60_in {n : Int} : 0 ≤ IntKind.i64.wrap ((IntKind.u64.wrap n).tmod 60) ∧ IntKind.i64.wrap ((IntKind.u64.wrap n).tmod 60) < 60 := by
  have h := u64_range n
  have h1 : 0 ≤ (IntKind.u64.wrap n).tmod 60 := Int.tmod_nonneg _ h.1
  have h2 : (IntKind.u64.wrap n).tmod 60 < 60 := Int.tmod_lt_of_pos _ (by omega)
  rw [IntWalk.i64_in ((IntKind.u64.wrap n).tmod 60) (by omega)]
  exact ⟨h1, h2⟩
theorem order_ok : PureOK Try.prog 3 [i64, .bool] [.bool] (fun _ => True) (fun _ => (true, ())) :=
  fn_pure (E := n6) (n := 100) n6_ok Try.func3 (by kernel_rfl) lOb fun x _ => by
    obtain ⟨n, b, _⟩ : Int × Bool × Unit := x
    refine Tree.all_eq (tOr n b) ?_
    have hm := n60_in (n := n)
    revert hm
    generalize IntKind.i64.wrap ((IntKind.u64.wrap n).tmod 60) = N
    rintro ⟨m1, m2⟩
    refine ⟨by decide, ⟨by omega, by omega, m2, rfl⟩, by repeat' (first | exact trivial | rfl | apply And.intro), ⟨by omega, by omega, m2, ?_⟩, by repeat' (first | exact trivial | rfl | apply And.intro), ⟨by omega, fun m hm => by cases hm⟩, fun _ => ⟨fun _ => ⟨trivial, rfl⟩, fun e => by cases e⟩, fun e => by cases e⟩
    show seqM N.toNat = if b = true then seqM (N - 0).toNat else (seqM N.toNat).drop 0
    rw [Int.sub_zero]; cases b <;> rfl
end Pl
