import Derived.Test.YtofimljfdlnkgaaNeNeM
import Derived.Test.YtofimljfdlnkgaaSx42
namespace Pl
open Go Sx Go.Proofs Go.RowKit
noncomputable abbrev paP : Nat × (St → Tree Out) := (0, LPa.sp)
structure APb where
  q : List MsgD
  i : Int
  o : List MsgD
noncomputable def LPb : LoopC APb where
  n0 := 4
  det st := match rowS st 4 MsgT, intS st 174, rowC st 1 0 MsgT with | some q, some i, some o => some ⟨q, i, o⟩ | _, _, _ => none
  rows := [(4, .cell 1 0)]
  inv a := ⟨[(174, iv a.i), (173, iv (↑a.q.length : Int)), (4, .one (.row 3)), (3, .one (.ptr 1 0))],
    [(1, .blk [.row 4]), (3, Gb.own MsgT a.q), (4, Gb.own MsgT a.o)], 5⟩
  ok a := 0 ≤ a.i ∧ a.i ≤ a.q.length ∧ a.q = a.o ∧ okS a.o
  mu a := a.q.length - a.i.toNat
  fin a := .leaf ⟨5, ⟨[], [], 5⟩⟩
noncomputable abbrev pbP : Nat × (St → Tree Out) := (1, LPb.sp)
theorem rPb (q : List MsgD) (i : Int) (o : List MsgD) : @Eq _
  (LPb.round m1 [] 100 Try.f5 1 ⟨q, i, o⟩)
  (.fork (decide (i < (↑q.length : Int))) (
 .req (o.length ≤ 500 ∧ ∀ (m : Pl.MsgD), m ∈ o → Pl.okM m) (
  .fork (!(Pl.atF o i).2.2) (
   .req (False) (
    .leaf (Option.none))) (
   .req ((0 : Int) ≤ i ∧ i ≤ IntKind.i64.wrap (i + (1 : Int)) ∧ IntKind.i64.wrap (i + (1 : Int)) ≤ (↑q.length : Int)) (
    .req ((1 : Int) ≤ (9223372036854775807 : Int) ∧ (∀ (m : TD Pl.MsgT), m ∈ [(Pl.xM (Pl.atF o i).2.1)] → Pl.smM m) ∧ ∀ (m : TD Pl.MsgT), m ∈ List.take ((IntKind.i64.wrap (i + (1 : Int))).toNat - i.toNat) (List.drop i.toNat q) → Pl.smM m) (
     .fork (decide ((if Pl.eqM [(Pl.xM (Pl.atF o i).2.1)] (List.take ((IntKind.i64.wrap (i + (1 : Int))).toNat - i.toNat) (List.drop i.toNat q)) = true then (0 : Int) else (1 : Int)) > (0 : Int))) (
      .req (False) (
       .leaf (Option.none))) (
      .req (IntKind.i64.wrap (i + (1 : Int)) = IntKind.i64.wrap (i + (1 : Int)) ∧ (↑q.length : Int) = (↑q.length : Int) ∧ q = q ∧ (Pl.atF o i).1 = (Pl.atF o i).1) (
       .leaf (Option.some { q := q, i := IntKind.i64.wrap (i + (1 : Int)), o := (Pl.atF o i).1 })))))))) (
 .req (True) (
  .leaf (Option.none))) : Tree (Option Pl.APb)) := by kernel_rfl
theorem tPl (l : List CallND) : @Eq _
  (fnT m1 [paP, pbP] 100 Try.f5 [callsN] [.bool] (l, ()))
  (.req (∀ (c : TD Pl.CallN), c ∈ l → ∀ (m : TD Pl.MsgT), m ∈ c.snd.snd → Pl.inM m) (
 .fork (!Pl.lgL l (0 : Int) (0 : Int)) (
  .req (True) (
   .leaf ((true, ())))) (
  .req ((0 : Int) ≤ (0 : Int) ∧ (0 : Int) ≤ (↑l.length : Int) ∧ ([] : List (Int × Int × Int × Int × Int × Int × Int × Int × ByteArray × (List Int × List ((Int × Int) × ByteArray)) × (List Int × (Int × Int × List Int) × List (Int × Int)) × List (Int × Int × Int))) = ([] : List (Int × Int × Int × Int × Int × Int × Int × Int × ByteArray × (List Int × List ((Int × Int) × ByteArray)) × (List Int × (Int × Int × List Int) × List (Int × Int)) × List (Int × Int × Int))) ∧ Pl.okS (([] : List (Int × Int × Int × Int × Int × Int × Int × Int × ByteArray × (List Int × List ((Int × Int) × ByteArray)) × (List Int × (Int × Int × List Int) × List (Int × Int)) × List (Int × Int × Int)))) ∧ Pl.inL l) (
   .req ((0 : Int) = (0 : Int) ∧ (↑l.length : Int) = (↑l.length : Int) ∧ l = l ∧ ([] : List (Int × Int × Int × Int × Int × Int × Int × Int × ByteArray × (List Int × List ((Int × Int) × ByteArray)) × (List Int × (Int × Int × List Int) × List (Int × Int)) × List (Int × Int × Int))) = ([] : List (Int × Int × Int × Int × Int × Int × Int × Int × ByteArray × (List Int × List ((Int × Int) × ByteArray)) × (List Int × (Int × Int × List Int) × List (Int × Int)) × List (Int × Int × Int))) ∧ ([] : List (Int × Int × Int × Int × Int × Int × Int × Int × ByteArray × (List Int × List ((Int × Int) × ByteArray)) × (List Int × (Int × Int × List Int) × List (Int × Int)) × List (Int × Int × Int))) = ([] : List (Int × Int × Int × Int × Int × Int × Int × Int × ByteArray × (List Int × List ((Int × Int) × ByteArray)) × (List Int × (Int × Int × List Int) × List (Int × Int)) × List (Int × Int × Int)))) (
    .req ((0 : Int) ≤ (0 : Int) ∧ (0 : Int) ≤ (↑(Pl.playF l (([] : List (Int × Int × Int × Int × Int × Int × Int × Int × ByteArray × (List Int × List ((Int × Int) × ByteArray)) × (List Int × (Int × Int × List Int) × List (Int × Int)) × List (Int × Int × Int))))).length : Int) ∧ Pl.playF l (([] : List (Int × Int × Int × Int × Int × Int × Int × Int × ByteArray × (List Int × List ((Int × Int) × ByteArray)) × (List Int × (Int × Int × List Int) × List (Int × Int)) × List (Int × Int × Int)))) = Pl.playF l (([] : List (Int × Int × Int × Int × Int × Int × Int × Int × ByteArray × (List Int × List ((Int × Int) × ByteArray)) × (List Int × (Int × Int × List Int) × List (Int × Int)) × List (Int × Int × Int)))) ∧ Pl.okS (Pl.playF l (([] : List (Int × Int × Int × Int × Int × Int × Int × Int × ByteArray × (List Int × List ((Int × Int) × ByteArray)) × (List Int × (Int × Int × List Int) × List (Int × Int)) × List (Int × Int × Int)))))) (
     .req ((0 : Int) = (0 : Int) ∧ (↑(Pl.playF l (([] : List (Int × Int × Int × Int × Int × Int × Int × Int × ByteArray × (List Int × List ((Int × Int) × ByteArray)) × (List Int × (Int × Int × List Int) × List (Int × Int)) × List (Int × Int × Int))))).length : Int) = (↑(Pl.playF l (([] : List (Int × Int × Int × Int × Int × Int × Int × Int × ByteArray × (List Int × List ((Int × Int) × ByteArray)) × (List Int × (Int × Int × List Int) × List (Int × Int)) × List (Int × Int × Int))))).length : Int) ∧ Pl.playF l (([] : List (Int × Int × Int × Int × Int × Int × Int × Int × ByteArray × (List Int × List ((Int × Int) × ByteArray)) × (List Int × (Int × Int × List Int) × List (Int × Int)) × List (Int × Int × Int)))) = Pl.playF l (([] : List (Int × Int × Int × Int × Int × Int × Int × Int × ByteArray × (List Int × List ((Int × Int) × ByteArray)) × (List Int × (Int × Int × List Int) × List (Int × Int)) × List (Int × Int × Int)))) ∧ Pl.playF l (([] : List (Int × Int × Int × Int × Int × Int × Int × Int × ByteArray × (List Int × List ((Int × Int) × ByteArray)) × (List Int × (Int × Int × List Int) × List (Int × Int)) × List (Int × Int × Int)))) = Pl.playF l (([] : List (Int × Int × Int × Int × Int × Int × Int × Int × ByteArray × (List Int × List ((Int × Int) × ByteArray)) × (List Int × (Int × Int × List Int) × List (Int × Int)) × List (Int × Int × Int))))) (
      .req (True) (
       .leaf ((true, ()))))))))) : Tree (Bool × PUnit)) := by kernel_rfl
end Pl
namespace Pl
open Go Sx Go.Proofs Go.RowKit
theorem ff {p : Prop} (h : false = true) : p := by cases h
theorem tt {p : Prop} (h : true = false) : p := by cases h
theorem ok_sm {m : MsgD} (h : okM m) : smM m := by
  obtain ⟨h1, h2, h3, h4, h5, h6⟩ := h
  unfold smM inB inR big
  refine ⟨⟨h4, ?_⟩, ⟨h5, h6, ?_⟩, ?_⟩
  · exact Int.ofNat_le.2 (Nat.le_trans h2 (by decide))
  · exact Int.ofNat_lt.2 (Nat.lt_of_le_of_lt h3 (by decide))
  · exact Int.ofNat_le.2 (Nat.le_trans h1 (by decide))
theorem xM_ok {m : MsgD} (h : okM m) : xM m = m := by
  obtain ⟨h1, h2, h3, h4, h5, h6⟩ := h
  unfold xM
  rw [tab_eq h4, tab_eq h5, tab_eq h6]
theorem okM_zM : okM zM := ⟨Nat.zero_le _, Nat.zero_le _, Nat.zero_le _, rfl, rfl, rfl⟩
theorem getD_ok {o : List MsgD} (h : okS o) (k : Nat) : okM (o.getD k zM) := by
  rw [List.getD_eq_getElem?_getD]
  cases e : o[k]? with
  | none => exact okM_zM
  | some m => exact h.2 m (List.mem_of_getElem? e)
theorem one_of {o : List MsgD} {k : Int} (h0 : 0 ≤ k) (h1 : k < (o.length : Int)) : List.take ((k + 1).toNat - k.toNat) (List.drop k.toNat o) = [o.getD k.toNat zM] := by
  have hlt : k.toNat < o.length := by omega
  rw [show (k + 1).toNat - k.toNat = 1 by omega, List.drop_eq_getElem_cons hlt, getD_get _ hlt]
  rfl
theorem gone_of {o : List MsgD} {k : Int} (h0 : 0 ≤ k) (h1 : k < (o.length : Int)) : ([] : List MsgD) ++ List.take (k.toNat - 0) o ++ List.take ((o.length : Int).toNat - (k + 1).toNat) (List.drop (k + 1).toNat o) = o.eraseIdx k.toNat := by
  rw [List.nil_append, Nat.sub_zero, show (k + 1).toNat = k.toNat + 1 by omega, List.eraseIdx_eq_take_drop_succ]
  congr 1
  exact List.take_of_length_le (by rw [List.length_drop]; omega)
theorem okS_erase {o : List MsgD} (h : okS o) (k : Nat) : okS (o.eraseIdx k) := by
  refine ⟨?_, fun m hm => h.2 m (List.mem_of_mem_eraseIdx hm)⟩
  have := h.1
  have : (o.eraseIdx k).length ≤ o.length := List.length_eraseIdx_le o k
  omega
theorem okS_send {o l : List MsgD} (h : okS o) (hl : ∀ m ∈ l, okM m) : okS (sendF o l).1 := by
  refine ⟨?_, fun m hm => ?_⟩
  · have := h.1
    simp only [sendF, List.length_append, List.length_take]; omega
  · rcases List.mem_append.1 hm with hm | hm
    · exact h.2 m hm
    · exact hl m (List.mem_of_mem_take hm)
theorem takeF_out {o : List MsgD} {k : Int} (h : ¬ (0 ≤ k ∧ k < (o.length : Int))) : takeF o k = (o, zM, false) := by
  unfold takeF; rw [if_neg h]
theorem atF_in {o : List MsgD} {k : Int} (h : 0 ≤ k ∧ k < (o.length : Int)) : atF o k = (o, o.getD k.toNat zM, true) := by
  unfold atF; rw [if_pos h]
theorem atF_out {o : List MsgD} {k : Int} (h : ¬ (0 ≤ k ∧ k < (o.length : Int))) : atF o k = (o, zM, false) := by
  unfold atF; rw [if_neg h]
theorem zM_zS : xM zM = zS := rfl
theorem in_true {o : List MsgD} {k : Int} (h : 0 ≤ k ∧ k < (o.length : Int)) : (decide (k ≥ 0) && decide (k < (o.length : Int))) = true := by
  rw [decide_eq_true h.1, decide_eq_true h.2]; rfl
theorem in_false {o : List MsgD} {k : Int} (h : ¬ (0 ≤ k ∧ k < (o.length : Int))) : (decide (k ≥ 0) && decide (k < (o.length : Int))) = false := by
  rw [Bool.and_eq_false_iff]
  by_cases q : 0 ≤ k
  · exact .inr (decide_eq_false fun e => h ⟨q, e⟩)
  · exact .inl (decide_eq_false q)
theorem small553 {o : List MsgD} (h : o.length ≤ 500) {n : Nat} (hn : n ≤ o.length) : n * 553 ≤ 70368744177664 := by omega
end Pl
namespace Pl
open Go Sx Go.Proofs Go.RowKit
theorem lPa : LpsOK Try.prog Try.f5 [paP] := by
  refine .cons (LPa.sound m1_ok (lps := []) (n := 100) (inner rfl) (fun _ => rfl) ?_) .nil
  rintro ⟨l, i, o, p⟩ ⟨h1, h2, h3, h4, h5⟩
  simp only at h1 h2 h3 h4 h5
  subst h3
  by_cases c : i < (l.length : Int)
  · have hlt : i.toNat < l.length := by omega
    have hd : l.drop i.toNat = l[i.toNat] :: l.drop (i + 1).toNat := by rw [List.drop_eq_getElem_cons hlt, show (i + 1).toNat = i.toNat + 1 by omega]
    obtain ⟨hc1, hc2⟩ := h5.2 _ (List.getElem_mem hlt)
    have hl60 := h5.1
    rw [rPa, getD_get _ hlt, IntWalk.i64_in (i + 1) (by omega)]
    generalize l[i.toNat] = C at *
    obtain ⟨D, K, M⟩ := C
    revert D K M
    intro (D : Int) (K : Int) (M : List MsgD) hd hc1 hc2
    have nxt : ∀ o' : List MsgD, o' = stepF o (D, K, M) → okS o' → LPa.Next ⟨l, i, o, o⟩ (some ⟨l, i + 1, o', o'⟩) := by
      intro o' e1 e2
      refine ⟨⟨by dsimp only; omega, by dsimp only; omega, rfl, e2, h5⟩, by simp only [LPa]; omega, ?_⟩
      simp only [LPa]
      rw [hd, playF, e1]
    have hlen := h4.1
    refine ⟨fun _ => ⟨⟨h1, c⟩, ⟨h1, c⟩, trivial, fun e0 => ?_, fun e0 => ⟨fun e1 => ?_, fun e1 => ⟨fun e2 => ?_, fun e2 => ?_⟩⟩⟩, fun e => absurd c (of_decide_eq_false e)⟩
    · -- Take
      have e0 : D = 0 := eq_of_beq e0
      have hst : stepF o (D, K, M) = (takeF o K).1 := by unfold stepF; rw [if_pos e0]
      dsimp only
      by_cases hin : 0 ≤ K ∧ K < (o.length : Int)
      · have hx := getD_ok h4 K.toNat
        rw [takeF_at hin.1 hin.2] at hst ⊢
        rw [in_true hin, IntWalk.i64_in (K + 1) (by omega), one_of hin.1 hin.2, gone_of hin.1 hin.2]
        dsimp only
        rw [xM_ok hx, eqM_self, if_pos rfl]
        have hs : ∀ m ∈ [o.getD K.toNat zM], smM m := fun m hm => by rw [List.mem_singleton] at hm; subst hm; exact ok_sm hx
        refine ⟨h4, fun e => ff e, fun _ => ⟨fun _ => ⟨⟨hin.1, (by show K ≤ K + 1; omega), (by show K + 1 ≤ (o.length : Int); omega)⟩, ⟨by decide, hs, hs⟩, fun e => absurd (of_decide_eq_true e) (by omega), fun _ => ⟨fun e => ff e, fun _ => ⟨fun _ => ⟨⟨Int.le_refl _, hin.1, (by show K ≤ (o.length : Int); omega)⟩, ?_, ⟨(by show 0 ≤ K + 1; omega), (by show K + 1 ≤ (o.length : Int); omega), Int.le_refl _⟩, ?_, fun e => ?_, fun _ => ⟨by repeat' (first | exact trivial | rfl | apply And.intro), nxt _ hst.symm (okS_erase h4 _)⟩⟩, fun e => tt e⟩⟩⟩, fun e => tt e⟩⟩
        · refine small553 hlen ?_
          rw [Nat.zero_add, List.length_take]; omega
        · refine small553 hlen ?_
          rw [List.nil_append, List.length_take, List.length_take, List.length_drop]; omega
        · simp at e
      · rw [takeF_out hin] at hst ⊢
        rw [in_false hin]
        dsimp only
        rw [zM_zS]
        have hs : ∀ m ∈ [zS], smM m := fun m hm => by rw [List.mem_singleton] at hm; subst hm; exact smM_z
        have hq : eqM [zS] [zS] = true := eqM_self _
        refine ⟨h4, fun e => ff e, fun _ => ⟨fun e => ff e, fun _ => ⟨fun _ => ⟨⟨by decide, hs, hs⟩, fun e => ?_, fun _ => ⟨fun e => ff e, fun _ => ⟨fun e => ?_, fun _ => ⟨by repeat' (first | exact trivial | rfl | apply And.intro), nxt _ hst.symm h4⟩⟩⟩⟩, fun e => tt e⟩⟩⟩
        · have e : decide ((if eqM [zS] [zS] = true then (0 : Int) else 1) > 0) = true := e
          rw [hq, if_pos rfl] at e
          exact absurd (of_decide_eq_true e) (by omega)
        · simp at e
    · -- Double
      have e1 : D = 1 := eq_of_beq e1
      have hst : stepF o (D, K, M) = (dblF o K).1 := by unfold stepF; rw [if_neg (show ¬ D = 0 by omega), if_pos e1]
      dsimp only
      by_cases hin : 0 ≤ K ∧ K < (o.length : Int)
      · have hx := getD_ok h4 K.toNat
        have hgz : ∀ z, List.getD o K.toNat z = o.getD K.toNat zM := fun z => by rw [getD_get _ (by omega : K.toNat < o.length), getD_get _ (by omega : K.toNat < o.length)]
        rw [in_true hin, hgz, xM_ok hx]
        by_cases hf : o.length < 500
        · have hdb : dblF o K = (o ++ [o.getD K.toNat zM], true) := by
            unfold dblF; rw [if_pos hin, sendF_one hf]; rfl
          have hdec : decide ((o.length : Int) < 500) = true := decide_eq_true (by omega)
          rw [hdb] at hst ⊢
          rw [hdec]
          refine ⟨h4, fun _ => ⟨fun e => ff e, fun _ => ⟨trivial, fun _ => ⟨hin, hin, by omega, fun e => ?_, fun _ => ⟨by repeat' (first | exact trivial | rfl | apply And.intro), nxt _ hst.symm ?_⟩⟩, fun e => tt e⟩⟩, fun e => tt e⟩
          · simp at e
          · have := okS_send (l := [o.getD K.toNat zM]) h4 (fun m hm => by rw [List.mem_singleton] at hm; subst hm; exact hx)
            rw [sendF_one hf] at this
            exact this
        · have hdb : dblF o K = (o, false) := by
            unfold dblF; rw [if_pos hin]
            have e0 : 500 - o.length = 0 := by omega
            unfold sendF
            rw [e0]; simp
          have hdec : decide ((o.length : Int) < 500) = false := decide_eq_false (by omega)
          rw [hdb] at hst ⊢
          rw [hdec]
          refine ⟨h4, fun _ => ⟨fun e => ff e, fun _ => ⟨trivial, fun e => ff e, fun _ => ⟨fun e => ?_, fun _ => ⟨by repeat' (first | exact trivial | rfl | apply And.intro), nxt _ hst.symm h4⟩⟩⟩⟩, fun e => tt e⟩
          simp at e
      · have hdb : dblF o K = (o, false) := by unfold dblF; rw [if_neg hin]
        rw [hdb] at hst ⊢
        rw [in_false hin]
        refine ⟨h4, fun e => ff e, fun _ => ⟨fun e => ff e, fun _ => ⟨trivial, fun e => ff e, fun _ => ⟨fun e => ?_, fun _ => ⟨by repeat' (first | exact trivial | rfl | apply And.intro), nxt _ hst.symm h4⟩⟩⟩⟩⟩
        simp at e
    · -- At
      have e2 : D = 2 := eq_of_beq e2
      have hst : stepF o (D, K, M) = o := by unfold stepF; rw [if_neg (show ¬ D = 0 by omega), if_neg (show ¬ D = 1 by omega), if_pos e2]
      dsimp only
      by_cases hin : 0 ≤ K ∧ K < (o.length : Int)
      · have hx := getD_ok h4 K.toNat
        rw [atF_in hin, in_true hin, IntWalk.i64_in (K + 1) (by omega), one_of hin.1 hin.2]
        dsimp only
        rw [xM_ok hx, eqM_self, if_pos rfl]
        have hs : ∀ m ∈ [o.getD K.toNat zM], smM m := fun m hm => by rw [List.mem_singleton] at hm; subst hm; exact ok_sm hx
        refine ⟨h4, fun e => ff e, fun _ => ⟨fun _ => ⟨⟨hin.1, (by show K ≤ K + 1; omega), (by show K + 1 ≤ (o.length : Int); omega)⟩, ⟨by decide, hs, hs⟩, fun e => absurd (of_decide_eq_true e) (by omega), fun _ => ⟨fun e => ?_, fun _ => ⟨by repeat' (first | exact trivial | rfl | apply And.intro), nxt _ hst.symm h4⟩⟩⟩, fun e => tt e⟩⟩
        simp at e
      · rw [atF_out hin, in_false hin]
        refine ⟨h4, fun e => ff e, fun _ => ⟨fun e => ff e, fun _ => ⟨fun e => ?_, fun _ => ⟨by repeat' (first | exact trivial | rfl | apply And.intro), nxt _ hst.symm h4⟩⟩⟩⟩
        simp at e
    · -- Send
      have e0 : ¬ D = 0 := fun q => by
        have e' : (D == 0) = false := e0
        rw [q] at e'; exact absurd e' (by decide)
      have e1 : ¬ D = 1 := fun q => by
        have e' : (D == 1) = false := e1
        rw [q] at e'; exact absurd e' (by decide)
      have e2 : ¬ D = 2 := fun q => by
        have e' : (D == 2) = false := e2
        rw [q] at e'; exact absurd e' (by decide)
      have hst : stepF o (D, K, M) = (sendF o M).1 := by unfold stepF; rw [if_neg e0, if_neg e1, if_neg e2]
      dsimp only at hc1 hc2 ⊢
      have hw : IntKind.i64.wrap (500 - (o.length : Int)) = 500 - (o.length : Int) := IntWalk.i64_in _ (by omega)
      rw [hw]
      have hmin : (if 500 - (o.length : Int) < (List.length (α := MsgD) M : Int) then 500 - (o.length : Int) else (List.length (α := MsgD) M : Int)) = ((min (List.length (α := MsgD) M) (500 - o.length) : Nat) : Int) := by
        split <;> omega
      rw [hmin, Int.toNat_natCast, Nat.sub_zero, List.drop_zero]
      have htk : List.take (min (List.length (α := MsgD) M) (500 - o.length)) M = List.take (α := MsgD) (500 - o.length) M := by
        rcases Nat.le_total (List.length (α := MsgD) M) (500 - o.length) with q | q
        · rw [Nat.min_eq_left q, List.take_of_length_le (Nat.le_refl _), List.take_of_length_le q]
        · rw [Nat.min_eq_right q]
      rw [htk]
      refine ⟨⟨hlen, by omega, hc2⟩, fun e => ?_, fun _ => ⟨⟨by omega, by omega, by omega⟩, ?_, fun e => ?_, fun _ => ⟨by repeat' (first | exact trivial | rfl | apply And.intro), nxt _ hst.symm (okS_send h4 hc2)⟩⟩⟩
      · exfalso
        have e : ((sendF o M).2 != ((min (List.length (α := MsgD) M) (500 - o.length) : Nat) : Int)) = true := e
        unfold sendF at e
        simp at e
      · have : (List.take (α := MsgD) (500 - o.length) M).length ≤ 500 := by rw [List.length_take]; omega
        omega
      · exfalso
        have e : (((sendF o M).1.length : Int) != ((o ++ List.take (α := MsgD) (500 - o.length) M).length : Int)) = true := e
        unfold sendF at e
        simp at e
  · rw [rPa, drop_end c]
    exact ⟨fun e => absurd (of_decide_eq_true e) c, fun _ => ⟨⟨rfl, rfl⟩, trivial⟩⟩
end Pl
namespace Pl
open Go Sx Go.Proofs Go.RowKit
theorem lPb : LpsOK Try.prog Try.f5 [paP, pbP] := by
  refine .cons (lPa 0 _ rfl) (.cons (LPb.sound m1_ok (lps := []) (n := 100) (inner rfl) (fun _ => rfl) ?_) .nil)
  rintro ⟨q, i, o⟩ ⟨h1, h2, h3, h4⟩
  simp only at h1 h2 h3 h4
  subst h3
  have hlen := h4.1
  rw [rPb]
  by_cases c : i < (q.length : Int)
  · have hin : 0 ≤ i ∧ i < (q.length : Int) := ⟨h1, c⟩
    have hx := getD_ok h4 i.toNat
    rw [atF_in hin, IntWalk.i64_in (i + 1) (by omega), one_of h1 c]
    dsimp only
    rw [xM_ok hx, eqM_self, if_pos rfl]
    have hs : ∀ m ∈ [q.getD i.toNat zM], smM m := fun m hm => by rw [List.mem_singleton] at hm; subst hm; exact ok_sm hx
    refine ⟨fun _ => ⟨h4, fun e => ff e, fun _ => ⟨⟨h1, by omega, by omega⟩, ⟨by decide, hs, hs⟩, fun e => absurd (of_decide_eq_true e) (by omega), fun _ => ⟨by repeat' (first | exact trivial | rfl | apply And.intro), ?_⟩⟩⟩, fun e => absurd c (of_decide_eq_false e)⟩
    exact ⟨⟨by dsimp only; omega, by dsimp only; omega, rfl, h4⟩, by simp only [LPb]; omega, rfl⟩
  · exact ⟨fun e => absurd (of_decide_eq_true e) c, fun _ => ⟨trivial, trivial⟩⟩
theorem lgI_all : ∀ (l : List MsgD) (n k : Int), lgI l n = some k → k = n + l.length ∧ ∀ m ∈ l, hvM m ≤ 0
  | [], n, k, h => by simp only [lgI, Option.some.injEq] at h; exact ⟨by simp [h], fun m hm => by cases hm⟩
  | m :: r, n, k, h => by
    rw [lgI] at h
    split at h
    · cases h
    · rename_i c
      obtain ⟨e1, e2⟩ := lgI_all r (n + 1) k h
      refine ⟨by rw [List.length_cons]; push_cast; omega, fun x hx => ?_⟩
      rcases List.mem_cons.1 hx with rfl | hx
      · omega
      · exact e2 x hx
theorem lgL_all : ∀ (l : List CallND) (i n : Int), 0 ≤ n → n ≤ 1000 → i ≤ 60 → lgL l i n = true → i + l.length ≤ 60 ∧ ∀ c ∈ l, (List.length (α := MsgD) c.2.2) ≤ 1000 ∧ ∀ m ∈ (c.2.2 : List MsgD), hvM m ≤ 0
  | [], i, n, _, _, hi, _ => ⟨by simpa using hi, fun c hc => by cases hc⟩
  | c :: r, i, n, h0, h1, hi, h => by
    rw [lgL] at h
    cases hk : lgI c.2.2 n with
    | none => rw [hk] at h; cases h
    | some k =>
      rw [hk] at h
      simp only at h
      split at h
      · cases h
      · rename_i g
        obtain ⟨e1, e2⟩ := lgI_all _ _ _ hk
        obtain ⟨g1, g2⟩ := lgI_le _ _ _ hk
        obtain ⟨f1, f2⟩ := lgL_all r (i + 1) k (by omega) (g2 h1) (by omega) h
        have g3 := g2 h1
        refine ⟨by rw [List.length_cons]; push_cast; omega, fun x hx => ?_⟩
        rcases List.mem_cons.1 hx with rfl | hx
        · exact ⟨by omega, e2⟩
        · exact f2 x hx
def inP (m : MsgD) : Prop := inM m ∧ List.length (α := ValD) m.2.2.2.2.2.2.2.2.2.1.2 ≤ 4398046511104
theorem hvB_01 (b : BagD) : hvB [b] 0 = 0 ∨ hvB [b] 0 = 1 := by
  simp only [hvB]
  split
  · exact .inr rfl
  · exact .inl rfl
theorem hv_okM {m : MsgD} (h : hvM m ≤ 0) (hp : inP m) : okM m := by
  obtain ⟨⟨h1, h2, h3, h4⟩, h5⟩ := hp
  unfold hvM at h
  split at h
  · omega
  · rename_i c
    simp only [Bool.or_eq_true, decide_eq_true_eq, not_or] at c
    have hb := hvB_01 m.2.2.2.2.2.2.2.2.2.1
    split at h
    · exfalso
      rcases hb with hb | hb <;> rw [hb] at h <;> exact absurd h (by decide)
    · rename_i t
      refine ⟨?_, h5, ?_, h1, h3, h4⟩
      · have := c.2; omega
      · omega
theorem netplays_ok : PureOK Try.prog 5 [callsN] [.bool] (fun x => ∀ c ∈ (x.1 : List CallND), ∀ m ∈ (c.2.2 : List MsgD), inP m) (fun _ => (true, ())) :=
  fn_pure (E := m1) (n := 100) m1_ok Try.func5 (by kernel_rfl) lPb fun x h => by
    obtain ⟨l, _⟩ : List CallND × Unit := x
    have h : ∀ c ∈ l, ∀ m ∈ (c.2.2 : List MsgD), inP m := h
    refine Tree.all_eq (tPl l) ?_
    refine ⟨fun c hc m hm => (h c hc m hm).1, fun _ => ⟨trivial, rfl⟩, fun e => ?_⟩
    have e : lgL l 0 0 = true := by simpa using e
    obtain ⟨g1, g2⟩ := lgL_all l 0 0 (by omega) (by omega) (by omega) e
    have hL : inL l := ⟨by omega, fun c hc => ⟨(g2 c hc).1, fun m hm => hv_okM ((g2 c hc).2 m hm) (h c hc m hm)⟩⟩
    have h0 : okS ([] : List MsgD) := ⟨Nat.zero_le _, fun m hm => by cases hm⟩
    have hp : ∀ (l : List CallND) (o : List MsgD), okS o → (∀ c ∈ l, ∀ m ∈ (c.2.2 : List MsgD), okM m) → okS (playF l o) := by
      intro l
      induction l with
      | nil => intro o ho _; exact ho
      | cons c r ih =>
        intro o ho hc
        refine ih _ ?_ fun d hd => hc d (List.mem_cons_of_mem _ hd)
        unfold stepF
        split
        · unfold takeF; split
          · exact okS_erase ho _
          · exact ho
        · split
          · unfold dblF; split
            · exact okS_send ho fun m hm => by rw [List.mem_singleton] at hm; subst hm; exact getD_ok ho _
            · exact ho
          · split
            · exact ho
            · exact okS_send ho (hc c List.mem_cons_self)
    have hP := hp l [] h0 fun c hc => (hL.2 c hc).2
    exact ⟨⟨by decide, by omega, rfl, h0, hL⟩, by repeat' (first | exact trivial | rfl | apply And.intro), ⟨by decide, by omega, rfl, hP⟩, by repeat' (first | exact trivial | rfl | apply And.intro), trivial, rfl⟩
theorem goodZ_calls {l : List CallND} (h : GoodZ callsN l) : ∀ c ∈ l, ∀ m ∈ (c.2.2 : List MsgD), inP m := fun c hc m hm => by
  have hcall : GoodZ CallN c := h.2.2 c hc
  have hmsg : GoodZ MsgT m := hcall.2.2.2.2 m hm
  obtain ⟨_, _, _, _, _, _, _, _, _, ⟨⟨hb, _⟩, hz, hv, _⟩, ⟨⟨hs, _⟩, _, hp, _⟩, hc, _⟩ := hmsg
  have hz : List.length (α := ValD) m.2.2.2.2.2.2.2.2.2.1.2 * 32 ≤ 140737488351232 := hz
  have hv : List.length (α := ValD) m.2.2.2.2.2.2.2.2.2.1.2 ≤ 9223372036854775807 := hv
  exact ⟨⟨hb, by omega, hs, hp⟩, by omega⟩
end Pl
