/- The law HealthForms returns true at every input, and its arguments read behind the call as before it; the package variables that the translation lists are tied to the text by the given tie. -/
import Derived.Test.YtmgglkmpkhdclaaDoorRows
import Derived.Test.YtmgglkmpkhdclaaDoorTie
import Derived.Test.YtmgglkmpkhdclaaDoorCards
import Derived.WalkKit
import Derived.ProofKit
import Derived.OpenShut
import Derived.ShutString
import Derived.ChangeOld
import Derived.Below
import Derived.LaidLaws
import Derived.LaidOnce
import Derived.LaidMore
import Derived.HandedShaped
import Derived.MakeChecks
import Derived.LaidSub
import Derived.Lib.LaidTab
import Derived.SevenTiedAt
import Derived.Test.YtmgglkmpkhdclaaDoorSx25
import Derived.Test.YtmgglkmpkhdclaaDoorHeHf5
namespace Go.Proofs.YtmgglkmpkhdclaaDoor.healthForms
open Go.ChangeShapes Go.WideShapes Go.ChangeAt Go.RowKit
open Go.ChangeMaps (open_string shut_string)

theorem own : ownKnob Tryd.prog.godebug = none := by kernel_rfl
theorem laidOut : laidOutB Tryd.prog = true := by kernel_rfl
theorem door_met (os : Os) (args : Array Value) : laidMetH Tryd.prog Rows.healthFormsRow.laid ((World.doorLaid Tryd.prog 24 os).forCall (fun _ _ => 0) ⟨#[], args, []⟩).memory :=
  laidMetH_of_parts3 (fuel := 8) (laidMet_of_run' 8 (by kernel_rfl) (by kernel_rfl)) (by kernel_rfl) (by kernel_rfl)
set_option maxRecDepth 100000 in
theorem lifted (os : Os) (started : os.Started) (H : Type) (enc : TypeId × Value → H) :
    ReturnsInHanded {} Tryd.checked os 7 .any (fun w args => (Rows.healthFormsSpec.pre enc Tryd.prog Tryd.f7 [] false w args ∧ laidMetH Tryd.prog Rows.healthFormsRow.laid w) ∧ sizedMet enc Tryd.prog Tryd.f7 (OpenSpec.ofChange Rows.healthFormsSpec) false w args)
      (Rows.healthFormsSpec.post enc Tryd.prog Tryd.f7 false true false false) := by
  refine returnsInHanded_of_change_and (C := Tryd.checked) (X := fun w _ => laidMetH Tryd.prog Rows.healthFormsRow.laid w) (fun _ _ _ hh h => h.of_heap hh) own started (by kernel_rfl) Tryd.func7
    (ChangeSpec.witness_shaped (enc := enc) (C := Tryd.checked) (os := os) (X := fun w _ => laidMetH Tryd.prog Rows.healthFormsRow.laid w) false (World.doorLaid Tryd.prog 24 os) #[.agg #[.int .i64 0, .int .i64 0, .int .i64 0], .agg #[.int .i64 0, .int .i64 0, .int .i64 0], .int .i64 0, .int .i64 0] 8 rfl (World.shaped_of_RefB (by kernel_rfl) (by kernel_rfl)) (by kernel_rfl) (by kernel_rfl) (by kernel_rfl) (door_met os _)) ?_
  intro W base args ds gs before hval0 hW hcnd _ hL _
  have hval : ∀ (j : Nat) t v, Tryd.f7.params[j]? = some t → args[j]? = some v → Value.okWide Tryd.prog W .any base t v := hval0
  have hW' := hW
  obtain ⟨p, q, hA0, hV, rfl, hfz, hnd⟩ := hW
  have hA : DataW.TrodAll enc Tryd.prog W 0 (fun _ => true) true Tryd.f7.params.toList args.toList ds p := hA0
  rw [Tryd.params7] at hA hval
  obtain ⟨v0, vs0, d0, ds0, p0, q0, hargs, rfl, rfl, h0, r0⟩ := trodAll_cons hA
  obtain ⟨v1, vs1, d1, ds1, p1, q1, rfl, rfl, rfl, h1, r1⟩ := trodAll_cons r0
  obtain ⟨v2, vs2, d2, ds2, p2, q2, rfl, rfl, rfl, h2, r2⟩ := trodAll_cons r1
  obtain ⟨v3, vs3, d3, ds3, p3, q3, rfl, rfl, rfl, h3, r3⟩ := trodAll_cons r2
  obtain ⟨rfl, rfl, rfl⟩ := trodAll_nil r3
  obtain rfl : args = #[v0, v1, v2, v3] := by cases args; simp_all
  obtain ⟨rfl, rfl⟩ := trodVars_none hV
  have lt : ∀ {t v d p}, DataW.Trod enc Tryd.prog W 0 (fun _ => true) true t v d p → ∀ x ∈ p, x.block < W.heap.size := fun ⟨m, hm⟩ => DataW.trod_lt m _ _ _ hm
  obtain ⟨x0, c0, e0, y0, g0⟩ := Sx.came (t := Pl.Claim) (by kernel_rfl) (hval 0 23 v0 rfl rfl) h0
  obtain ⟨x1, c1, e1, y1, g1⟩ := Sx.came (t := Pl.Claim) (by kernel_rfl) (hval 1 23 v1 rfl rfl) h1
  obtain ⟨x2, c2, e2, y2, g2⟩ := Sx.came (t := Pl.i64) (by kernel_rfl) (hval 2 3 v2 rfl rfl) h2
  obtain ⟨x3, c3, e3, y3, g3⟩ := Sx.came (t := Pl.i64) (by kernel_rfl) (hval 3 3 v3 rfl rfl) h3
  clear hA0 hval0
  have hL0 : laidMetH Tryd.prog (Rows.healthFormsRow.laid.filter fun x => x.1 == "internal/strconv.uint64pow10") W := laidMetH.filter _ hL
  have hL2 : (Rows.healthFormsRow.laid.filter fun x => x.1 == "internal/strconv.uint64pow10") = ("internal/strconv.uint64pow10", Lib.tabData .u64 Lib.pow10Tab) :: [] := by kernel_rfl
  rw [hL2] at hL0
  have hL1 : laidMet Tryd.prog (("internal/strconv.uint64pow10", Lib.tabData .u64 Lib.pow10Tab) :: []) W := (Go.MakeChecks.laidMetH_plain _ _ _ (by kernel_rfl)) ▸ hL0
  have tab : Lib.TabIs Tryd.prog W "internal/strconv.uint64pow10" .u64 Lib.pow10Tab := Lib.tabIs_of_head (g := 0) (t := 55) (e := 33) (n := 20) (by kernel_rfl) (by kernel_rfl) (by kernel_rfl) (by kernel_rfl) (by kernel_rfl) (by kernel_rfl) hL1
  have hP : Sx.Pin 0 Pl.pow10V (fun b => Sx.Rw W b ∨ b = 0) W := Pl.pin_of_tab tab (.inr rfl)
  have hsz0 : 0 < W.heap.size := Pl.pin_lt hP
  clear hL2 hL1 hL0
  refine (Pl.forms_okW (fun b => Sx.Rw W b ∨ b = 0) W (x0, x1, x2, x3, ()) [v0, v1, v2, v3] (fun b h => h.elim (fun g => g) (fun g => by rw [g]; exact hsz0)) hP ⟨c0, _, by rw [e0], Sx.ReadsC.mono (fun b hb => ⟨.inl hb, rfl⟩) _ _ _ y0, c1, _, by rw [e1], Sx.ReadsC.mono (fun b hb => ⟨.inl hb, rfl⟩) _ _ _ y1, c2, _, by rw [e2], Sx.ReadsC.mono (fun b hb => ⟨.inl hb, rfl⟩) _ _ _ y2, c3, _, by rw [e3], Sx.ReadsC.mono (fun b hb => ⟨.inl hb, rfl⟩) _ _ _ y3, rfl⟩ (trivial)).mono ?_
  rintro e W' ⟨vs, he, ⟨cs, r, rfl, hb, hr⟩, bel⟩
  have hb : cs = [.bool true] := hb
  have hr : r = [] := hr
  subst hb; subst hr; subst he
  exact ⟨_, rfl, _, _, _, [], _, [], hW', trodAll_mk1 (shut_bool Tryd.underlying4 _), (trodAll_cons_mk (Below.trod laidOut (by kernel_rfl) (of_decide_eq_true (by kernel_rfl)) h0 bel (lt h0)) (trodAll_cons_mk (Below.trod laidOut (by kernel_rfl) (of_decide_eq_true (by kernel_rfl)) h1 bel (lt h1)) (trodAll_cons_mk (Below.trod laidOut (by kernel_rfl) (of_decide_eq_true (by kernel_rfl)) h2 bel (lt h2)) (trodAll_cons_mk (Below.trod laidOut (by kernel_rfl) (of_decide_eq_true (by kernel_rfl)) h3 bel (lt h3)) trodAll_mk0)))), rfl, bel.frame _, fun h => by cases h⟩

theorem over : Rows.healthFormsRow.holds Tryd.pinned (OpenSpec.ofChange Rows.healthFormsSpec) :=
  OpenClaim.holds_of_wide 7 Tryd.f7 rfl rfl rfl rfl rfl rfl rfl ⟨rfl, rfl, rfl, rfl, rfl⟩ rfl rfl rfl rfl rfl (by kernel_rfl) Tryd.func7 (by kernel_rfl)
    (of_decide_eq_true (by kernel_rfl)) (by unfold Func.isWrapper; first | (rw [if_pos (by decide +kernel)]; kernel_rfl) | (rw [if_neg (by decide +kernel)]; exact ⟨rfl, rfl⟩))
    (fun os started H enc _ => lifted os started H enc)

theorem proved : Rows.HealthFormsCardSaid :=
  Claim7.holds_tied_plain_at .later [] [.data, .data, .data] true (true, "fa1caaa5aae882aa82b38fe6978e625176d76555be57eb10475ab0ee2e325ab4") false
    over (fun _ h => by cases h) (by kernel_rfl) (fun _ h => by cases h) healthForms_row_tie rfl ⟨rfl, rfl⟩ (by kernel_rfl) rfl
    (fun f fn hf hfn => by
      obtain rfl : f = 7 := Option.some.inj ((show Tryd.prog.funcNamed "starling/starlinglaw1.HealthForms" = some 7 by kernel_rfl).symm.trans hf) |>.symm
      obtain rfl : fn = Tryd.f7 := (Option.some.inj (Tryd.func7.symm.trans hfn)).symm
      exact ⟨by kernel_rfl, fun j t ht => by
        rw [Tryd.params7] at ht
        have hm : t ∈ [3, 23] := by
          have := Array.mem_of_getElem? ht
          simp at this ⊢
          first | exact this | (rcases this with h | h <;> simp [h]) | (rcases this with h | h | h <;> simp [h]) | (rcases this with h | h | h | h <;> simp [h])
        have hall : ([3, 23].all fun u => !Tryd.prog.wantsStandIn u) = true := by kernel_rfl
        exact (show Tryd.prog.wantsStandIn t = false by simpa using List.all_eq_true.1 hall t hm)⟩)
    (by kernel_rfl)
end Go.Proofs.YtmgglkmpkhdclaaDoor.healthForms
