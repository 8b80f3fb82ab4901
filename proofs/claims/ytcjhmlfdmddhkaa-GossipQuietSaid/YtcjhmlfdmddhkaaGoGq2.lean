import Derived.Test.YtcjhmlfdmddhkaaGoGq
namespace Pl
open Go Sx Go.Proofs Go.RowKit
theorem ordF_one (n d : Int) (h1 : 1 ≤ n) (h2 : n < 8) : ordF (0, []) [n] d = ((0, []), n) := by
  have : n = 1 ∨ n = 2 ∨ n = 3 ∨ n = 4 ∨ n = 5 ∨ n = 6 ∨ n = 7 := by omega
  rcases this with rfl | rfl | rfl | rfl | rfl | rfl | rfl <;> rfl
theorem notNone {k : KnD} {j : Nat} (c : (k.getD j none).isNone = false) : (k.getD j none).isSome = true := by
  cases he : k.getD j none <;> rw [he] at c <;> simp_all
theorem knF_some {k : KnD} {n : Int} {x : RingD} (h0 : 0 ≤ n) (h1 : n < 8) (hx : k.getD n.toNat none = some x) : knF k n = (x, true) := by
  unfold knF; rw [if_pos ⟨h0, h1⟩, hx]
theorem lGq : LpsOK Try.prog Try.f7 [(0, viaV 30 [.obj 7 2 knT, .obj 5 0 Ring] LGq.sp)] := by
  refine .cons (fun st out h => viaV_ok (LGq.sound q1_ok (lps := []) (n := 100) (inner rfl) (fun _ => rfl) ?_) st out h) .nil
  rintro ⟨d, n, i, k, r, o⟩ ⟨h1, h2, h3, h4, h5, h6, h7, h8, x, hx, hb⟩
  simp only at h1 h2 h3 h4 h5 h6 h7 h8 hx hb
  subst h4
  rw [rGq, ordF_one _ _ h5 h6]
  refine ⟨fun c => ?_, fun c => ⟨by repeat' (first | exact trivial | rfl | apply And.intro), trivial⟩⟩
  have c : i < d.length := of_decide_eq_true c
  have hkn := knF_some (by omega) h6 hx
  have hr : (r.2.1.2.2.length : Int) < 17592186044416 := by have := h8.2; omega
  have hf := kn_fine h7 n
  have hs : ((knF k n).1.2.1.2.2.length : Int) < 17592186044416 := by have := hf.2; omega
  refine ⟨⟨h1, c⟩, ⟨h1, c⟩, trivial, ⟨by decide, by decide⟩, ?_, ?_⟩
  · refine ⟨fun a => ⟨fun _ => by repeat' (first | exact trivial | rfl | apply And.intro), fun b => ?_⟩, fun _ => by repeat' (first | exact trivial | rfl | apply And.intro)⟩
    have a : n ≥ 0 := of_decide_eq_true a
    have b : n < 8 := h6
    exact ⟨⟨a, b⟩, ⟨a, b⟩, fun _ => by repeat' (first | exact trivial | rfl | apply And.intro), fun c => ⟨⟨a, b⟩, ⟨a, b⟩, c, notNone c, ⟨⟨rfl, rfl⟩, ⟨rfl, rfl⟩, getZ h7 a b, getZ h7 a b⟩, by repeat' (first | exact trivial | rfl | apply And.intro)⟩⟩
  · intro y hy
    have hy := hy.trans (kn_eq h7)
    subst hy
    refine ⟨fun _ => ⟨⟨rfl, rfl⟩, ⟨rfl, rfl⟩, hr, hs⟩, fun e => ⟨by repeat' (first | exact trivial | rfl | apply And.intro), ?_⟩, fun e => ?_⟩
    · rw [i64_inc (by omega) (by omega)]
      refine ⟨⟨by dsimp only; omega, by dsimp only; omega, h3, rfl, h5, h6, h7, h8, x, hx, hb⟩, by simp only [LGq]; omega, rfl⟩
    · exfalso
      have e : ((knF k n).2 && belowR (etaR r) (etaR (knF k n).1)) = false := e
      rw [eta_eq h8.1, eta_eq hf.1, hkn] at e
      rw [show belowR r x = true from hb] at e
      cases e
def frR : RingD := (2 :: List.replicate 7 0, (0, 0, []), List.replicate 16 (1, 0))
theorem fine_fr : fineR frR := ⟨⟨rfl, rfl⟩, by decide⟩
theorem may_fr : mayR frR = true := by kernel_rfl
abbrev jrR : RingD := joinR zeroR frR
theorem below_fr : belowR frR jrR = true := by kernel_rfl
theorem rise_fr (m : Int) (h1 : 1 ≤ m) (h2 : m < 8) : (riseR frR m 1).2 = 0 ∧ fineR (riseR frR m 1).1 ∧ belowR (riseR frR m 1).1 jrR = false := by
  have : m = 1 ∨ m = 2 ∨ m = 3 ∨ m = 4 ∨ m = 5 ∨ m = 6 ∨ m = 7 := by omega
  rcases this with rfl | rfl | rfl | rfl | rfl | rfl | rfl <;> exact ⟨by kernel_rfl, ⟨⟨by kernel_rfl, by kernel_rfl⟩, by decide⟩, by kernel_rfl⟩
theorem ordF_nil : ordF (0, []) [] 1 = ((0, []), -1) := rfl
theorem fineK_zero : fineK (List.replicate 8 none : List (Option RingD)) := ⟨rfl, fun x hx => by simp at hx⟩
theorem knF_zero (m : Int) : knF (List.replicate 8 none : List (Option RingD)) m = (zeroR, false) := by
  unfold knF
  split
  · rename_i h
    have : (List.replicate 8 (none : Option RingD)).getD m.toNat none = none := by rw [List.getD, List.getElem?_replicate]; split <;> rfl
    rw [this]
  · rfl
theorem quiet_ok : PureOK Try.prog 7 [i64, u64s] [.bool] (fun _ => True) (fun _ => (true, ())) :=
  fn_pure (E := q1) (n := 100) q1_ok Try.func7 (by kernel_rfl) lGq fun x _ => by
    obtain ⟨n, d, _⟩ : Int × List Int × Unit := x
    refine Tree.all_eq (tGq d n) ?_
    have hm := n7_in (n := n)
    revert hm
    generalize IntKind.i64.wrap (1 + IntKind.i64.wrap ((IntKind.u64.wrap n).tmod 7)) = m
    rintro ⟨m1, m2⟩
    have m3 : m < 8 := by omega
    rw [ordF_one _ _ m1 m3, ordF_nil]
    refine ⟨fun c => ⟨trivial, rfl⟩, fun c => ⟨by decide, ?_, fun e => ?_, fun e => ?_⟩⟩
    · exact fun _ _ _ => ⟨⟨rfl, rfl⟩, by decide⟩
    · exfalso
      have e : (!decide (m ≥ 0) || (!decide (m < 8) || (m == 0 || !mayR frR))) = true := e
      rw [may_fr] at e
      simp at e
      omega
    · refine ⟨kn_req fineK_zero, fun y hy => ?_⟩
      have hy := hy.trans (kn_eq fineK_zero)
      rw [knF_zero] at hy
      subst hy
      refine ⟨⟨⟨rfl, rfl⟩, ⟨rfl, rfl⟩, by decide, by decide⟩, fun y hy => ?_⟩
      have hy : y = (jrR, ()) := hy
      subst hy
      have hj : fineR (etaR jrR) := by rw [eta_eq (joinR_ok _ _)]; exact fine_join fine_zero fine_fr
      have hK : fineK ((List.replicate 8 none : List (Option RingD)).set m.toNat (some (etaR jrR))) := fineK_set fineK_zero _ hj
      have hg : ((List.replicate 8 none : List (Option RingD)).set m.toNat (some (etaR jrR))).getD m.toNat none = some (etaR jrR) := getD_set_eq (by rw [List.length_replicate]; omega)
      have hkn := knF_some (by omega) m3 hg
      have hd : ¬ (d.length : Int) > 40 := of_decide_eq_false c
      refine ⟨⟨by omega, m3⟩, ⟨by omega, m3⟩, ⟨by omega, by omega, by omega, rfl, m1, m3, hK, fine_fr, etaR jrR, hg, ?_⟩, by repeat' (first | exact trivial | rfl | apply And.intro), trivial, ⟨⟨rfl, rfl⟩, by decide⟩, fun y hy => ?_⟩
      · rw [eta_eq (joinR_ok _ _)]; exact below_fr
      have hy : y = ((riseR frR m 1).1, (riseR frR m 1).2, ()) := hy
      subst hy
      obtain ⟨r1, r2, r3⟩ := rise_fr m m1 m3
      refine ⟨fun _ => ?_, fun c => ?_⟩
      · have hr : ((riseR frR m 1).1.2.1.2.2.length : Int) < 17592186044416 := by have := r2.2; omega
        have kq : ∀ (z : Int), ((knF ((List.replicate 8 none : List (Option RingD)).set m.toNat (some (etaR jrR))) z).1.2.1.2.2.length : Int) < 17592186044416 := fun z => by have := (kn_fine hK z).2; omega
        refine ⟨⟨by decide, by decide⟩, ⟨fun a => ⟨fun _ => by repeat' (first | exact trivial | rfl | apply And.intro), fun b => ⟨⟨by omega, m3⟩, ⟨by omega, m3⟩, fun _ => by repeat' (first | exact trivial | rfl | apply And.intro), fun c => ⟨⟨by omega, m3⟩, ⟨by omega, m3⟩, c, notNone c, ⟨⟨rfl, rfl⟩, ⟨rfl, rfl⟩, getZ hK (by omega) m3, getZ hK (by omega) m3⟩, by repeat' (first | exact trivial | rfl | apply And.intro)⟩⟩⟩, fun _ => by repeat' (first | exact trivial | rfl | apply And.intro)⟩, fun y hy => ?_⟩
        have hy := hy.trans (kn_eq hK)
        subst hy
        refine ⟨fun _ => ⟨⟨rfl, rfl⟩, ⟨rfl, rfl⟩, hr, kq _⟩, fun e => ?_, fun e => ⟨fun f => ?_, fun f => ?_⟩⟩
        · exfalso
          have e : ((knF ((List.replicate 8 none : List (Option RingD)).set m.toNat (some (etaR jrR))) m).2 && belowR (etaR (riseR frR m 1).1) (etaR (knF ((List.replicate 8 none : List (Option RingD)).set m.toNat (some (etaR jrR))) m).1)) = true := e
          rw [hkn, eta_eq r2.1, eta_eq (x := (etaR jrR, true).1) hj.1, eta_eq (joinR_ok _ _), r3] at e
          cases e
        · refine ⟨⟨(by show (0 : Int) < _; decide), by decide⟩, ⟨fun a => absurd a (by decide), fun _ => by repeat' (first | exact trivial | rfl | apply And.intro)⟩, fun y hy => ?_⟩
          have hy := hy.trans (kn_eq hK)
          subst hy
          refine ⟨fun _ => ⟨⟨rfl, rfl⟩, ⟨rfl, rfl⟩, hr, kq _⟩, fun _ => ⟨trivial, rfl⟩, fun _ => ⟨fun _ => ⟨trivial, rfl⟩, fun q => by cases q⟩⟩
        · exfalso
          have f : (m == m) = false := f
          simp at f
      · exfalso
        have c : ((riseR frR m 1).2 == 0) = false := c
        rw [r1] at c; cases c
end Pl
