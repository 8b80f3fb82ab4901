import Derived.Test.YtcjhmlfdmddhkaaGoGr
import Derived.Test.YtcjhmlfdmddhkaaGoGp
namespace Pl
open Go Sx Go.Proofs Go.RowKit
theorem brF_in {s : Int} {p : List Int} {x : Int} (h : x ∈ brF s p) : 0 ≤ x ∧ x < 8 := by
  obtain ⟨k, _, h2, _, rfl⟩ := (fltB_mem _ _ _ _).1 h
  omega
theorem getD0_mem {l : List Int} {k : Nat} (h : k < l.length) : l.getD k 0 ∈ l := by
  rw [List.getD, List.getElem?_eq_getElem h]; exact List.getElem_mem h
theorem shL_mem : ∀ (n : Nat) (l : List Int) (d : Int), n < l.length → n < 64 → ∀ x ∈ shL n l d, x ∈ l
  | 0, _, _, _, _, _, h => h
  | n + 1, l, d, hn, h6, x, h => by
    rw [shL] at h
    have hk := shK_in (n := ((n + 1 : Nat) : Int)) (x := d) (by omega) (by omega)
    have h := shL_mem n _ _ (by simp only [List.length_set]; omega) (by omega) x h
    rcases List.mem_or_eq_of_mem_set h with h | h
    · rcases List.mem_or_eq_of_mem_set h with h | h
      · exact h
      · rw [h]; exact getD0_mem (by omega)
    · rw [h]; exact getD0_mem (by omega)
theorem ordF_facts (s : Int) (o p : List Int) (d : Int) (ho : o.length ≤ 8) : (ordF (s, o) p d).1.1 = s ∧ (ordF (s, o) p d).1.2.length ≤ 8 ∧ ((ordF (s, o) p d).2 = -1 ∨ 0 ≤ (ordF (s, o) p d).2 ∧ (ordF (s, o) p d).2 < 8) := by
  unfold ordF
  have hb := brF_len s p
  have hs := shF_brF s p d
  split
  · exact ⟨rfl, ho, .inl rfl⟩
  · rename_i c
    have c : ¬ (brF s p).length = 0 := c
    split
    · refine ⟨rfl, ?_, .inr ?_⟩
      · show ((shF (brF s p) d).drop 1).length ≤ 8
        rw [List.length_drop]; omega
      · refine brF_in (s := s) (p := p) ?_
        have hm : (shF (brF s p) d).getD 0 0 ∈ shF (brF s p) d := getD0_mem (by omega)
        have e : (brF s p).take 64 = brF s p := List.take_of_length_le (by omega)
        generalize (shF (brF s p) d).getD 0 0 = x at *
        unfold shF at hm
        rw [e] at hm
        exact shL_mem _ _ _ (by omega) (by omega) _ hm
    · rename_i c2
      have c2 : ¬ (o.filter (fun n => (brF s p).contains n)).length = 0 := c2
      refine ⟨rfl, ?_, .inr ?_⟩
      · show ((o.filter (fun n => (brF s p).contains n)).drop 1).length ≤ 8
        have := List.length_filter_le (fun n => (brF s p).contains n) o
        rw [List.length_drop]; omega
      · refine brF_in (s := s) (p := p) ?_
        have hm : (o.filter (fun n => (brF s p).contains n)).getD 0 0 ∈ o.filter (fun n => (brF s p).contains n) := getD0_mem (by omega)
        simpa using (List.mem_filter.1 hm).2
theorem joinE_zero {e : Int × Int} (h : mayE e = true) : joinE (0, 0) e = e := by
  obtain ⟨a, b⟩ := e
  unfold mayE at h
  simp only [Bool.or_eq_true, Bool.and_eq_true, beq_iff_eq, decide_eq_true_eq] at h
  unfold joinE
  rcases h with ⟨rfl, rfl⟩ | ⟨⟨h1, _⟩, _⟩
  · rfl
  · rw [if_pos]
    have : cmpI a 0 = 1 := by unfold cmpI; rw [if_neg (by omega), if_pos (by omega)]
    simp [cmpE, orL, this]
theorem joinP_zero {p : Int × Int × List Int} (h : mayB p = true) : joinP (0, 0, []) p = p := by
  obtain ⟨a, b, l⟩ := p
  unfold mayB at h
  simp only at h
  unfold joinP
  split at h
  · rename_i hl
    have hl : l = [] := List.length_eq_zero_iff.1 hl
    simp only [Bool.and_eq_true, decide_eq_true_eq] at h
    obtain ⟨rfl, rfl⟩ := h
    subst hl
    rfl
  · simp only [Bool.and_eq_true, decide_eq_true_eq] at h
    rw [if_pos]
    have : cmpI a 0 = 1 := by unfold cmpI; rw [if_neg (by omega), if_pos (by omega)]
    simp [cmpP, orL, this]
theorem mxI_zero {x : Int} (h : stB x = true) : mxI 0 x = x := by
  unfold stB at h
  simp at h
  unfold mxI
  split <;> omega
theorem join_zero {r : RingD} (ho : okR r) (h : mayR r = true) : joinR zeroR r = r := by
  unfold mayR at h
  simp only [Bool.and_eq_true] at h
  obtain ⟨h1, h2, h3⟩ := h
  have e1 := List.all_eq_true.1 h1
  have e3 := List.all_eq_true.1 h3
  refine Prod.ext ?_ (Prod.ext (joinP_zero h2) ?_)
  · refine ext_getD 0 ((tabL_len _ _).trans ho.1.symm) fun k hk => ?_
    have hk : k < 8 := by rwa [show (joinR zeroR r).1.length = 8 from tabL_len _ _] at hk
    have hz : zeroR.1.getD k 0 = 0 := by
      show (List.replicate 8 (0 : Int)).getD k 0 = 0
      rw [List.getD, List.getElem?_replicate, if_pos hk]; rfl
    show (tabL 8 fun j => mxI (zeroR.1.getD j 0) (r.1.getD j 0)).getD k 0 = r.1.getD k 0
    rw [tabL_getD _ _ _ hk, hz, mxI_zero (e1 _ (tab_mem hk))]
  · refine ext_getD (0, 0) ((tabL_len _ _).trans ho.2.symm) fun k hk => ?_
    have hk : k < 16 := by rwa [show (joinR zeroR r).2.2.length = 16 from tabL_len _ _] at hk
    have hz : zeroR.2.2.getD k (0, 0) = (0, 0) := by
      show (List.replicate 16 ((0 : Int), (0 : Int))).getD k (0, 0) = (0, 0)
      rw [List.getD, List.getElem?_replicate, if_pos hk]; rfl
    show (tabL 16 fun j => joinE (zeroR.2.2.getD j (0, 0)) (r.2.2.getD j (0, 0))).getD k (0, 0) = r.2.2.getD k (0, 0)
    rw [tabL_getD _ _ _ hk, hz, joinE_zero (e3 _ (tab_mem hk))]
end Pl
namespace Pl
open Go Sx Go.Proofs Go.RowKit
theorem same_self {a : RingD} : sameR a a = true := by simp [sameR]
theorem relM_kn {k : KnD} {m : List RingD × List Bool} (h : relM k m) {n : Int} (h0 : 0 ≤ n) (h1 : n < 8) : knF k n = if m.2.getD n.toNat false = true then (m.1.getD n.toNat zeroR, true) else (zeroR, false) := by
  unfold knF
  rw [if_pos ⟨h0, h1⟩, h.2.2 _ (by omega)]
  cases m.2.getD n.toNat false <;> rfl
theorem lPi : LpsOK Try.prog Try.f3 [piP] := by
  refine .cons (fun st out h => viaV_ok (LPi.sound x1_ok (lps := []) (n := 100) (inner rfl) (fun _ => rfl) ?_) st out h) .nil
  rintro ⟨s, l, i, n, k, o, m, p⟩ ⟨h1, h2, h3, h4⟩
  simp only at h1 h2 h3 h4
  rw [rPi]
  have hf := kn_fine h3 n
  have kq : ((knF k n).1.2.1.2.2.length : Int) < 17592186044416 := by have := hf.2; omega
  refine ⟨fun c => ?_, fun c => ⟨by repeat' (first | exact trivial | rfl | apply And.intro), trivial⟩⟩
  have c : n ≤ 8 := of_decide_eq_true c
  have next : LPi.Next ⟨s, l, i, n, k, o, m, p⟩ (some ⟨s, l, i, IntKind.i64.wrap (n + 1), k, o, m, p⟩) := by
    rw [IntWalk.i64_in _ (by omega)]
    exact ⟨⟨by dsimp only; omega, by dsimp only; omega, h3, h4⟩, by simp only [LPi]; omega, rfl⟩
  refine ⟨⟨fun a => ⟨fun _ => by repeat' (first | exact trivial | rfl | apply And.intro), fun b => ?_⟩, fun _ => by repeat' (first | exact trivial | rfl | apply And.intro)⟩, fun y hy => ?_⟩
  · have a : n ≥ 0 := of_decide_eq_true a
    have b : n < 8 := by simpa using b
    exact ⟨⟨by omega, by omega⟩, ⟨by omega, by omega⟩, fun _ => by repeat' (first | exact trivial | rfl | apply And.intro), fun c => ⟨⟨by omega, by omega⟩, ⟨by omega, by omega⟩, c, notNone c, ⟨⟨rfl, rfl⟩, ⟨rfl, rfl⟩, getZ h3 a b, getZ h3 a b⟩, by repeat' (first | exact trivial | rfl | apply And.intro)⟩⟩
  have hy := hy.trans (kn_eq h3)
  subst hy
  have hh : (knF k n).2 = (decide (n ≥ 0) && (decide (n < 8) && m.2.getD n.toNat false)) := by
    by_cases a : n ≥ 0
    · by_cases b : n < 8
      · rw [relM_kn h4 a b, decide_eq_true a, decide_eq_true b]
        cases m.2.getD n.toNat false <;> rfl
      · unfold knF; rw [if_neg (fun e => b e.2), decide_eq_false b]; simp
    · unfold knF; rw [if_neg (fun e => a e.1), decide_eq_false a]; simp
  have hno : (decide (n ≥ 0) && (decide (n < 8) && m.2.getD n.toNat false)) = false → (knF k n).1 = zeroR := fun e => by
    rw [← hh] at e
    unfold knF at e ⊢
    split
    · rename_i q; rw [if_pos q] at e
      cases hg : k.getD n.toNat none with
      | none => rfl
      | some x => rw [hg] at e; cases e
    · rfl
  have hyes : (decide (n ≥ 0) && (decide (n < 8) && m.2.getD n.toNat false)) = true → (0 ≤ n ∧ n < 8) ∧ (knF k n).1 = m.1.getD n.toNat zeroR := fun e => by
    simp only [Bool.and_eq_true, decide_eq_true_eq] at e
    refine ⟨⟨by omega, e.2.1⟩, ?_⟩
    rw [relM_kn h4 (by omega) e.2.1, if_pos e.2.2]
  refine ⟨fun a b => ⟨⟨of_decide_eq_true a, of_decide_eq_true b⟩, ⟨of_decide_eq_true a, of_decide_eq_true b⟩⟩, fun e => ?_, fun _ => ⟨fun e => ?_, fun e => ⟨fun _ => ⟨⟨⟨rfl, rfl⟩, ⟨rfl, rfl⟩, kq, by decide⟩, fun f => ?_, fun _ => ⟨by repeat' (first | exact trivial | rfl | apply And.intro), next⟩⟩, fun _ => ⟨by repeat' (first | exact trivial | rfl | apply And.intro), next⟩⟩⟩⟩
  · exfalso
    rw [← hh] at e
    have e : (!(knF k n).2 == (knF k n).2) = true := e
    cases hb : (knF k n).2 <;> rw [hb] at e <;> cases e
  · obtain ⟨y1, y2⟩ := hyes e
    have hq : ((m.1.getD n.toNat zeroR).2.1.2.2.length : Int) < 17592186044416 := by rw [← y2]; exact kq
    refine ⟨y1, y1, ⟨⟨rfl, rfl⟩, ⟨rfl, rfl⟩, kq, hq⟩, fun f => ?_, fun _ => ⟨fun g => ?_, fun _ => ⟨by repeat' (first | exact trivial | rfl | apply And.intro), next⟩⟩⟩
    · exfalso
      have f : (!sameR (etaR (knF k n).1) (etaR (m.1.getD n.toNat zeroR))) = true := f
      rw [y2, same_self] at f; cases f
    · exfalso
      rw [e] at g; cases g
  · exfalso
    have f : (!sameR (etaR (knF k n).1) zeroR) = true := f
    rw [hno e] at f
    rw [show etaR zeroR = zeroR from eta_eq ⟨rfl, rfl⟩, same_self] at f; cases f
end Pl
namespace Pl
open Go Sx Go.Proofs Go.RowKit
theorem knF_in {k : KnD} {n : Int} (h : (knF k n).2 = true) : 0 ≤ n ∧ n < 8 := by
  unfold knF at h
  split at h
  · rename_i c; exact c
  · cases h
theorem relM_set {k : KnD} {m : List RingD × List Bool} (h : relM k m) {j : Nat} (hj : j < 8) (hk : k.length = 8) {x y : RingD} (e : x = y) : relM (k.set j (some x)) (m.1.set j y, m.2.set j true) := by
  subst e
  obtain ⟨a, b, c⟩ := h
  refine ⟨by rw [List.length_set]; exact a, by rw [List.length_set]; exact b, fun i hi => ?_⟩
  by_cases q : j = i
  · subst q
    rw [getD_set_eq (by omega), getD_set_eq (by omega), getD_set_eq (by omega)]; rfl
  · rw [getD_set_ne q, getD_set_ne q, getD_set_ne q]; exact c i hi
theorem lPo : LpsOK Try.prog Try.f3 [poP, piP] := by
  refine .cons (LPo.sound x1_ok (lps := [piP]) (n := 100) (lPi.within (by kernel_rfl)) (fun _ => rfl) ?_) lPi
  rintro ⟨s, l, i, k, o, m, p⟩ ⟨h1, h2, h3, h4, h5, h6, h7, h8⟩
  simp only at h1 h2 h3 h4 h5 h6 h7 h8
  subst h4
  rw [rPo]
  refine ⟨fun c => ?_, fun c => ⟨by repeat' (first | exact trivial | rfl | apply And.intro), trivial⟩⟩
  have c : i < (l.length : Int) := of_decide_eq_true c
  have hm := h8 _ (getD_mem (l := l) (0, 0, zeroR, [], 0) h1 c)
  simp only [zeroR] at hm
  have hF := ordF_facts s o (l.getD i.toNat (0, 0, (List.replicate 8 0, (0, 0, []), List.replicate 16 (0, 0)), [], 0)).2.2.2.1 (l.getD i.toNat (0, 0, (List.replicate 8 0, (0, 0, []), List.replicate 16 (0, 0)), [], 0)).2.2.2.2 h5
  generalize l.getD i.toNat (0, 0, (List.replicate 8 0, (0, 0, []), List.replicate 16 (0, 0)), [], 0) = C at *
  generalize ordF (s, o) C.2.2.2.1 C.2.2.2.2 = q at *
  obtain ⟨f1, f2, f3⟩ := hF
  obtain ⟨hm, hm2⟩ := hm
  have ho := eta_eq hm.1
  have hs : (C.2.2.1.2.1.2.2.length : Int) < 17592186044416 := by have := hm.2; omega
  have hs2 : (C.2.2.1.2.1.2.2.length : Int) < 1000000 := by have := hm.2; omega
  have next : ∀ k' o' m', o'.length ≤ 8 → fineK k' → relM k' m' → LPo.Next ⟨s, l, i, k, o, m, o⟩ (some ⟨s, l, IntKind.i64.wrap (i + 1), k', o', m', o'⟩) := by
    intro k' o' m' g2 g3 g4
    rw [i64_inc (by omega) (by omega)]
    exact ⟨⟨by dsimp only; omega, by dsimp only; omega, h3, rfl, g2, g3, g4, h8⟩, by simp only [LPo]; omega, rfl⟩
  refine ⟨⟨h1, c⟩, ⟨h1, c⟩, fun c0 => ?_, fun c0 => ?_⟩
  · have nextA := next k q.1.2 m f2 h6 h7
    have hf := kn_fine h6 q.2
    have kq : ((knF k q.2).1.2.1.2.2.length : Int) < 17592186044416 := by have := hf.2; omega
    have hb : ((knF k q.2).2 && belowR (etaR C.2.2.1) (etaR (knF k q.2).1)) = ((knF k q.2).2 && belowR C.2.2.1 (knF k q.2).1) := by rw [ho, eta_eq hf.1]
    have hlen : (0 ≤ q.2 ∧ q.2 < 8) → m.2.getD q.2.toNat false = true → (knF k q.2) = (m.1.getD q.2.toNat zeroR, true) := fun a b => by
      rw [relM_kn h7 a.1 a.2, if_pos b]
    refine ⟨⟨by omega, by omega⟩, ?_, fun y hy => ?_⟩
    · refine ⟨fun a => ⟨fun _ => by repeat' (first | exact trivial | rfl | apply And.intro), fun b => ?_⟩, fun _ => by repeat' (first | exact trivial | rfl | apply And.intro)⟩
      have a : q.2 ≥ 0 := of_decide_eq_true a
      have b : q.2 < 8 := by simpa using b
      exact ⟨⟨by omega, by omega⟩, ⟨by omega, by omega⟩, fun _ => by repeat' (first | exact trivial | rfl | apply And.intro), fun c => ⟨⟨by omega, by omega⟩, ⟨by omega, by omega⟩, c, notNone c, ⟨⟨rfl, rfl⟩, ⟨rfl, rfl⟩, getZ h6 a b, getZ h6 a b⟩, by repeat' (first | exact trivial | rfl | apply And.intro)⟩⟩
    have hy := hy.trans (kn_eq h6)
    subst hy
    refine ⟨fun _ => ⟨⟨rfl, rfl⟩, ⟨rfl, rfl⟩, hs, kq⟩, fun e => ?_, fun e => ?_⟩
    · have e := hb.symm.trans e
      rw [Bool.and_eq_true] at e
      have hin := knF_in e.1
      have hr := relM_kn h7 hin.1 hin.2
      have hm3 : m.2.getD q.2.toNat false = true := by
        cases hx : m.2.getD q.2.toNat false with
        | true => rfl
        | false => rw [hx] at hr; rw [hr] at e; exact absurd e.1 (by simp)
      have hk := hlen hin hm3
      have hrl : ((m.1.getD q.2.toNat zeroR).2.1.2.2.length : Int) < 1000000 := by have := hf.2; rw [hk] at this; dsimp only at this; omega
      have hro : okR (m.1.getD q.2.toNat zeroR) := by have := hf.1; rw [hk] at this; exact this
      refine ⟨⟨by omega, by omega⟩, fun g => absurd (of_decide_eq_true g) (by omega), fun _ => ⟨⟨by omega, by omega⟩, ⟨by omega, by omega⟩, fun _ => ⟨⟨by omega, by omega⟩, ⟨by omega, by omega⟩, ⟨⟨rfl, rfl⟩, ⟨rfl, rfl⟩, hs2, hrl⟩, fun _ => ⟨⟨by omega, by omega, h6, h7⟩, by repeat' (first | exact trivial | rfl | exact f1 | apply And.intro), by repeat' (first | exact trivial | rfl | exact f1 | apply And.intro), nextA⟩, fun g => ?_⟩, fun g => ?_⟩⟩
      · exfalso
        have g : belowR (etaR C.2.2.1) (etaR (m.1.getD q.2.toNat zeroR)) = false := g
        rw [ho, eta_eq hro] at g
        rw [hk] at e
        rw [show belowR C.2.2.1 (m.1.getD q.2.toNat zeroR) = true from e.2] at g
        cases g
      · exfalso
        have g : m.2.getD q.2.toNat false = false := g
        rw [hm3] at g; cases g
    · have e := hb.symm.trans e
      refine ⟨⟨by omega, by omega⟩, fun g => ⟨fun g2 => ?_, fun _ => ⟨⟨by omega, by omega, h6, h7⟩, by repeat' (first | exact trivial | rfl | exact f1 | apply And.intro), by repeat' (first | exact trivial | rfl | exact f1 | apply And.intro), nextA⟩⟩, fun g => ?_⟩
      · exfalso
        have g := of_decide_eq_true g
        have g2 : q.2 ≠ -1 := by simpa using g2
        omega
      · have g : ¬ q.2 < 0 := of_decide_eq_false g
        refine ⟨⟨by omega, by omega⟩, ⟨by omega, by omega⟩, fun g2 => ?_, fun _ => ⟨fun g4 => absurd g4 (by simp), fun _ => ⟨⟨by omega, by omega, h6, h7⟩, by repeat' (first | exact trivial | rfl | exact f1 | apply And.intro), by repeat' (first | exact trivial | rfl | exact f1 | apply And.intro), nextA⟩⟩⟩
        have hk := hlen ⟨by omega, by omega⟩ g2
        have hrl : ((m.1.getD q.2.toNat zeroR).2.1.2.2.length : Int) < 1000000 := by have := hf.2; rw [hk] at this; dsimp only at this; omega
        have hro : okR (m.1.getD q.2.toNat zeroR) := by have := hf.1; rw [hk] at this; exact this
        refine ⟨⟨by omega, by omega⟩, ⟨by omega, by omega⟩, ⟨⟨rfl, rfl⟩, ⟨rfl, rfl⟩, hs2, hrl⟩, fun g3 => ?_, fun _ => ⟨fun g4 => absurd g4 (by simp), fun _ => ⟨⟨by omega, by omega, h6, h7⟩, by repeat' (first | exact trivial | rfl | exact f1 | apply And.intro), by repeat' (first | exact trivial | rfl | exact f1 | apply And.intro), nextA⟩⟩⟩
        exfalso
        have g3 : belowR (etaR C.2.2.1) (etaR (m.1.getD q.2.toNat zeroR)) = true := g3
        rw [ho, eta_eq hro] at g3
        rw [hk] at e
        have e : (true && belowR C.2.2.1 (m.1.getD q.2.toNat zeroR)) = false := e
        rw [g3] at e; cases e
  · have hf := kn_fine h6 C.2.1
    have kq : ((knF k C.2.1).1.2.1.2.2.length : Int) < 17592186044416 := by have := hf.2; omega
    refine ⟨fun _ _ _ => ⟨⟨rfl, rfl⟩, hs⟩, fun g => ⟨fun _ _ _ => ⟨⟨rfl, rfl⟩, hs⟩, fun _ => ⟨⟨by omega, by omega, h6, h7⟩, by repeat' (first | exact trivial | rfl | apply And.intro), by repeat' (first | exact trivial | rfl | apply And.intro), next _ _ _ h5 h6 h7⟩, fun g2 => absurd (g.symm.trans g2) (by decide)⟩, fun g => ?_⟩
    have g' : 0 ≤ C.2.1 ∧ C.2.1 < 8 ∧ C.2.1 ≠ s ∧ mayR C.2.2.1 = true := by
      have g := g
      rw [show mayR (tab 8 C.2.2.1.1 0, C.2.2.1.2.1, tab 16 C.2.2.1.2.2 (0, 0)) = mayR C.2.2.1 from congrArg mayR ho] at g
      simp only [Bool.or_eq_false_iff, Bool.not_eq_false', decide_eq_true_eq, beq_eq_false_iff_ne] at g
      exact ⟨g.1, g.2.1, g.2.2.1, g.2.2.2⟩
    refine ⟨⟨fun a => ⟨fun _ => by repeat' (first | exact trivial | rfl | apply And.intro), fun b => ⟨⟨g'.1, g'.2.1⟩, ⟨g'.1, g'.2.1⟩, fun _ => by repeat' (first | exact trivial | rfl | apply And.intro), fun c => ⟨⟨g'.1, g'.2.1⟩, ⟨g'.1, g'.2.1⟩, c, notNone c, ⟨⟨rfl, rfl⟩, ⟨rfl, rfl⟩, getZ h6 g'.1 g'.2.1, getZ h6 g'.1 g'.2.1⟩, by repeat' (first | exact trivial | rfl | apply And.intro)⟩⟩⟩, fun _ => by repeat' (first | exact trivial | rfl | apply And.intro)⟩, fun y hy => ?_⟩
    have hy := hy.trans (kn_eq h6)
    subst hy
    refine ⟨⟨⟨rfl, rfl⟩, ⟨rfl, rfl⟩, kq, hs⟩, fun z hz => ?_⟩
    have hz' : z = (joinR (etaR (knF k C.2.1).1) (etaR C.2.2.1), ()) := hz
    rw [ho, eta_eq hf.1] at hz'
    subst hz'
    have hj := joinR_ok (knF k C.2.1).1 C.2.2.1
    have hfj : fineR (etaR (joinR (knF k C.2.1).1 C.2.2.1)) := by rw [eta_eq hj]; exact fine_join hf hm
    have hfk : fineK (k.set C.2.1.toNat (some (etaR (joinR (knF k C.2.1).1 C.2.2.1)))) := fineK_set h6 _ hfj
    have hr := relM_kn h7 g'.1 g'.2.1
    refine ⟨⟨g'.1, g'.2.1⟩, ⟨g'.1, g'.2.1⟩, fun _ _ _ => ⟨⟨rfl, rfl⟩, hs⟩, fun g2 => absurd (g2.symm.trans g) (by decide), fun _ => ⟨⟨g'.1, g'.2.1⟩, ⟨g'.1, g'.2.1⟩, fun g3 => ?_, fun g3 => ?_⟩⟩
    · rw [if_pos g3] at hr
      have hmf : fineR (m.1.getD C.2.1.toNat zeroR) := by have := hf; rw [hr] at this; exact this
      refine ⟨⟨g'.1, g'.2.1⟩, ⟨g'.1, g'.2.1⟩, ⟨⟨rfl, rfl⟩, ⟨rfl, rfl⟩, (by have := hmf.2; show ((m.1.getD C.2.1.toNat zeroR).2.1.2.2.length : Int) < 1000000; omega), hs2⟩, fun w hw => ?_⟩
      have hw' : w = (joinR (etaR (m.1.getD C.2.1.toNat zeroR)) (etaR C.2.2.1), ()) := hw
      rw [ho, eta_eq hmf.1] at hw'
      subst hw'
      have hrel : relM (k.set C.2.1.toNat (some (etaR (joinR (knF k C.2.1).1 C.2.2.1)))) (m.1.set C.2.1.toNat (etaR (joinR (m.1.getD C.2.1.toNat zeroR) C.2.2.1)), m.2.set C.2.1.toNat true) := relM_set h7 (by omega) h6.1 (by rw [hr])
      exact ⟨⟨g'.1, g'.2.1⟩, ⟨g'.1, g'.2.1⟩, ⟨g'.1, g'.2.1⟩, ⟨g'.1, g'.2.1⟩, ⟨by omega, by omega, hfk, hrel⟩, by repeat' (first | exact trivial | rfl | apply And.intro), by repeat' (first | exact trivial | rfl | apply And.intro), next _ _ _ h5 hfk hrel⟩
    · have hr : knF k C.2.1 = (zeroR, false) := hr.trans (if_neg (by rw [show m.2.getD C.2.1.toNat false = false from g3]; decide))
      have hrel : relM (k.set C.2.1.toNat (some (etaR (joinR (knF k C.2.1).1 C.2.2.1)))) (m.1.set C.2.1.toNat (etaR C.2.2.1), m.2.set C.2.1.toNat true) := relM_set h7 (by omega) h6.1 (by rw [hr, show joinR (zeroR, false).1 C.2.2.1 = C.2.2.1 from join_zero hm.1 g'.2.2.2])
      exact ⟨⟨g'.1, g'.2.1⟩, ⟨g'.1, g'.2.1⟩, ⟨g'.1, g'.2.1⟩, ⟨g'.1, g'.2.1⟩, ⟨by omega, by omega, hfk, hrel⟩, by repeat' (first | exact trivial | rfl | apply And.intro), by repeat' (first | exact trivial | rfl | apply And.intro), next _ _ _ h5 hfk hrel⟩
end Pl
namespace Pl
open Go Sx Go.Proofs Go.RowKit
theorem relM_zero : relM (List.replicate 8 none) (List.replicate 8 zeroR, List.replicate 8 false) := by
  refine ⟨rfl, rfl, fun j hj => ?_⟩
  rw [List.getD, List.getElem?_replicate, if_pos hj, List.getD, List.getElem?_replicate, if_pos hj]; rfl
theorem lgF_peers : ∀ (l : List CallD) (i : Int), lgF l i = true → ∀ c ∈ l, (c.2.2.2.1.length : Int) ≤ 20
  | [], _, _, _, h => by cases h
  | x :: r, i, h, c, hc => by
    rw [lgF] at h
    split at h
    · cases h
    · rename_i q
      rcases List.mem_cons.1 hc with rfl | hc
      · omega
      · exact lgF_peers r _ h c hc
theorem plays_ok : PureOK Try.prog 3 [i64, calls] [.bool] (fun x => ∀ c ∈ (x.2.1 : List CallD), okR c.2.2.1) (fun _ => (true, ())) :=
  fn_pure (E := x1) (n := 100) x1_ok Try.func3 (by kernel_rfl) lPo fun x hx => by
    obtain ⟨s, l, _⟩ : Int × List CallD × Unit := x
    refine Tree.all_eq (tGp s l) ?_
    refine ⟨trivial, fun _ => ⟨trivial, rfl⟩, fun g => ?_⟩
    have g : lgF l 0 = true := by simpa using g
    obtain ⟨f1, f2⟩ := lgF_all l 0 g
    have f2 := f2 (by omega) (by omega)
    have f3 := lgF_peers l 0 g
    refine ⟨trivial, fun a => ⟨trivial, fun _ => ⟨trivial, rfl⟩, fun b => absurd (a.symm.trans b) (by decide)⟩, fun a => ⟨trivial, fun b => absurd (b.symm.trans a) (by decide), fun _ => ⟨⟨by omega, by omega, by omega, rfl, by simp, fineK_zero, relM_zero, fun c hc => ⟨⟨hx c hc, f1 c hc⟩, f3 c hc⟩⟩, by repeat' (first | exact trivial | rfl | apply And.intro), trivial, rfl⟩⟩⟩
end Pl
