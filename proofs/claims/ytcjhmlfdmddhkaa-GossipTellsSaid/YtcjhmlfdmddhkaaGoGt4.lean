import Derived.Test.YtcjhmlfdmddhkaaGoGt
namespace Pl
open Go Sx Go.Proofs Go.RowKit
theorem sh3 (d : Int) : shF [1, 2, 3] d ∈ permT := by
  show shL 2 [1, 2, 3] d ∈ permT
  rw [shL, shL, shL]
  have h2 := shK_in (n := ((1 + 1 : Nat) : Int)) (x := d) (by omega) (by omega)
  have h1 := shK_in (n := ((0 + 1 : Nat) : Int)) (x := shX d) (by omega) (by omega)
  generalize shK ((1 + 1 : Nat) : Int) d = a at *
  generalize shK ((0 + 1 : Nat) : Int) (shX d) = c at *
  have ha : a = 0 ∨ a = 1 ∨ a = 2 := by omega
  have hc : c = 0 ∨ c = 1 := by omega
  rcases ha with rfl | rfl | rfl <;> rcases hc with rfl | rfl <;> decide
theorem ord0 (d : Int) : ∃ p ∈ permT, ordF (0, []) [1, 2, 3] d = ((0, p.drop 1), p.getD 0 0) := ⟨_, sh3 d, rfl⟩
theorem ord1 {p : List Int} (hp : p ∈ permT) (d : Int) : ordF (0, p.drop 1) [1, 2, 3] d = ((0, p.drop 2), p.getD 1 0) := by
  simp only [permT, List.mem_cons, List.not_mem_nil, or_false] at hp
  rcases hp with rfl | rfl | rfl | rfl | rfl | rfl <;> rfl
theorem ord2 {p : List Int} (hp : p ∈ permT) (d : Int) : ordF (0, p.drop 2) [1, 2, 3] d = ((0, p.drop 3), p.getD 2 0) := by
  simp only [permT, List.mem_cons, List.not_mem_nil, or_false] at hp
  rcases hp with rfl | rfl | rfl | rfl | rfl | rfl <;> rfl
theorem pfacts : ∀ p ∈ permT, ∀ s ∈ [0, 1, 2], (1 ≤ p.getD s 0 ∧ p.getD s 0 ≤ 3) ∧ (p.take s).contains (p.getD s 0) = false ∧ p.drop 3 = [] ∧ (∀ x ∈ ([1, 2, 3] : List Int), (p.take 3).contains x = true) ∧ ∀ x ∈ ([1, 2, 3] : List Int), (p.take (s + 1)).contains x = ((p.take s).contains x || x == p.getD s 0) := by decide
theorem invT_ord {b : Int → Bool} {i : Int} {o t : List Int} (d : Int) (h : invT b i o t) : ∃ q : Nat, ∃ p ∈ permT, ∃ s : Nat, s < 3 ∧ i = 3 * (q : Int) + s ∧ ordF (0, o) [1, 2, 3] d = ((0, p.drop (s + 1)), p.getD s 0) ∧ t.length = 4 ∧
    ∀ x ∈ ([1, 2, 3] : List Int), t.getD x.toNat 0 = if b x = true then 0 else (q : Int) + (if (p.take s).contains x = true then 1 else 0) := by
  obtain ⟨q, p, hp, s, hs, hi, ho, hl, ht⟩ := h
  have : s = 0 ∨ s = 1 ∨ s = 2 := by omega
  rcases this with rfl | rfl | rfl
  · obtain ⟨p', hp', e⟩ := ord0 d
    refine ⟨q, p', hp', 0, by omega, hi, by rw [ho]; exact e, hl, fun x hx => ?_⟩
    rw [ht x hx]; simp
  · exact ⟨q, p, hp, 1, by omega, hi, by rw [ho]; exact ord1 hp d, hl, ht⟩
  · exact ⟨q, p, hp, 2, by omega, hi, by rw [ho]; exact ord2 hp d, hl, ht⟩
theorem mkInv {b : Int → Bool} {i : Int} {t : List Int} {q : Nat} {p : List Int} (hp : p ∈ permT) {s : Nat} (hs : s < 3) (hi : i = 3 * (q : Int) + s) (hl : t.length = 4)
    (ht : ∀ x ∈ ([1, 2, 3] : List Int), t.getD x.toNat 0 = if b x = true then 0 else (q : Int) + (if (p.take (s + 1)).contains x = true then 1 else 0)) : invT b (i + 1) (p.drop (s + 1)) t := by
  by_cases e : s = 2
  · subst e
    have pf := pfacts p hp 2 (by decide)
    refine ⟨q + 1, p, hp, 0, by omega, by push_cast; omega, by rw [if_pos rfl]; exact pf.2.2.1, hl, fun x hx => ?_⟩
    rw [ht x hx, pf.2.2.2.1 x hx]
    simp
  · exact ⟨q, p, hp, s + 1, by omega, by push_cast; omega, by rw [if_neg (by omega)], hl, ht⟩
theorem invT_step {b : Int → Bool} {i : Int} {o t : List Int} (d : Int) (h : invT b i o t) : ∃ n o', ordF (0, o) [1, 2, 3] d = ((0, o'), n) ∧ 1 ≤ n ∧ n ≤ 3 ∧ (b n = true → invT b (i + 1) o' t) ∧ (b n = false → t.getD n.toNat 0 = i.tdiv 3 ∧ invT b (i + 1) o' (t.set n.toNat (t.getD n.toNat 0 + 1))) := by
  obtain ⟨q, p, hp, s, hs, hi, ho, hl, ht⟩ := invT_ord d h
  have pf := pfacts p hp s (by have : s = 0 ∨ s = 1 ∨ s = 2 := by omega
                               rcases this with rfl | rfl | rfl <;> decide)
  obtain ⟨⟨f1, f2⟩, f3, _, _, f5⟩ := pf
  refine ⟨_, _, ho, f1, f2, fun hb => mkInv hp hs hi hl fun x hx => ?_, fun hb => ⟨?_, mkInv hp hs hi (by rw [List.length_set]; exact hl) fun x hx => ?_⟩⟩
  · rw [ht x hx, f5 x hx]
    by_cases e : x = p.getD s 0
    · rw [e, hb]; rfl
    · rw [beq_false_of_ne e, Bool.or_false]
  · have hm : p.getD s 0 ∈ ([1, 2, 3] : List Int) := by
      have : p.getD s 0 = 1 ∨ p.getD s 0 = 2 ∨ p.getD s 0 = 3 := by omega
      simp only [List.mem_cons, List.not_mem_nil, or_false]; exact this
    rw [ht _ hm, hb, f3, hi]
    simp only [Bool.false_eq_true, if_false]
    rw [Int.tdiv_eq_ediv_of_nonneg (by omega)]
    omega
  · have hx' : 1 ≤ x ∧ x ≤ 3 := by simp only [List.mem_cons, List.not_mem_nil, or_false] at hx; omega
    rw [f5 x hx]
    by_cases e : x = p.getD s 0
    · rw [e, getD_set_eq (by omega), ← e, ht x hx, e, hb, f3]
      simp
    · rw [getD_set_ne (by omega), ht x hx, beq_false_of_ne e, Bool.or_false]
theorem invT_end {b : Int → Bool} {i : Int} {o t : List Int} (h : invT b i o t) (x : Int) (hx : x ∈ ([1, 2, 3] : List Int)) : (b x = true → t.getD x.toNat 0 = 0) ∧ (b x = false → i.tdiv 3 ≤ t.getD x.toNat 0 ∧ t.getD x.toNat 0 ≤ i.tdiv 3 + 1) := by
  obtain ⟨q, p, hp, s, hs, hi, ho, hl, ht⟩ := h
  rw [ht x hx]
  refine ⟨fun e => by rw [e]; rfl, fun e => ?_⟩
  rw [e, Int.tdiv_eq_ediv_of_nonneg (by omega)]
  simp only [Bool.false_eq_true, if_false]
  split <;> omega
theorem invT_zero (b : Int → Bool) : invT b 0 [] (List.replicate 4 0) :=
  ⟨0, [1, 2, 3], by decide, 0, by omega, by omega, rfl, rfl, fun x hx => by
    simp only [List.mem_cons, List.not_mem_nil, or_false] at hx
    rcases hx with rfl | rfl | rfl <;> simp⟩
theorem invT_fold {k : KnD} {r : RingD} : ∀ (l : List Int) (i : Int) (s : List Int × List Int), invT (belT k r) i s.1 s.2 → invT (belT k r) (i + l.length) (l.foldl (stepT k r) s).1 (l.foldl (stepT k r) s).2
  | [], i, s, h => by simpa using h
  | d :: l, i, s, h => by
    obtain ⟨n, o', e, _, _, h1, h2⟩ := invT_step d h
    have : invT (belT k r) (i + 1) (stepT k r s d).1 (stepT k r s d).2 := by
      unfold stepT
      rw [e]
      split
      · rename_i hb; exact h1 hb
      · rename_i hb; exact (h2 (by simpa using hb)).2
    have := invT_fold l (i + 1) _ this
    rw [List.foldl_cons, List.length_cons]
    push_cast
    rw [show i + ((l.length : Int) + 1) = i + 1 + (l.length : Int) by omega]
    exact this
end Pl
namespace Pl
open Go Sx Go.Proofs Go.RowKit
theorem below_self {a : RingD} (h : okR a) : belowR a a = true := by
  have := below_join a a h
  rwa [joinR_self h] at this
theorem knF_has {k : KnD} {n : Int} (h0 : k.getD 0 none = none) (h : (knF k n).2 = true) : 1 ≤ n ∧ n < 8 := by
  unfold knF at h
  split at h
  · rename_i c
    refine ⟨?_, c.2⟩
    have : n ≠ 0 := by
      rintro rfl
      rw [show (0 : Int).toNat = 0 from rfl, h0] at h
      cases h
    omega
  · cases h
theorem lTa : LpsOK Try.prog Try.f5 [taP] := by
  refine .cons (fun st out h => viaV_ok (LTa.sound u1_ok (lps := []) (n := 100) (inner rfl) (fun _ => rfl) ?_) st out h) .nil
  rintro ⟨l, r, d, i, k⟩ ⟨h1, h2, h3, h4, h5, h6⟩
  simp only at h1 h2 h3 h4 h5 h6
  rw [rTa]
  refine ⟨fun c => ?_, fun c => ?_⟩
  · have c : i < (l.length : Int) := of_decide_eq_true c
    have hm := h6 _ (getD_mem (l := l) (0, 0, zeroR, [], 0) h1 c)
    have hd := drop_cons (l := l) (0, 0, zeroR, [], 0) h1 c
    simp only [zeroR] at hm hd
    generalize l.getD i.toNat (0, 0, (List.replicate 8 0, (0, 0, []), List.replicate 16 (0, 0)), [], 0) = C at *
    have ho := eta_eq hm.1
    have hs : (C.2.2.1.2.1.2.2.length : Int) < 17592186044416 := by have := hm.2; omega
    have next : ∀ k', heardL 0 k C = k' → fineK k' → LTa.Next ⟨l, r, d, i, k⟩ (some ⟨l, r, d, IntKind.i64.wrap (i + 1), k'⟩) := by
      intro k' e f1
      rw [i64_inc (by omega) (by omega)]
      have f0 : k'.getD 0 none = none := by
        rw [← e]; unfold heardL
        split
        · rename_i g; rw [getD_set_ne (by omega)]; exact h5
        · exact h5
      refine ⟨⟨by dsimp only; omega, by dsimp only; omega, h3, f1, f0, h6⟩, by simp only [LTa]; omega, ?_⟩
      simp only [LTa]
      rw [hd, List.foldl_cons, e]
    have hf := kn_fine h4 C.2.1
    have kq : ((knF k C.2.1).1.2.1.2.2.length : Int) < 17592186044416 := by have := hf.2; omega
    refine ⟨⟨h1, c⟩, ⟨h1, c⟩, kn_req h4, fun y hy => ?_⟩
    have hy := hy.trans (kn_eq h4)
    subst hy
    refine ⟨fun _ _ _ => ⟨⟨rfl, rfl⟩, hs⟩, fun g => ?_, fun g => ?_⟩
    · have hno : ¬ (0 ≤ C.2.1 ∧ C.2.1 < 8 ∧ C.2.1 ≠ 0 ∧ mayR C.2.2.1 = true) := by
        rintro ⟨g1, g2, g3, g4⟩
        rw [show mayR (tab 8 C.2.2.1.1 0, C.2.2.1.2.1, tab 16 C.2.2.1.2.2 (0, 0)) = mayR C.2.2.1 from congrArg mayR ho, g4] at g
        simp [g1, g2, g3] at g
      have hk : heardL 0 k C = k := by
        unfold heardL
        rw [if_neg hno]
      refine ⟨kn_req h4, fun z hz => ?_⟩
      have hz := hz.trans (kn_eq h4)
      subst hz
      refine ⟨⟨fun _ _ => ⟨⟨⟨rfl, rfl⟩, ⟨rfl, rfl⟩, kq, kq⟩, fun _ _ => ⟨⟨⟨rfl, rfl⟩, hs⟩, fun _ => ⟨⟨rfl, rfl⟩, ⟨rfl, rfl⟩, hs, kq⟩⟩⟩, fun _ _ => ⟨⟨⟨rfl, rfl⟩, hs⟩, fun _ => ⟨⟨rfl, rfl⟩, ⟨rfl, rfl⟩, hs, kq⟩⟩⟩, fun e => ?_, fun _ => ⟨by repeat' (first | exact trivial | rfl | apply And.intro), next _ hk h4⟩⟩
      exfalso
      have e : (bif (knF k C.2.1).2 then !(knF k C.2.1).2 || (!belowR (etaR (knF k C.2.1).1) (etaR (knF k C.2.1).1) || (knF k C.2.1).2 && (mayR (etaR C.2.2.1) && !belowR (etaR C.2.2.1) (etaR (knF k C.2.1).1))) else (knF k C.2.1).2 && (mayR (etaR C.2.2.1) && !belowR (etaR C.2.2.1) (etaR (knF k C.2.1).1))) = true := e
      rw [ho, eta_eq hf.1, below_self hf.1] at e
      cases hb : (knF k C.2.1).2 with
      | false => rw [hb] at e; simp at e
      | true =>
        have hh := knF_has h5 hb
        have hm' : mayR C.2.2.1 = false := by
          cases hm' : mayR C.2.2.1 with
          | false => rfl
          | true => exact absurd ⟨by omega, hh.2, by omega, hm'⟩ hno
        rw [hb, hm'] at e
        simp at e
    · have g' : 0 ≤ C.2.1 ∧ C.2.1 < 8 ∧ C.2.1 ≠ 0 ∧ mayR C.2.2.1 = true := by
        rw [show mayR (tab 8 C.2.2.1.1 0, C.2.2.1.2.1, tab 16 C.2.2.1.2.2 (0, 0)) = mayR C.2.2.1 from congrArg mayR ho] at g
        simp only [Bool.or_eq_false_iff, Bool.not_eq_false', decide_eq_true_eq, beq_eq_false_iff_ne] at g
        exact ⟨g.1, g.2.1, g.2.2.1, g.2.2.2⟩
      have hk : heardL 0 k C = k.set C.2.1.toNat (some (joinR (knF k C.2.1).1 C.2.2.1)) := by
        unfold heardL
        rw [if_pos g']
      refine ⟨kn_req h4, fun y hy => ?_⟩
      have hy := hy.trans (kn_eq h4)
      subst hy
      refine ⟨⟨⟨rfl, rfl⟩, ⟨rfl, rfl⟩, kq, hs⟩, fun z hz => ?_⟩
      have hz' : z = (joinR (etaR (knF k C.2.1).1) (etaR C.2.2.1), ()) := hz
      rw [ho, eta_eq hf.1] at hz'
      subst hz'
      have hj := joinR_ok (knF k C.2.1).1 C.2.2.1
      have hfj : fineR (etaR (joinR (knF k C.2.1).1 C.2.2.1)) := by rw [eta_eq hj]; exact fine_join hf hm
      have hfk : fineK (k.set C.2.1.toNat (some (etaR (joinR (knF k C.2.1).1 C.2.2.1)))) := fineK_set h4 _ hfj
      have hg : (k.set C.2.1.toNat (some (etaR (joinR (knF k C.2.1).1 C.2.2.1)))).getD C.2.1.toNat none = some (etaR (joinR (knF k C.2.1).1 C.2.2.1)) := getD_set_eq (by rw [h4.1]; omega)
      have hkn := knF_some (by omega) g'.2.1 hg
      have kq2 : ((knF (k.set C.2.1.toNat (some (etaR (joinR (knF k C.2.1).1 C.2.2.1)))) C.2.1).1.2.1.2.2.length : Int) < 17592186044416 := by have := (kn_fine hfk C.2.1).2; omega
      refine ⟨⟨g'.1, g'.2.1⟩, ⟨g'.1, g'.2.1⟩, kn_req hfk, fun z hz => ?_⟩
      have hz := hz.trans (kn_eq hfk)
      subst hz
      refine ⟨⟨fun _ _ => ⟨⟨⟨rfl, rfl⟩, ⟨rfl, rfl⟩, kq, kq2⟩, fun _ _ => ⟨⟨⟨rfl, rfl⟩, hs⟩, fun _ => ⟨⟨rfl, rfl⟩, ⟨rfl, rfl⟩, hs, kq2⟩⟩⟩, fun _ _ => ⟨⟨⟨rfl, rfl⟩, hs⟩, fun _ => ⟨⟨rfl, rfl⟩, ⟨rfl, rfl⟩, hs, kq2⟩⟩⟩, fun e => ?_, fun _ => ⟨by repeat' (first | exact trivial | rfl | apply And.intro), next _ (hk.trans (congrArg (fun z => k.set C.2.1.toNat (some z)) (eta_eq hj).symm)) hfk⟩⟩
      exfalso
      rw [hkn] at e
      have e : (bif (knF k C.2.1).2 then !true || (!belowR (etaR (knF k C.2.1).1) (etaR (etaR (joinR (knF k C.2.1).1 C.2.2.1))) || true && (mayR (etaR C.2.2.1) && !belowR (etaR C.2.2.1) (etaR (etaR (joinR (knF k C.2.1).1 C.2.2.1))))) else true && (mayR (etaR C.2.2.1) && !belowR (etaR C.2.2.1) (etaR (etaR (joinR (knF k C.2.1).1 C.2.2.1))))) = true := e
      rw [eta_eq hj, eta_eq hj, ho, eta_eq hf.1, below_join _ _ hf.1, below_join' _ _ hm.1] at e
      cases hb : (knF k C.2.1).2 <;> rw [hb] at e <;> simp at e
  · have c : ¬ i < (l.length : Int) := fun e => by simp [e] at c
    rw [drop_end c]
    exact ⟨by repeat' (first | exact trivial | rfl | apply And.intro), trivial⟩
theorem invT_len {b : Int → Bool} {i : Int} {o t : List Int} (h : invT b i o t) : (o.length : Int) < 1000000 ∧ t.length = 4 := by
  obtain ⟨q, p, hp, s, hs, hi, ho, hl, ht⟩ := h
  refine ⟨?_, hl⟩
  have : p.length = 3 := by
    simp only [permT, List.mem_cons, List.not_mem_nil, or_false] at hp
    rcases hp with rfl | rfl | rfl | rfl | rfl | rfl <;> rfl
  rw [ho]
  split
  · simp
  · rw [List.length_drop]; omega
theorem lTb : LpsOK Try.prog Try.f5 [taP, tbP] := by
  refine .cons (lTa 0 _ rfl) (.cons (fun st out h => viaV_ok (LTb.sound u1_ok (lps := []) (n := 100) (inner rfl) (fun _ => rfl) ?_) st out h) .nil)
  rintro ⟨r, d, i, k, o, t⟩ ⟨h1, h2, h3, h4, h5, h6⟩
  simp only at h1 h2 h3 h4 h5 h6
  obtain ⟨n, o', e, n1, n2, s1, s2⟩ := invT_step (d.getD i.toNat 0) h6
  rw [rTb, e]
  refine ⟨fun c => ?_, fun c => ?_⟩
  · have c : i < (d.length : Int) := of_decide_eq_true c
    have hd := drop_cons (l := d) 0 h1 c
    obtain ⟨hol, htl⟩ := invT_len h6
    have hr : (r.2.1.2.2.length : Int) < 17592186044416 := by have := h5.2; omega
    have hf := kn_fine h4 n
    have kq : ((knF k n).1.2.1.2.2.length : Int) < 17592186044416 := by have := hf.2; omega
    have next : ∀ t', stepT k r (o, t) (d.getD i.toNat 0) = (o', t') → invT (belT k r) (i + 1) o' t' → LTb.Next ⟨r, d, i, k, o, t⟩ (some ⟨r, d, IntKind.i64.wrap (i + 1), k, o', t'⟩) := by
      intro t' g1 g2
      rw [i64_inc (by omega) (by omega)]
      refine ⟨⟨by dsimp only; omega, by dsimp only; omega, h3, h4, h5, g2⟩, by simp only [LTb]; omega, ?_⟩
      simp only [LTb]
      rw [hd, List.foldl_cons, g1]
    have hb : ((knF k n).2 && belowR (etaR r) (etaR (knF k n).1)) = belT k r n := by rw [eta_eq h5.1, eta_eq hf.1]; rfl
    have ht : 0 ≤ i.tdiv 3 ∧ i.tdiv 3 ≤ 40 := by rw [Int.tdiv_eq_ediv_of_nonneg h1]; omega
    refine ⟨⟨h1, c⟩, ⟨h1, c⟩, trivial, ⟨hol, by decide⟩, ⟨fun a => ⟨fun _ => by repeat' (first | exact trivial | rfl | apply And.intro), fun b => ⟨⟨by omega, by omega⟩, ⟨by omega, by omega⟩, fun _ => by repeat' (first | exact trivial | rfl | apply And.intro), fun c => ⟨⟨by omega, by omega⟩, ⟨by omega, by omega⟩, c, notNone c, ⟨⟨rfl, rfl⟩, ⟨rfl, rfl⟩, getZ h4 (by omega) (by omega), getZ h4 (by omega) (by omega)⟩, by repeat' (first | exact trivial | rfl | apply And.intro)⟩⟩⟩, fun _ => by repeat' (first | exact trivial | rfl | apply And.intro)⟩, fun y hy => ?_⟩
    have hy := hy.trans (kn_eq h4)
    subst hy
    refine ⟨fun _ => ⟨⟨rfl, rfl⟩, ⟨rfl, rfl⟩, hr, kq⟩, fun g => ⟨by repeat' (first | exact trivial | rfl | apply And.intro), ?_⟩, fun g => ⟨fun q => ?_, fun _ => ⟨trivial, fun q => ?_, fun _ => ⟨⟨by omega, by omega⟩, ⟨by omega, by omega⟩, ⟨by omega, by omega⟩, ⟨by omega, by omega⟩, ⟨by omega, by omega⟩, ⟨by omega, by omega⟩, by decide, fun q => ?_, fun _ => ⟨by repeat' (first | exact trivial | rfl | apply And.intro), ?_⟩⟩⟩⟩⟩
    · have g : belT k r n = true := hb.symm.trans g
      refine next t ?_ (s1 g)
      unfold stepT
      rw [e, if_pos g]
    · exfalso
      have q : n = -1 := eq_of_beq q
      omega
    · exfalso
      simp at q
      omega
    · exfalso
      have g : belT k r n = false := hb.symm.trans g
      have s3 := (s2 g).1
      have q := of_decide_eq_true q
      rw [getD_set_eq (by omega), s3, IntWalk.i64_in (i.tdiv 3) (by omega)] at q
      omega
    · have g : belT k r n = false := hb.symm.trans g
      have s3 := s2 g
      have hw : IntKind.i64.wrap (t.getD n.toNat 0 + 1) = t.getD n.toNat 0 + 1 := IntWalk.i64_in _ (by rw [s3.1]; omega)
      refine next _ ?_ (by rw [hw]; exact s3.2)
      unfold stepT
      rw [e, if_neg (by rw [g]; decide), hw]
  · have c : ¬ i < (d.length : Int) := fun e => by simp [e] at c
    rw [drop_end c]
    exact ⟨by repeat' (first | exact trivial | rfl | apply And.intro), trivial⟩
end Pl
namespace Pl
open Go Sx Go.Proofs Go.RowKit
theorem fineK_fold {self : Int} : ∀ (l : List CallD) (k : KnD), fineK k → (∀ c ∈ l, fineR c.2.2.1) → fineK (l.foldl (heardL self) k)
  | [], _, h, _ => h
  | c :: r, k, h, hl => fineK_fold r _ (heardL_fine h (hl c List.mem_cons_self)) fun c hc => hl c (List.mem_cons_of_mem _ hc)
theorem tells_ok : PureOK Try.prog 5 [calls, Ring, u64s] [.bool] (fun x => (∀ c ∈ (x.1 : List CallD), okR c.2.2.1) ∧ okR (x.2.1 : RingD)) (fun _ => (true, ())) :=
  fn_pure (E := u1) (n := 100) u1_ok Try.func5 (by kernel_rfl) lTb fun x hx => by
    obtain ⟨l, r, d, _⟩ : List CallD × RingD × List Int × Unit := x
    obtain ⟨hx1, hx2⟩ : (∀ c ∈ l, okR c.2.2.1) ∧ okR r := hx
    refine Tree.all_eq (tGt l r d) ?_
    refine ⟨trivial, fun _ => ⟨trivial, rfl⟩, fun g => ⟨fun _ => ⟨trivial, rfl⟩, fun g2 => ⟨fun _ => ⟨trivial, rfl⟩, fun g3 => ?_⟩⟩⟩
    have g : lgF l 0 = true := by simpa using g
    obtain ⟨f1, f2⟩ := lgF_all l 0 g
    have f2 := f2 (by omega) (by omega)
    have hf : ∀ c ∈ l, fineR c.2.2.1 := fun c hc => ⟨hx1 c hc, f1 c hc⟩
    have g2 : ¬ (r.2.1.2.2.length : Int) > 100 := of_decide_eq_false g2
    have g3 : ¬ (d.length : Int) > 40 := of_decide_eq_false g3
    have hr : (r.2.1.2.2.length : Int) < 17592186044416 := by omega
    have he := eta_eq hx2
    have hR : fineR (etaR r) := by rw [he]; exact ⟨hx2, by omega⟩
    have hK : fineK (l.foldl (heardL 0) (List.replicate 8 none)) := fineK_fold l _ fineK_zero hf
    refine ⟨⟨⟨rfl, rfl⟩, hr⟩, fun _ => ⟨trivial, rfl⟩, fun _ => ⟨⟨by omega, by omega, by omega, fineK_zero, rfl, hf⟩, by repeat' (first | exact trivial | rfl | apply And.intro), ⟨by omega, by omega, by omega, hK, hR, invT_zero _⟩, by repeat' (first | exact trivial | rfl | apply And.intro), ?_⟩⟩
    have hS := invT_fold (k := l.foldl (heardL 0) (List.replicate 8 none)) (r := etaR r) d 0 ([], List.replicate 4 0) (invT_zero _)
    generalize d.foldl (stepT (l.foldl (heardL 0) (List.replicate 8 none)) (etaR r)) ([], List.replicate 4 0) = S at *
    generalize l.foldl (heardL 0) (List.replicate 8 none : List (Option RingD)) = K at *
    have kq : ∀ (z : Int), ((knF K z).1.2.1.2.2.length : Int) < 17592186044416 := fun z => by have := (kn_fine hK z).2; omega
    have hb : ∀ p, belT K (etaR r) p = ((knF K p).2 && belowR (etaR (etaR r)) (etaR (knF K p).1)) := fun p => by rw [eta_eq hR.1, eta_eq (kn_fine hK p).1]; rfl
    have hw : 0 ≤ (d.length : Int).tdiv 3 ∧ (d.length : Int).tdiv 3 ≤ 40 := by rw [Int.tdiv_eq_ediv_of_nonneg (by omega)]; omega
    have hA : ∀ p ∈ ([1, 2, 3] : List Int), (knF K p).2 = true → belowR (etaR (etaR r)) (etaR (knF K p).1) = true → (S.2.getD p.toNat 0 != 0) = true → False := fun p hp a b q => by
      have := (invT_end hS p hp).1 (by rw [hb, a, b]; rfl)
      rw [this] at q; simp at q
    have hN : ∀ p ∈ ([1, 2, 3] : List Int), belT K (etaR r) p = false → (decide (S.2.getD p.toNat 0 < IntKind.i64.wrap ((d.length : Int).tdiv 3)) || decide (S.2.getD p.toNat 0 > IntKind.i64.wrap (IntKind.i64.wrap ((d.length : Int).tdiv 3) + 1))) = true → False := fun p hp b q => by
      have h := (invT_end hS p hp).2 b
      rw [Int.zero_add] at h
      rw [IntWalk.i64_in ((d.length : Int).tdiv 3) (by omega), IntWalk.i64_in _ (by omega), Bool.or_eq_true] at q
      rcases q with q | q <;> have q := of_decide_eq_true q <;> omega
    have hB : ∀ p ∈ ([1, 2, 3] : List Int), (knF K p).2 = true → belowR (etaR (etaR r)) (etaR (knF K p).1) = false → (decide (S.2.getD p.toNat 0 < IntKind.i64.wrap ((d.length : Int).tdiv 3)) || decide (S.2.getD p.toNat 0 > IntKind.i64.wrap (IntKind.i64.wrap ((d.length : Int).tdiv 3) + 1))) = true → False := fun p hp a b q => hN p hp (by rw [hb, a, b]; rfl) q
    have hC : ∀ p ∈ ([1, 2, 3] : List Int), (knF K p).2 = false → (decide (S.2.getD p.toNat 0 < IntKind.i64.wrap ((d.length : Int).tdiv 3)) || decide (S.2.getD p.toNat 0 > IntKind.i64.wrap (IntKind.i64.wrap ((d.length : Int).tdiv 3) + 1))) = true → False := fun p hp a q => hN p hp (by rw [hb, a]; rfl) q
    all_goals
      refine ⟨⟨trivial, fun _ => by repeat' (first | exact trivial | rfl | apply And.intro), fun c => ⟨trivial, c, notNone c, ⟨⟨rfl, rfl⟩, ⟨rfl, rfl⟩, getZ (i := 1) hK (by decide) (by decide), getZ (i := 1) hK (by decide) (by decide)⟩, by repeat' (first | exact trivial | rfl | apply And.intro)⟩⟩, fun y hy => ?_⟩
      have hy := hy.trans (kn_eq (i := 1) hK)
      subst hy
      refine ⟨by decide, fun a => ⟨trivial, ⟨⟨rfl, rfl⟩, ⟨rfl, rfl⟩, hr, kq 1⟩, fun b => ⟨trivial, fun q => (hA 1 (by decide) a b q).elim, fun _ => ?_⟩, fun b => ⟨⟨trivial, fun _ => trivial⟩, fun q => (hB 1 (by decide) a b q).elim, fun _ => ?_⟩⟩, fun a => ⟨⟨trivial, fun _ => trivial⟩, fun q => (hC 1 (by decide) a q).elim, fun _ => ?_⟩⟩
    all_goals
      refine ⟨⟨trivial, fun _ => by repeat' (first | exact trivial | rfl | apply And.intro), fun c => ⟨trivial, c, notNone c, ⟨⟨rfl, rfl⟩, ⟨rfl, rfl⟩, getZ (i := 2) hK (by decide) (by decide), getZ (i := 2) hK (by decide) (by decide)⟩, by repeat' (first | exact trivial | rfl | apply And.intro)⟩⟩, fun y hy => ?_⟩
      have hy := hy.trans (kn_eq (i := 2) hK)
      subst hy
      refine ⟨by decide, fun a => ⟨trivial, ⟨⟨rfl, rfl⟩, ⟨rfl, rfl⟩, hr, kq 2⟩, fun b => ⟨trivial, fun q => (hA 2 (by decide) a b q).elim, fun _ => ?_⟩, fun b => ⟨⟨trivial, fun _ => trivial⟩, fun q => (hB 2 (by decide) a b q).elim, fun _ => ?_⟩⟩, fun a => ⟨⟨trivial, fun _ => trivial⟩, fun q => (hC 2 (by decide) a q).elim, fun _ => ?_⟩⟩
    all_goals
      refine ⟨⟨trivial, fun _ => by repeat' (first | exact trivial | rfl | apply And.intro), fun c => ⟨trivial, c, notNone c, ⟨⟨rfl, rfl⟩, ⟨rfl, rfl⟩, getZ (i := 3) hK (by decide) (by decide), getZ (i := 3) hK (by decide) (by decide)⟩, by repeat' (first | exact trivial | rfl | apply And.intro)⟩⟩, fun y hy => ?_⟩
      have hy := hy.trans (kn_eq (i := 3) hK)
      subst hy
      refine ⟨by decide, fun a => ⟨trivial, ⟨⟨rfl, rfl⟩, ⟨rfl, rfl⟩, hr, kq 3⟩, fun b => ⟨trivial, fun q => (hA 3 (by decide) a b q).elim, fun _ => ?_⟩, fun b => ⟨⟨trivial, fun _ => trivial⟩, fun q => (hB 3 (by decide) a b q).elim, fun _ => ?_⟩⟩, fun a => ⟨⟨trivial, fun _ => trivial⟩, fun q => (hC 3 (by decide) a q).elim, fun _ => ?_⟩⟩
    all_goals exact ⟨trivial, rfl⟩
end Pl
