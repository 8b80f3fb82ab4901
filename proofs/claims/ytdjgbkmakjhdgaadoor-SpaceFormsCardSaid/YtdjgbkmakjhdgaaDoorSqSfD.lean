import Derived.Test.YtdjgbkmakjhdgaaDoorSqSfC
namespace Pl
open Go Sx Go.Proofs Go.RowKit
theorem lUr : LpsOK Tryd.prog Tryd.f12 [(0, LUr.sp)] := by
  refine .cons (LUr.sound F2_ok (lps := []) (n := 100) (inner rfl) (fun _ => rfl) ?_) .nil
  rintro ⟨m, c, i, b, le, mo⟩ ⟨h1, h2, h3, h4⟩
  simp only at h1 h2 h3 h4
  have h3' : (m.length : Int) < 4611686018427387904 := h3
  rw [rUr]
  simp only [all_leaf, all_fork, all_req, conjP, true_and, and_true, decide_eq_true_eq, decide_eq_false_iff_not]
  refine ⟨fun g => ⟨⟨h1, g⟩, ⟨h1, g⟩, fun d => ?_, fun d => ?_⟩, fun g => ?_⟩
  · have hd := drop_cons (l := m) 0 h1 g
    have hn : nodeB (m.getD i.toNat 0) = false := by
      unfold nodeB
      cases e1 : decide (m.getD i.toNat 0 ≥ 0) <;> cases e2 : decide (m.getD i.toNat 0 < 8) <;> simp_all <;> omega
    rw [i64_inc (by omega) (by omega)]
    refine ⟨⟨by dsimp only; omega, by dsimp only; omega, h3, h4⟩, by simp only [LUr]; omega, ?_⟩
    simp only [LUr]; rw [hd, unG, hn, if_neg (by decide)]
  · have hd := drop_cons (l := m) 0 h1 g
    have hn : nodeB (m.getD i.toNat 0) = true := by
      unfold nodeB
      cases e1 : decide (m.getD i.toNat 0 ≥ 0) <;> cases e2 : decide (m.getD i.toNat 0 < 8) <;> simp_all <;> omega
    have hn' := nodeB_iff.1 hn
    have b1 : 0 ≤ m.getD i.toNat 0 ∧ m.getD i.toNat 0 < (c.length : Int) := ⟨hn'.1, by omega⟩
    have bb : 0 ≤ m.getD i.toNat 0 ∧ m.getD i.toNat 0 < (c.length : Int) ∧ True := ⟨hn'.1, by omega, trivial⟩
    rw [i64_inc (by omega) (by omega)]
    refine ⟨fun _ => ⟨b1, b1⟩, fun d1 => ⟨b1, b1, fun _ => ⟨b1, b1⟩, fun d2 => ⟨b1, b1, ?_⟩, fun d2 => ?_⟩, fun d1 => ⟨fun _ => ⟨b1, b1⟩, fun d2 => ⟨b1, b1, ?_⟩, fun d2 => ?_⟩⟩
    all_goals refine ⟨⟨by dsimp only; omega, by dsimp only; omega, h3, h4⟩, by simp only [LUr]; omega, ?_⟩
    all_goals simp only [LUr]; rw [hd, unG, hn, if_pos rfl, d1, d2]; rfl
  · rw [drop_end g, unG]
    exact ⟨⟨rfl, rfl⟩, trivial⟩
theorem unG_t (c : List Int) : ∀ (m : List Int) (mo le : Int), mo ≤ (unG c m true mo le).1 ∧ (unG c m true mo le).2 ≤ le ∧ (∀ n ∈ m, nodeB n = true → c.getD n.toNat 0 ≤ (unG c m true mo le).1 ∧ (unG c m true mo le).2 ≤ c.getD n.toNat 0) ∧ ((unG c m true mo le).1 = mo ∨ ∃ n ∈ m, nodeB n = true ∧ c.getD n.toNat 0 = (unG c m true mo le).1) ∧ ((unG c m true mo le).2 = le ∨ ∃ n ∈ m, nodeB n = true ∧ c.getD n.toNat 0 = (unG c m true mo le).2)
  | [], mo, le => ⟨Int.le_refl _, Int.le_refl _, fun _ h => (by cases h), .inl rfl, .inl rfl⟩
  | x :: r, mo, le => by
    by_cases h : nodeB x = true
    · rw [unG, if_pos h]
      simp only [Bool.not_true, Bool.false_or, decide_eq_true_eq]
      obtain ⟨a1, a2, a3, a4, a5⟩ := unG_t c r (if c.getD x.toNat 0 > mo then c.getD x.toNat 0 else mo) (if c.getD x.toNat 0 < le then c.getD x.toNat 0 else le)
      generalize unG c r true (if c.getD x.toNat 0 > mo then c.getD x.toNat 0 else mo) (if c.getD x.toNat 0 < le then c.getD x.toNat 0 else le) = z at *
      refine ⟨?_, ?_, fun n hn hb => ?_, ?_, ?_⟩
      · split at a1 <;> omega
      · split at a2 <;> omega
      · rcases List.mem_cons.1 hn with e | e
        · subst e
          constructor
          · split at a1 <;> omega
          · split at a2 <;> omega
        · exact a3 n e hb
      · rcases a4 with e | ⟨n, hn, hb, e⟩
        · split at e
          · exact .inr ⟨x, List.mem_cons_self, h, e.symm⟩
          · exact .inl e
        · exact .inr ⟨n, List.mem_cons_of_mem _ hn, hb, e⟩
      · rcases a5 with e | ⟨n, hn, hb, e⟩
        · split at e
          · exact .inr ⟨x, List.mem_cons_self, h, e.symm⟩
          · exact .inl e
        · exact .inr ⟨n, List.mem_cons_of_mem _ hn, hb, e⟩
    · rw [unG, if_neg h]
      obtain ⟨a1, a2, a3, a4, a5⟩ := unG_t c r mo le
      refine ⟨a1, a2, fun n hn hb => ?_, ?_, ?_⟩
      · rcases List.mem_cons.1 hn with e | e
        · subst e; exact absurd hb h
        · exact a3 n e hb
      · exact a4.imp id fun ⟨n, hn, hb, e⟩ => ⟨n, List.mem_cons_of_mem _ hn, hb, e⟩
      · exact a5.imp id fun ⟨n, hn, hb, e⟩ => ⟨n, List.mem_cons_of_mem _ hn, hb, e⟩
theorem unG_f (c : List Int) : ∀ (m : List Int), ((∀ n ∈ m, nodeB n = false) ∧ unG c m false 0 0 = (0, 0)) ∨ ((∀ n ∈ m, nodeB n = true → c.getD n.toNat 0 ≤ (unG c m false 0 0).1 ∧ (unG c m false 0 0).2 ≤ c.getD n.toNat 0) ∧ (∃ n ∈ m, nodeB n = true ∧ c.getD n.toNat 0 = (unG c m false 0 0).1) ∧ (∃ n ∈ m, nodeB n = true ∧ c.getD n.toNat 0 = (unG c m false 0 0).2))
  | [] => .inl ⟨fun _ h => (by cases h), rfl⟩
  | x :: r => by
    by_cases h : nodeB x = true
    · refine .inr ?_
      rw [unG, if_pos h]
      simp only [Bool.not_false, Bool.true_or, if_true]
      obtain ⟨a1, a2, a3, a4, a5⟩ := unG_t c r (c.getD x.toNat 0) (c.getD x.toNat 0)
      refine ⟨fun n hn hb => ?_, ?_, ?_⟩
      · rcases List.mem_cons.1 hn with e | e
        · subst e; exact ⟨a1, a2⟩
        · exact a3 n e hb
      · rcases a4 with e | ⟨n, hn, hb, e⟩
        · exact ⟨x, List.mem_cons_self, h, e.symm⟩
        · exact ⟨n, List.mem_cons_of_mem _ hn, hb, e⟩
      · rcases a5 with e | ⟨n, hn, hb, e⟩
        · exact ⟨x, List.mem_cons_self, h, e.symm⟩
        · exact ⟨n, List.mem_cons_of_mem _ hn, hb, e⟩
    · rw [unG, if_neg h]
      rcases unG_f c r with ⟨g1, g2⟩ | ⟨g1, ⟨n1, k1, k2, k3⟩, n2, j1, j2, j3⟩
      · refine .inl ⟨fun n hn => ?_, g2⟩
        rcases List.mem_cons.1 hn with e | e
        · subst e; simpa using h
        · exact g1 n e
      · refine .inr ⟨fun n hn hb => ?_, ⟨n1, List.mem_cons_of_mem _ k1, k2, k3⟩, n2, List.mem_cons_of_mem _ j1, j2, j3⟩
        rcases List.mem_cons.1 hn with e | e
        · subst e; exact absurd hb h
        · exact g1 n e hb
theorem unF_iff (m : List Int) (x : Int) : ∀ (c : List Int) (i : Nat), x ∈ unF m c (i : Int) ↔ ∃ k : Nat, k < c.length ∧ m.contains ((i + k : Nat) : Int) = true ∧ c.getD k 0 = x
  | [], i => ⟨fun h => (by cases h), fun ⟨k, h, _⟩ => absurd h (by simp)⟩
  | y :: r, i => by
    have hr := unF_iff m x r (i + 1)
    rw [show (((i + 1 : Nat)) : Int) = (i : Int) + 1 by omega] at hr
    have hR : (∃ k : Nat, k < (y :: r).length ∧ m.contains ((i + k : Nat) : Int) = true ∧ (y :: r).getD k 0 = x) ↔ (m.contains (i : Int) = true ∧ y = x) ∨ ∃ k : Nat, k < r.length ∧ m.contains ((i + 1 + k : Nat) : Int) = true ∧ r.getD k 0 = x := by
      constructor
      · rintro ⟨k, h1, h2, h3⟩
        cases k with
        | zero => exact .inl ⟨h2, h3⟩
        | succ k => exact .inr ⟨k, by simpa using h1, by rw [show i + 1 + k = i + (k + 1) by omega]; exact h2, by simpa using h3⟩
      · rintro (⟨h1, h2⟩ | ⟨k, h1, h2, h3⟩)
        · exact ⟨0, by simp, h1, h2⟩
        · exact ⟨k + 1, by simpa using h1, by rw [show i + (k + 1) = i + 1 + k by omega]; exact h2, by simpa using h3⟩
    rw [hR, unF]
    by_cases c : m.contains (i : Int) = true
    · rw [if_pos c, List.mem_cons, hr]
      exact or_congr ⟨fun e => ⟨c, e.symm⟩, fun e => e.2.symm⟩ Iff.rfl
    · rw [if_neg c, hr]
      exact ⟨.inr, fun h => h.elim (fun g => absurd g.1 c) id⟩
theorem mxF_ge : ∀ (l : List Int) (v : Int), v ≤ mxF l v ∧ ∀ x ∈ l, x ≤ mxF l v
  | [], v => ⟨Int.le_refl _, fun _ h => (by cases h)⟩
  | y :: r, v => by
    rw [mxF]
    obtain ⟨a, b⟩ := mxF_ge r (if y > v then y else v)
    generalize mxF r (if y > v then y else v) = z at *
    refine ⟨by split at a <;> omega, fun x hx => ?_⟩
    rcases List.mem_cons.1 hx with e | e
    · split at a <;> omega
    · exact b x e
theorem mnF_le : ∀ (l : List Int) (v : Int), mnF l v ≤ v ∧ ∀ x ∈ l, mnF l v ≤ x
  | [], v => ⟨Int.le_refl _, fun _ h => (by cases h)⟩
  | y :: r, v => by
    rw [mnF]
    obtain ⟨a, b⟩ := mnF_le r (if y < v then y else v)
    generalize mnF r (if y < v then y else v) = z at *
    refine ⟨by split at a <;> omega, fun x hx => ?_⟩
    rcases List.mem_cons.1 hx with e | e
    · split at a <;> omega
    · exact b x e
theorem maxL_ge {l : List Int} {x : Int} (h : x ∈ l) : x ≤ maxL l := by
  cases l with
  | nil => cases h
  | cons y r =>
    obtain ⟨a, b⟩ := mxF_ge r y
    rcases List.mem_cons.1 h with e | e
    · rw [e]; exact a
    · exact b x e
theorem minL_le {l : List Int} {x : Int} (h : x ∈ l) : minL l ≤ x := by
  cases l with
  | nil => cases h
  | cons y r =>
    obtain ⟨a, b⟩ := mnF_le r y
    rcases List.mem_cons.1 h with e | e
    · rw [e]; exact a
    · exact b x e
theorem uneven_g (l m : List Int) : unevenS l m = (unG (countsS l) m false 0 0).1 - (unG (countsS l) m false 0 0).2 := by
  have hc := counts_len l
  have hin : ∀ x, x ∈ unF m (countsS l) 0 ↔ ∃ n ∈ m, nodeB n = true ∧ (countsS l).getD n.toNat 0 = x := fun x => by
    have := unF_iff m x (countsS l) 0
    rw [show (((0 : Nat)) : Int) = 0 from rfl] at this
    rw [this]
    constructor
    · rintro ⟨k, h1, h2, h3⟩
      rw [Nat.zero_add] at h2
      exact ⟨(k : Int), by simpa using h2, nodeB_iff.2 ⟨by omega, by omega⟩, by rw [Int.toNat_natCast]; exact h3⟩
    · rintro ⟨n, h1, h2, h3⟩
      have := nodeB_iff.1 h2
      exact ⟨n.toNat, by omega, by rw [Nat.zero_add, Int.toNat_of_nonneg this.1]; simpa using h1, h3⟩
  rcases unG_f (countsS l) m with ⟨g1, g2⟩ | ⟨g1, k, j⟩
  · have : unF m (countsS l) 0 = [] := List.eq_nil_iff_forall_not_mem.2 fun x hx => by
      obtain ⟨n, h1, h2, h3⟩ := (hin x).1 hx
      rw [g1 n h1] at h2; cases h2
    unfold unevenS
    rw [this, g2]; decide
  · have m1 := (hin _).2 k
    have m2 := (hin _).2 j
    have hz : (unF m (countsS l) 0).length ≠ 0 := fun e => by
      rw [List.eq_nil_of_length_eq_zero e] at m1; cases m1
    obtain ⟨n, a1, a2, a3⟩ := (hin _).1 (maxL_mem hz)
    obtain ⟨n', b1, b2, b3⟩ := (hin _).1 (minL_mem hz)
    have c1 := maxL_ge m1
    have c2 := minL_le m2
    have d1 := (g1 n a1 a2).1
    have d2 := (g1 n' b1 b2).2
    unfold unevenS
    rw [if_neg hz]
    omega
theorem runeven_ok : PureOK Tryd.prog 12 [ints, ints] [i64] (fun x => (List.length (α := Int) x.2.1 : Int) < big) (fun x => (unevenS x.1 x.2.1, ())) :=
  fn_pure (E := F2) (n := 100) F2_ok Tryd.func12 (by kernel_rfl) lUr fun x h => by
    obtain ⟨l, m, _⟩ : List Int × List Int × Unit := x
    have h : (m.length : Int) < 4611686018427387904 := h
    refine Tree.all_eq (tUr l m) ?_
    show Tree.all (α := Int × Unit) _ (fun y => y = (unevenS l m, ()))
    have hc := counts_len l
    simp only [all_leaf, all_fork, all_req, true_and, and_true]
    refine ⟨⟨by omega, by omega, h, hc⟩, ?_⟩
    rw [uneven_g, IntWalk.i64_in]
    have hr : ∀ n : Int, nodeB n = true → 0 ≤ (countsS l).getD n.toNat 0 ∧ (countsS l).getD n.toNat 0 ≤ 16 := fun n hn => by
      have := nodeB_iff.1 hn
      exact counts_range l _ (by rw [getD_get 0 (by omega)]; exact List.getElem_mem _)
    rcases unG_f (countsS l) m with ⟨g1, g2⟩ | ⟨g1, ⟨n1, k1, k2, k3⟩, n2, j1, j2, j3⟩
    · rw [g2]; decide
    · have := hr n1 k2
      have := hr n2 j2
      omega
noncomputable abbrev F3 : Ex := mkExM Tryd.prog [KAw, KsT, KsN, KsL, KsU, KsC, KrN, KrC, (10, pureSp [ints, i64] [i64] (fun _ => True) (fun x => (leastS x.1 x.2.1, ()))), (12, pureSp [ints, ints] [i64] (fun x => (List.length (α := Int) x.2.1 : Int) < big) (fun x => (unevenS x.1 x.2.1, ()))), (14, pureSp [ints] [.str] (fun _ => True) (fun x => (txtB x.1, ())))]
theorem F3_ok : F3.Sound := mkExM_sound ⟨pureSp_ok aw_ok, pureSp_ok text_ok, pureSp_ok next_ok, pureSp_ok least_ok, pureSp_ok uneven_ok, pureSp_ok counts_ok, pureSp_ok rnext_ok, pureSp_ok rcounts_ok, pureSp_ok rleast_ok, pureSp_ok runeven_ok, pureSp_ok rtext_ok, trivial⟩
end Pl
