import Derived.Test.YtenjakhegeclhaaClChS
import Derived.Test.YtenjakhegeclhaaClCi2
namespace Pl
open Go Sx Go.Proofs Go.RowKit
theorem lSw1 : LpsOK Try.prog Try.f9 [(1, LSw1.sp)] := by
  refine .cons (LSw1.sound W4_ok (lps := []) (n := 100) (inner rfl) (fun _ => rfl) ?_) .nil
  rintro ⟨l0, l1, l3, i2, n0, i1, b2⟩ ⟨h1, h2, h3⟩
  simp only at h1 h2 h3
  rw [rSw1]
  simp only [all_leaf, all_fork, all_req, conjP, and_true, true_and, decide_eq_true_eq, decide_eq_false_iff_not]
  refine ⟨fun c => ⟨⟨h1, c⟩, ⟨h1, c⟩, ?_⟩, fun c => ⟨?_, trivial⟩⟩
  · rw [i64_inc (by omega) (by omega)]
    refine ⟨⟨by dsimp only; omega, by dsimp only; omega, h3⟩, by simp only [LSw1]; omega, ?_⟩
    simp only [LSw1]
    have : (b2 || l1.getD i1.toNat 0 == n0 || (l1.drop (i1 + 1).toNat).contains n0) = (b2 || (l1.drop i1.toNat).contains n0) := by
      rw [drop_cons (l := l1) 0 h1 c, List.contains_cons, Bool.or_assoc]
      congr 2
      exact Bool.beq_comm ..
    rw [this]
  · rw [drop_end c]; simp
theorem lSw : LpsOK Try.prog Try.f9 [(0, viaP [(6, i64)] LSw0.sp)] := by
  refine .cons (viaP_ok (LSw0.sound W4_ok (lps := [(1, LSw1.sp)]) (n := 100) (lSw1.within (by kernel_rfl)) (fun _ => rfl) ?_)) .nil
  rintro ⟨l0, l1, i2, l3⟩ ⟨h1, h2, h3, h4, h5⟩
  simp only at h1 h2 h3 h4 h5
  rw [rSw0]
  simp only [all_leaf, all_fork, all_req, conjP, and_true, true_and, decide_eq_true_eq, decide_eq_false_iff_not]
  refine ⟨fun c => ⟨⟨h1, c⟩, ⟨h1, c⟩, ⟨by omega, by omega, h5⟩, fun d => ⟨by omega, ?_⟩, fun d => ?_⟩, fun c => ⟨?_, trivial⟩⟩
  · rw [i64_inc (by omega) (by omega)]
    refine ⟨⟨by dsimp only; omega, by dsimp only; omega, h3, by simp only [List.length_append, List.length_cons, List.length_nil]; omega, h5⟩, by simp only [LSw0]; omega, ?_⟩
    simp only [LSw0]
    have : l3 ++ diffL l1 (l0.drop i2.toNat) = l3 ++ [l0.getD i2.toNat 0] ++ diffL l1 (l0.drop (i2 + 1).toNat) := by
      rw [drop_cons (l := l0) 0 h1 c]
      unfold diffL
      rw [List.filter_cons, if_pos d]; simp
    rw [this]
  · rw [i64_inc (by omega) (by omega)]
    refine ⟨⟨by dsimp only; omega, by dsimp only; omega, h3, by dsimp only; omega, h5⟩, by simp only [LSw0]; omega, ?_⟩
    simp only [LSw0]
    have : diffL l1 (l0.drop i2.toNat) = diffL l1 (l0.drop (i2 + 1).toNat) := by
      rw [drop_cons (l := l0) 0 h1 c]
      unfold diffL
      rw [List.filter_cons, if_neg (by rw [d]; decide)]
    rw [this]
  · rw [drop_end c]; simp [diffL]
theorem swaps_t (a b : List Int) : (fnT W4 [(0, viaP [(6, i64)] LSw0.sp)] 100 Try.f9 [ints, ints] [.bool] (a, b, ())).all fun y => y = (true, ()) := by
  refine Tree.all_eq (tSw a b) ?_
  show Tree.all (α := Bool × Unit) _ Yes
  have na := memL_len a
  have nb := memL_len b
  have hN : [] ++ diffL (memL a) (List.drop 0 (memL b)) = diffL (memL a) (memL b) := rfl
  rw [hN]
  have hy : (diffL (memL a) (memL b)).length ≤ (memL b).length := List.length_filter_le _ _
  have hmy : memL (diffL (memL a) (memL b)) = diffL (memL a) (memL b) → True := fun _ => trivial
  have hin : ∀ v, v ∈ memL (diffL (memL a) (memL b)) → v ∉ memL (memL a) := fun v hv hv' => by
    rw [memL_idem] at hv'
    have h1 := ((memL_iff _ v).1 hv).1
    unfold diffL at h1
    have h2 := (List.mem_filter.1 h1).2
    simp only [Bool.not_eq_true', List.contains_eq_mem, decide_eq_false_iff_not] at h2
    exact h2 hv'
  have hne : (diffL (memL a) (memL b)).length ≠ 0 → (memL (diffL (memL a) (memL b))).length ≠ 0 := fun h h' => by
    have e := List.eq_nil_of_length_eq_zero h'
    obtain ⟨v, hv⟩ := List.exists_mem_of_length_pos (l := diffL (memL a) (memL b)) (by omega)
    have hv2 := hv
    unfold diffL at hv2
    have hb := (memL_iff _ v).1 (List.mem_filter.1 hv2).1
    have : v ∈ memL (diffL (memL a) (memL b)) := (memL_iff _ v).2 ⟨hv, hb.2⟩
    rw [e] at this; simp at this
  generalize hX : memL a = X at *
  have hXX : memL X = X := by rw [← hX, memL_idem]
  generalize hY : diffL X (memL b) = Y at *
  simp only [all_leaf, all_fork, all_req, yes_t, yes_f, true_and, and_true, decide_eq_true_eq, decide_eq_false_iff_not, implies_true, conjP, beq_iff_eq, beq_eq_false_iff_ne, ne_eq, Bool.and_true, Bool.or_eq_false_iff]
  intro ha hb
  refine ⟨by omega, by omega, ⟨by omega, by omega, by omega, by omega, by omega⟩, fun c => ?_⟩
  have c1 : X.length ≠ 0 := by omega
  have c2 : Y.length ≠ 0 := by omega
  have hy0 := hne c2
  obtain ⟨p1, p2, _⟩ := asgL_all [] X (by rw [hXX]; exact c1)
  have hp : ∀ p : Nat, p < 16 → atL (asgL [] X) (p : Int) ∉ memL Y := fun p hp h => by
    rw [atL_in p1 hp] at h
    exact hin _ h (p2 p hp)
  obtain ⟨f1, f2⟩ := far hp
  obtain ⟨q1, q2, _⟩ := asgL_all (asgL [] X) Y hy0
  have hq : ∀ p : Nat, p < 16 → atL (asgL (asgL [] X) Y) (p : Int) ∉ memL X := fun p hp h => by
    rw [atL_in q1 hp] at h
    exact hin _ (q2 p hp) h
  obtain ⟨g1, g2⟩ := far hq
  have hmov : movL (asgL [] X) (asgL (asgL [] X) Y) = 16 := by
    unfold movL
    rw [cntB_all (b := true) (fun k _ hk => ?_)]
    · rfl
    · rw [Bool.not_eq_true', beq_eq_false_iff_ne, atL_in p1 (by omega)]
      intro e
      refine hq k (by omega) ?_
      rw [← e]
      exact p2 k (by omega)
  rw [g2, f2, f1] at *
  have l1 := asgL_len [] Y
  have l2 := quotaL_len [] Y
  refine ⟨by omega, by omega, ⟨fun _ => ⟨by omega, by omega, by omega, fun _ => ⟨by omega, by omega, by omega, fun _ => ⟨by omega, by omega, fun h => h rfl⟩, fun h => h rfl⟩, fun h => h rfl⟩, fun h => absurd hmov h⟩⟩
theorem bodySw : Try.f9.body = some (bodyOf Try.f9) := by kernel_rfl
theorem swaps_ok : PureOK Try.prog 9 [ints, ints] [.bool] (fun _ => True) (fun _ => (true, ())) :=
  fn_pure (E := W4) (n := 100) W4_ok Try.func9 bodySw lSw fun x _ => swaps_t x.1 x.2.1
end Pl
