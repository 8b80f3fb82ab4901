import Derived.Test.YtenjakhegeclhaaClCe
namespace Pl
open Go Sx Go.Proofs Go.RowKit
theorem indexF_range (l : List Int) (v : Int) : -1 ≤ indexF l v ∧ indexF l v < l.length ∧ (0 ≤ indexF l v → l.getD (indexF l v).toNat 0 = v) := by
  unfold indexF
  split
  · rename_i h
    obtain ⟨a, b, c, d⟩ := idxF_ge v l 0 (by omega) h
    refine ⟨by omega, by omega, fun _ => ?_⟩
    rw [Int.sub_zero] at d; exact d
  · exact ⟨by omega, by omega, fun h => by omega⟩
theorem set_mem {l : List Int} {k : Nat} {v x : Int} (h : x ∈ l.set k v) : x ∈ l ∨ x = v := List.mem_or_eq_of_mem_set h
theorem sum_set (v : Int) : ∀ (l : List Int) (k : Nat), k < l.length → (l.set k v).sum = l.sum - l.getD k 0 + v
  | [], _, h => by simp at h
  | a :: l, 0, _ => by simp; omega
  | a :: l, k + 1, h => by
    have := sum_set v l k (by simpa using h)
    simp only [List.set_cons_succ, List.sum_cons, List.getD_cons_succ, this]; omega
theorem tabL_put2 {xs : List Int} {z s t : Int} {n : Nat} {i : Int} (h : xs.length = n) (h0 : 0 ≤ i) : tabL n (fun j => bif decide (i = (j : Int)) then s else bif decide (i = (j : Int)) then t else xs.getD j z) = xs.set i.toNat s := by
  rw [← tabL_put h h0 (z := z) (s := s)]
  exact congrArg (tabL n) (funext fun j => by cases decide (i = (j : Int)) <;> rfl)
theorem asg0_step (now m : List Int) (p : Int) (to la : List Int) (h0 : 0 ≤ p) (h1 : p < 16) : asg0 now m (16 - p.toNat) p.toNat to la = if decide (indexF m (atL now p) ≥ 0) && decide (la.getD (indexF m (atL now p)).toNat 0 > 0) then asg0 now m (16 - (p + 1).toNat) (p + 1).toNat (to.set p.toNat (m.getD (indexF m (atL now p)).toNat 0)) (la.set (indexF m (atL now p)).toNat (la.getD (indexF m (atL now p)).toNat 0 - 1)) else asg0 now m (16 - (p + 1).toNat) (p + 1).toNat (to.set p.toNat (-1)) la := by
  have e1 : 16 - p.toNat = (16 - (p + 1).toNat) + 1 := by omega
  have e2 : (p.toNat : Int) = p := by omega
  have e3 : p.toNat + 1 = (p + 1).toNat := by omega
  rw [e1, asg0, e2, e3]
theorem lA0 : LpsOK Try.prog Try.f17 [(0, LA0.sp)] := by
  refine .cons (LA0.sound W2_ok (lps := []) (n := 100) (inner rfl) (fun _ => rfl) ?_) .nil
  rintro ⟨now, la, m, p, to⟩ ⟨h16, hl, h8, h0, h1, hx⟩
  simp only at h16 hl h8 h0 h1 hx
  rw [rA0]
  obtain ⟨i1, i2, i3⟩ := indexF_range m (atL now p)
  simp only [all_leaf, all_fork, all_req, conjP, and_true, decide_eq_true_eq, decide_eq_false_iff_not]
  have hii : indexF m (atL now p) ≥ 0 → 0 ≤ indexF m (atL now p) ∧ indexF m (atL now p) < (la.length : Int) := fun c => ⟨c, by omega⟩
  refine ⟨fun c => ⟨⟨h0, c⟩, ⟨h0, c⟩, h0, by omega, fun c' => ⟨hii c', hii c'⟩, fun t => ?_, fun t => ?_⟩, fun c => ⟨?_, trivial⟩⟩
  · have t' := t
    simp only [Bool.and_eq_true, decide_eq_true_eq] at t
    have hlt : (indexF m (atL now p)).toNat < la.length := by omega
    have hg : la.getD (indexF m (atL now p)).toNat 0 ∈ la := by rw [getD_get 0 hlt]; exact List.getElem_mem hlt
    have hb := hx _ hg
    refine ⟨⟨t.1, by omega⟩, ⟨t.1, by omega⟩, ⟨h0, c⟩, ⟨h0, c⟩, hii t.1, hii t.1, hii t.1, hii t.1, by repeat' (first | exact trivial | rfl | apply And.intro), ?_⟩
    rw [tabL_put2 h16 h0, IntWalk.i64_in (p + 1) (by omega), IntWalk.i64_in _ (by omega)]
    refine ⟨⟨by simp [h16], by simp [hl], h8, by dsimp only; omega, by dsimp only; omega, fun x h => ?_⟩, by simp only [LA0]; omega, ?_⟩
    · rcases set_mem h with h | h
      · exact hx x h
      · omega
    · simp only [LA0]
      rw [asg0_step now m p to la h0 c, if_pos t']
  · refine ⟨by repeat' (first | exact trivial | rfl | apply And.intro), ?_⟩
    rw [tabL_put h16 h0, IntWalk.i64_in (p + 1) (by omega)]
    refine ⟨⟨by simp [h16], hl, h8, by dsimp only; omega, by dsimp only; omega, hx⟩, by simp only [LA0]; omega, ?_⟩
    simp only [LA0]
    rw [asg0_step now m p to la h0 c, if_neg (by rw [t]; decide)]
  · have e : 16 - p.toNat = 0 := by omega
    rw [e, asg0]; repeat' (first | exact trivial | rfl | apply And.intro)
end Pl
