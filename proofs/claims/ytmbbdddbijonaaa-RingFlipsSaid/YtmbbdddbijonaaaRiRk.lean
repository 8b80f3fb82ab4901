import Derived.Test.YtmbbdddbijonaaaRiRl
namespace Pl
open Go Sx Go.Proofs Go.RowKit
theorem tabL_congr {α : Type} {n : Nat} {f g : Nat → α} (h : ∀ j, j < n → f j = g j) : tabL n f = tabL n g := by
  rw [tabL_eq, tabL_eq]
  exact List.map_congr_left fun j hj => h j (by simpa using hj)
theorem mxI_comm (x y : Int) : mxI x y = mxI y x := by unfold mxI; split <;> split <;> omega
theorem mxI_assoc (x y z : Int) : mxI (mxI x y) z = mxI x (mxI y z) := by unfold mxI; split <;> split <;> (try split) <;> (try split) <;> omega
theorem mxI_self (x : Int) : mxI x x = x := by unfold mxI; split <;> rfl
theorem joinE_def (a b : EntryD) : joinE a b = if b.1 > a.1 ∨ (b.1 = a.1 ∧ b.2 > a.2) then b else a := by
  obtain ⟨x, y⟩ := a
  obtain ⟨z, w⟩ := b
  simp only [joinE, cmpE, orL, cmpI]
  by_cases h1 : z < x
  · simp [h1]; intro h; exfalso; omega
  · by_cases h2 : x < z
    · simp [h1, h2]
    · have : z = x := by omega
      subst this
      by_cases h3 : w < y
      · simp [h3]; intro h; exfalso; omega
      · by_cases h4 : y < w
        · simp [h3, h4]
        · have : w = y := by omega
          subst this; simp
theorem joinE_comm (a b : EntryD) : joinE a b = joinE b a := by
  obtain ⟨x, y⟩ := a
  obtain ⟨z, w⟩ := b
  simp only [joinE_def]
  split <;> split <;> first | rfl | (simp only [Prod.mk.injEq]; omega)
theorem joinE_assoc (a b c : EntryD) : joinE (joinE a b) c = joinE a (joinE b c) := by
  obtain ⟨x, y⟩ := a
  obtain ⟨z, w⟩ := b
  obtain ⟨u, v⟩ := c
  rw [joinE_def (x, y) (z, w), joinE_def (z, w) (u, v)]
  simp only
  by_cases h1 : z > x ∨ (z = x ∧ w > y) <;> by_cases h2 : u > z ∨ (u = z ∧ v > w)
  · rw [if_pos h1, if_pos h2, joinE_def, joinE_def]; simp only; rw [if_pos h2, if_pos (by omega)]
  · rw [if_pos h1, if_neg h2, joinE_def, joinE_def]; simp only; rw [if_neg h2, if_pos h1]
  · rw [if_neg h1, if_pos h2]
  · rw [if_neg h1, if_neg h2, joinE_def, joinE_def]; simp only; rw [if_neg h1, if_neg (by omega)]
theorem joinE_self (a : EntryD) : joinE a a = a := by unfold joinE; split <;> rfl
theorem joinE_may {a b : EntryD} (h : mayE a = true) (k : mayE b = true) : mayE (joinE a b) = true := by
  unfold joinE; split <;> assumption
theorem joinP_may {a b : PlanD} (h : mayB a = true) (k : mayB b = true) : mayB (joinP a b) = true := by
  unfold joinP; split <;> assumption
theorem getS (a b : RingD) {j : Nat} (h : j < 8) : (joinR a b).1.getD j 0 = mxI (a.1.getD j 0) (b.1.getD j 0) := tabL_getD _ _ _ h
theorem getE (a b : RingD) {j : Nat} (h : j < 16) : (joinR a b).2.2.getD j (0, 0) = joinE (a.2.2.getD j (0, 0)) (b.2.2.getD j (0, 0)) := tabL_getD _ _ _ h
theorem joinR_comm (a b : RingD) : joinR a b = joinR b a := by
  unfold joinR
  rw [join_comm a.2.1 b.2.1]
  congr 1
  · exact tabL_congr fun j _ => mxI_comm _ _
  · congr 1; exact tabL_congr fun j _ => joinE_comm _ _
theorem joinR_assoc (a b c : RingD) : joinR (joinR a b) c = joinR a (joinR b c) := by
  show (tabL 8 (fun j => mxI ((joinR a b).1.getD j 0) (c.1.getD j 0)), joinP (joinP a.2.1 b.2.1) c.2.1, tabL 16 (fun j => joinE ((joinR a b).2.2.getD j (0, 0)) (c.2.2.getD j (0, 0)))) =
    (tabL 8 (fun j => mxI (a.1.getD j 0) ((joinR b c).1.getD j 0)), joinP a.2.1 (joinP b.2.1 c.2.1), tabL 16 (fun j => joinE (a.2.2.getD j (0, 0)) ((joinR b c).2.2.getD j (0, 0))))
  rw [join_assoc]
  congr 1
  · exact tabL_congr fun j hj => by rw [getS _ _ hj, getS _ _ hj, mxI_assoc]
  · congr 1; exact tabL_congr fun j hj => by rw [getE _ _ hj, getE _ _ hj, joinE_assoc]
theorem joinR_self {a : RingD} (h : okR a) : joinR a a = a := by
  obtain ⟨s, p, e⟩ := a
  show (tabL 8 (fun j => mxI (s.getD j 0) (s.getD j 0)), joinP p p, tabL 16 (fun j => joinE (e.getD j (0, 0)) (e.getD j (0, 0)))) = (s, p, e)
  simp only [mxI_self, joinE_self, join_self]
  rw [tabL_map (xs := s) (g := fun x => x) h.1, tabL_map (xs := e) (g := fun x => x) h.2]
  simp
theorem belowR_iff {a b : RingD} : belowR a b = true ↔ joinR a b = b := by simp [belowR, sameR]
theorem below_join (a b : RingD) (h : okR a) : belowR a (joinR a b) = true := by
  rw [belowR_iff, ← joinR_assoc, joinR_self h]
theorem below_join' (a b : RingD) (h : okR b) : belowR b (joinR a b) = true := by
  rw [joinR_comm]; exact below_join b a h
theorem below_trans {a b c : RingD} (h : belowR a b = true) (k : belowR b c = true) : belowR a c = true := by
  rw [belowR_iff] at *
  rw [← k, ← joinR_assoc, h]
theorem stB_mx {x y : Int} (h : stB x = true) (k : stB y = true) : stB (mxI x y) = true := by unfold mxI; split <;> assumption
theorem mayR_join {a b : RingD} (ha : okR a) (hb : okR b) (h : mayR a = true) (k : mayR b = true) : mayR (joinR a b) = true := by
  rw [mayR_iff ha] at h
  rw [mayR_iff hb] at k
  rw [mayR_iff (joinR_ok a b)]
  simp only [Bool.and_eq_true, List.all_eq_true] at *
  refine ⟨fun x hx => ?_, joinP_may h.2.1 k.2.1, fun x hx => ?_⟩
  · simp only [joinR] at hx
    rw [tabL_zip mxI ha.1 hb.1] at hx
    obtain ⟨i, hi, rfl⟩ := List.mem_iff_getElem.1 hx
    rw [List.getElem_zipWith]
    exact stB_mx (h.1 _ (List.getElem_mem _)) (k.1 _ (List.getElem_mem _))
  · simp only [joinR] at hx
    rw [tabL_zip joinE ha.2 hb.2] at hx
    obtain ⟨i, hi, rfl⟩ := List.mem_iff_getElem.1 hx
    rw [List.getElem_zipWith]
    exact joinE_may (h.2.2 _ (List.getElem_mem _)) (k.2.2 _ (List.getElem_mem _))
theorem sameR_self (a : RingD) : sameR a a = true := by simp [sameR]
theorem sameR_iff {a b : RingD} : sameR a b = true ↔ a = b := by simp [sameR]
end Pl
