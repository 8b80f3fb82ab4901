import Derived.Test.YtenjakhegeclhaaClCj2
namespace Pl
open Go Sx Go.Proofs Go.RowKit
def hadF (now : List Int) (n : Int) (p : Nat) : Bool := decide ((p : Int) < (now.length : Int)) && now.getD p 0 == n
def keptF (now l : List Int) (n : Int) (p : Nat) : Bool := hadF now n p && l.getD p 0 == n
def stayP (now l m q : List Int) : Bool := (List.range m.length).all (fun i => decide (cntB (keptF now l (m.getD i 0)) 16 0 = min (cntB (hadF now (m.getD i 0)) 16 0) (q.getD i 0)))
def stayS (now l : List Int) : List Int → Int
  | [] => 0
  | n :: r => cntB (keptF now l n) 16 0 + stayS now l r
structure ASt where
  now : List Int
  q : List Int
  l : List Int
  m : List Int
  i : Int
  stay : Int
def LSt : LoopC ASt where
  n0 := 6
  det st := match rowS st 0 i64, rowS st 7 i64, rowS st 6 i64, rowS st 45 i64, intS st 47, intS st 8 with | some now, some l0, some l1, some l2, some i3, some s => some ⟨now, l0, l1, l2, i3, s⟩ | _, _, _, _, _, _ => none
  inv a := ⟨[(47, iv a.i), (46, iv (↑a.m.length : Int)), (45, .one (.row 3)), (8, iv a.stay), (7, .one (.row 5)), (6, .one (.row 4)), (0, .one (.row 0))],
    [(5, .ro i64 a.q), (4, .ro i64 a.l), (3, .ro i64 a.m), (0, .ro i64 a.now)], 6⟩
  ok a := a.l.length = 16 ∧ a.q.length = a.m.length ∧ a.m.length ≤ 8 ∧ 0 ≤ a.i ∧ a.i ≤ a.m.length ∧ 0 ≤ a.stay ∧ a.stay ≤ a.i * 16 ∧ a.now.length ≤ 100 ∧ stayP a.now a.l a.m a.q = true
  mu a := a.m.length - a.i.toNat
  fin a := .leaf ⟨2, ⟨[(8, iv (a.stay + stayS a.now a.l (a.m.drop a.i.toNat))), (6, .one (.row 4)), (0, .one (.row 0))], [(4, .ro i64 a.l), (0, .ro i64 a.now)], 6⟩⟩
structure ASu where
  now : List Int
  q : List Int
  l : List Int
  m : List Int
  i : Int
  stay : Int
  n0 : Int
  i1 : Int
  i2 : Int
  i3 : Int
def LSu : LoopC ASu where
  n0 := 6
  det st := match rowS st 0 i64, rowS st 7 i64, rowS st 6 i64, rowS st 45 i64, intS st 9, intS st 8, intS st 10, intS st 52, intS st 12, intS st 11 with | some now, some q, some l, some m, some i, some stay, some n0, some i1, some i2, some i3 => some ⟨now, q, l, m, i, stay, n0, i1, i2, i3⟩ | _, _, _, _, _, _, _, _, _, _ => none
  inv a := ⟨[(52, iv a.i1), (12, iv a.i2), (11, iv a.i3), (10, iv a.n0), (9, iv a.i), (47, iv a.i), (46, iv (↑a.m.length : Int)), (45, .one (.row 3)), (8, iv a.stay), (7, .one (.row 5)), (6, .one (.row 4)), (0, .one (.row 0))],
    [(5, .ro i64 a.q), (4, .ro i64 a.l), (3, .ro i64 a.m), (0, .ro i64 a.now)], 6⟩
  ok a := 0 ≤ a.i1 ∧ a.i1 ≤ 16 ∧ a.l.length = 16 ∧ 0 ≤ a.i2 ∧ a.i2 ≤ a.i1 ∧ 0 ≤ a.i3 ∧ a.i3 ≤ a.i1 ∧ a.now.length ≤ 100
  mu a := 16 - a.i1.toNat
  fin a := .leaf ⟨4, ⟨[(12, iv (a.i2 + cntB (keptF a.now a.l a.n0) (16 - a.i1.toNat) a.i1.toNat)), (11, iv (a.i3 + cntB (hadF a.now a.n0) (16 - a.i1.toNat) a.i1.toNat)), (9, iv a.i), (47, iv a.i), (46, iv (↑a.m.length : Int)), (45, .one (.row 3)), (8, iv a.stay), (7, .one (.row 5)), (6, .one (.row 4)), (0, .one (.row 0))], [(5, .ro i64 a.q), (4, .ro i64 a.l), (3, .ro i64 a.m), (0, .ro i64 a.now)], 6⟩⟩
theorem rSu (now q l m : List Int) (i stay n0 i1 i2 i3 : Int) : @Eq _
  (LSu.round W4 [] 100 Try.f5 1 ⟨now, q, l, m, i, stay, n0, i1, i2, i3⟩)
  (.fork (decide (i1 < (16 : Int))) (
 .req (decide (i1 < (↑now.length : Int)) = true → conjP [(0 : Int) ≤ i1 ∧ i1 < (↑now.length : Int), (0 : Int) ≤ i1 ∧ i1 < (↑now.length : Int)]) (
  .fork (decide (i1 < (↑now.length : Int)) && now.getD i1.toNat (0 : Int) == n0) (
   .req ((0 : Int) ≤ i1 ∧ i1 < (↑l.length : Int)) (
    .req ((0 : Int) ≤ i1 ∧ i1 < (↑l.length : Int)) (
     .fork (l.getD i1.toNat (0 : Int) == n0) (
      .req (IntKind.i64.wrap (i1 + (1 : Int)) = IntKind.i64.wrap (i1 + (1 : Int)) ∧ IntKind.i64.wrap (i2 + (1 : Int)) = IntKind.i64.wrap (i2 + (1 : Int)) ∧ IntKind.i64.wrap (i3 + (1 : Int)) = IntKind.i64.wrap (i3 + (1 : Int)) ∧ n0 = n0 ∧ i = i ∧ i = i ∧ (↑m.length : Int) = (↑m.length : Int) ∧ stay = stay ∧ q = q ∧ l = l ∧ m = m ∧ now = now) (
       .leaf (Option.some { now := now, q := q, l := l, m := m, i := i, stay := stay, n0 := n0, i1 := IntKind.i64.wrap (i1 + (1 : Int)), i2 := IntKind.i64.wrap (i2 + (1 : Int)), i3 := IntKind.i64.wrap (i3 + (1 : Int)) }))) (
      .req (IntKind.i64.wrap (i1 + (1 : Int)) = IntKind.i64.wrap (i1 + (1 : Int)) ∧ i2 = i2 ∧ IntKind.i64.wrap (i3 + (1 : Int)) = IntKind.i64.wrap (i3 + (1 : Int)) ∧ n0 = n0 ∧ i = i ∧ i = i ∧ (↑m.length : Int) = (↑m.length : Int) ∧ stay = stay ∧ q = q ∧ l = l ∧ m = m ∧ now = now) (
       .leaf (Option.some { now := now, q := q, l := l, m := m, i := i, stay := stay, n0 := n0, i1 := IntKind.i64.wrap (i1 + (1 : Int)), i2 := i2, i3 := IntKind.i64.wrap (i3 + (1 : Int)) })))))) (
   .req (IntKind.i64.wrap (i1 + (1 : Int)) = IntKind.i64.wrap (i1 + (1 : Int)) ∧ i2 = i2 ∧ i3 = i3 ∧ n0 = n0 ∧ i = i ∧ i = i ∧ (↑m.length : Int) = (↑m.length : Int) ∧ stay = stay ∧ q = q ∧ l = l ∧ m = m ∧ now = now) (
    .leaf (Option.some { now := now, q := q, l := l, m := m, i := i, stay := stay, n0 := n0, i1 := IntKind.i64.wrap (i1 + (1 : Int)), i2 := i2, i3 := i3 }))))) (
 .req (i2 = i2 + cntB (Pl.keptF now l n0) (16 - i1.toNat) i1.toNat ∧ i3 = i3 + cntB (Pl.hadF now n0) (16 - i1.toNat) i1.toNat ∧ i = i ∧ i = i ∧ (↑m.length : Int) = (↑m.length : Int) ∧ stay = stay ∧ q = q ∧ l = l ∧ m = m ∧ now = now) (
  .leaf (Option.none))) : Tree (Option Pl.ASu)) := by kernel_rfl
theorem rSt (now q l m : List Int) (i stay : Int) : @Eq _
  (LSt.round W4 [(1, LSu.sp)] 100 Try.f5 0 ⟨now, q, l, m, i, stay⟩)
  (.fork (decide (i < (↑m.length : Int))) (
 .req ((0 : Int) ≤ i ∧ i < (↑m.length : Int)) (
  .req ((0 : Int) ≤ i ∧ i < (↑m.length : Int)) (
   .req ((0 : Int) ≤ (0 : Int) ∧ (0 : Int) ≤ (16 : Int) ∧ l.length = 16 ∧ (0 : Int) ≤ (0 : Int) ∧ (0 : Int) ≤ (0 : Int) ∧ (0 : Int) ≤ (0 : Int) ∧ (0 : Int) ≤ (0 : Int) ∧ now.length ≤ 100) (
    .req ((0 : Int) = (0 : Int) ∧ (0 : Int) = (0 : Int) ∧ (0 : Int) = (0 : Int) ∧ m.getD i.toNat (0 : Int) = m.getD i.toNat (0 : Int) ∧ i = i ∧ i = i ∧ (↑m.length : Int) = (↑m.length : Int) ∧ stay = stay ∧ q = q ∧ l = l ∧ m = m ∧ now = now) (
     .req ((0 : Int) ≤ i ∧ i < (↑q.length : Int)) (
      .req ((0 : Int) ≤ i ∧ i < (↑q.length : Int)) (
       .fork ((0 : Int) + cntB (Pl.keptF now l (m.getD i.toNat (0 : Int))) 16 0 != if q.getD i.toNat (0 : Int) < (0 : Int) + cntB (Pl.hadF now (m.getD i.toNat (0 : Int))) 16 0 then q.getD i.toNat (0 : Int) else (0 : Int) + cntB (Pl.hadF now (m.getD i.toNat (0 : Int))) 16 0) (
        .req (False) (
         .leaf (Option.none))) (
        .req (IntKind.i64.wrap (i + (1 : Int)) = IntKind.i64.wrap (i + (1 : Int)) ∧ (↑m.length : Int) = (↑m.length : Int) ∧ IntKind.i64.wrap (stay + ((0 : Int) + cntB (Pl.keptF now l (m.getD i.toNat (0 : Int))) 16 0)) = IntKind.i64.wrap (stay + ((0 : Int) + cntB (Pl.keptF now l (m.getD i.toNat (0 : Int))) 16 0)) ∧ q = q ∧ l = l ∧ m = m ∧ now = now) (
         .leaf (Option.some { now := now, q := q, l := l, m := m, i := IntKind.i64.wrap (i + (1 : Int)), stay := IntKind.i64.wrap (stay + ((0 : Int) + cntB (Pl.keptF now l (m.getD i.toNat (0 : Int))) 16 0)) })))))))))) (
 .req (stay = stay + Pl.stayS now l (List.drop i.toNat m) ∧ l = l ∧ now = now) (
  .leaf (Option.none))) : Tree (Option Pl.ASt)) := by kernel_rfl
theorem tSt (now ms : List Int) : @Eq _
  (fnT W4 [(0, LSt.sp)] 100 Try.f5 [ints, ints] [.bool] (now, ms, ()))
  (.fork (decide ((↑now.length : Int) > (100 : Int))) (
 .req (True) (
  .leaf ((true, ())))) (
 .fork (decide ((↑ms.length : Int) > (100 : Int))) (
  .req (True) (
   .leaf ((true, ())))) (
  .req ((↑ms.length : Int) < (4611686018427387904 : Int)) (
   .req ((↑ms.length : Int) < (4611686018427387904 : Int)) (
    .req ((↑ms.length : Int) < (4611686018427387904 : Int)) (
     .req (True) (
      .fork ((↑(Pl.asgL now ms).length : Int) != (16 : Int) || (↑(Pl.quotaL now ms).length : Int) != (↑(Pl.memL ms).length : Int)) (
       .req (((↑(Pl.memL ms).length : Int) == (0 : Int)) = true → conjP [True]) (
        .leaf (((↑(Pl.memL ms).length : Int) == (0 : Int) && true, ())))) (
       .req ((Pl.asgL now ms).length = 16 ∧ (Pl.quotaL now ms).length = (Pl.memL ms).length ∧ (Pl.memL ms).length ≤ 8 ∧ (0 : Int) ≤ (0 : Int) ∧ (0 : Int) ≤ (↑(Pl.memL ms).length : Int) ∧ (0 : Int) ≤ (0 : Int) ∧ (0 : Int) ≤ (0 : Int) ∧ now.length ≤ 100 ∧ Pl.stayP now (Pl.asgL now ms) (Pl.memL ms) (Pl.quotaL now ms) = true) (
        .req ((0 : Int) = (0 : Int) ∧ (↑(Pl.memL ms).length : Int) = (↑(Pl.memL ms).length : Int) ∧ (0 : Int) = (0 : Int) ∧ Pl.quotaL now ms = Pl.quotaL now ms ∧ Pl.asgL now ms = Pl.asgL now ms ∧ Pl.memL ms = Pl.memL ms ∧ now = now) (
         .req ((0 : Int) ≤ (0 : Int) ∧ ((0 : Int) ≤ if (16 : Int) < (↑now.length : Int) then (16 : Int) else (↑now.length : Int)) ∧ (if (16 : Int) < (↑now.length : Int) then (16 : Int) else (↑now.length : Int)) ≤ (↑now.length : Int)) (
          .req ((0 + (List.take ((if (16 : Int) < (↑now.length : Int) then (16 : Int) else (↑now.length : Int)).toNat - 0) now).length) * 9 ≤ 70368744177664) (
           .req (True ∧ ((Pl.movL (Pl.asgL now ms) (([] : List Int) ++ List.take ((if (16 : Int) < (↑now.length : Int) then (16 : Int) else (↑now.length : Int)).toNat - 0) now) == IntKind.i64.wrap ((16 : Int) - ((0 : Int) + Pl.stayS now (Pl.asgL now ms) (List.drop 0 (Pl.memL ms))))) = true → conjP [True])) (
            .leaf ((Pl.movL (Pl.asgL now ms) (([] : List Int) ++ List.take ((if (16 : Int) < (↑now.length : Int) then (16 : Int) else (↑now.length : Int)).toNat - 0) now) == IntKind.i64.wrap ((16 : Int) - ((0 : Int) + Pl.stayS now (Pl.asgL now ms) (List.drop 0 (Pl.memL ms)))) && true, ())))))))))))))) : Tree (Bool × PUnit)) := by kernel_rfl
end Pl
namespace Pl
open Go Sx Go.Proofs Go.RowKit
theorem cntB_le {f g : Nat → Bool} : ∀ (c j : Nat), (∀ k, j ≤ k → k < j + c → f k = true → g k = true) → cntB f c j ≤ cntB g c j
  | 0, _, _ => by simp [cntB]
  | c + 1, j, h => by
    have := cntB_le (f := f) (g := g) c (j + 1) (fun k a b => h k (by omega) (by omega))
    have h0 := h j (by omega) (by omega)
    simp only [cntB]
    cases hf : f j <;> cases hg : g j <;> simp [hf, hg] at h0 ⊢ <;> omega
theorem cntB_add {f g h : Nat → Bool} : ∀ (c j : Nat), (∀ k, j ≤ k → k < j + c → h k = (f k || g k) ∧ (f k && g k) = false) → cntB h c j = cntB f c j + cntB g c j
  | 0, _, _ => by simp [cntB]
  | c + 1, j, e => by
    have := cntB_add (f := f) (g := g) (h := h) c (j + 1) (fun k a b => e k (by omega) (by omega))
    have h0 := e j (by omega) (by omega)
    simp only [cntB, h0.1, this]
    have h1 := h0.2
    cases hf : f j <;> cases hg : g j <;> simp [hf, hg] at h1 ⊢ <;> omega
theorem cntB_not {f g : Nat → Bool} : ∀ (c j : Nat), (∀ k, j ≤ k → k < j + c → g k = !f k) → cntB g c j = c - cntB f c j
  | 0, _, _ => by simp [cntB]
  | c + 1, j, e => by
    have := cntB_not (f := f) (g := g) c (j + 1) (fun k a b => e k (by omega) (by omega))
    have h0 := e j (by omega) (by omega)
    simp only [cntB, h0, this]
    cases f j <;> simp <;> omega
theorem cntB_count {l : List Int} (n : Int) : ∀ (c j : Nat), j + c = l.length → cntB (fun p => l.getD p 0 == n) c j = ((l.drop j).count n : Int)
  | 0, j, h => by rw [List.drop_eq_nil_of_le (by omega)]; rfl
  | c + 1, j, h => by
    have hd := drop_cons (l := l) (i := (j : Int)) 0 (by omega) (by omega)
    have e3 : ((j : Int) + 1).toNat = j + 1 := by omega
    rw [e3, Int.toNat_natCast] at hd
    rw [hd, List.count_cons]
    simp only [cntB, cntB_count (l := l) n c (j + 1) (by omega)]
    split <;> omega
theorem asg0_src (now m : List Int) : ∀ (c p : Nat) (to la : List Int), p + c = 16 → to.length = 16 → (∀ k, k < p → to.getD k 0 = -1 ∨ to.getD k 0 = atL now (k : Int)) → ∀ k, k < 16 → (asg0 now m c p to la).1.getD k 0 = -1 ∨ (asg0 now m c p to la).1.getD k 0 = atL now (k : Int)
  | 0, p, to, la, hp, _, h, k, hk => h k (by omega)
  | c + 1, p, to, la, hp, ht, h, k, hk => by
    simp only [asg0]
    split
    · rename_i t
      simp only [Bool.and_eq_true, decide_eq_true_eq] at t
      refine asg0_src now m c (p + 1) _ _ (by omega) (by simp [ht]) (fun j hj => ?_) k hk
      rw [getD_set _ _ _ _ (by omega)]
      split
      · rename_i e
        subst e
        exact .inr ((indexF_range m (atL now (j : Int))).2.2 t.1)
      · exact h j (by omega)
    · refine asg0_src now m c (p + 1) _ _ (by omega) (by simp [ht]) (fun j hj => ?_) k hk
      rw [getD_set _ _ _ _ (by omega)]
      split
      · exact .inl rfl
      · exact h j (by omega)
theorem index_some {m : List Int} (hd : m.Nodup) {i : Nat} (hi : i < m.length) : indexF m (m.getD i 0) = i := by
  have hx : m.contains (m.getD i 0) = true := by simpa using getD_mem (l := m) (i := (i : Int)) 0 (by omega) (by omega)
  have e : indexF m (m.getD i 0) = idxF (m.getD i 0) m 0 := by unfold indexF; rw [if_pos hx]
  obtain ⟨i1, _, i2, i3⟩ := idxF_ge (m.getD i 0) m 0 (by omega) hx
  rw [← e, Int.sub_zero] at i3
  rw [← e] at i1 i2
  have := nodup_getD hd (by omega) hi i3
  omega
theorem asg0_lack (now m : List Int) (hd : m.Nodup) (i : Nat) (hi : i < m.length) : ∀ (c p : Nat) (to la : List Int), p + c = 16 → la.length = m.length → (∀ x ∈ la, 0 ≤ x) → (asg0 now m c p to la).2.getD i 0 = max (la.getD i 0 - cntB (fun k => atL now (k : Int) == m.getD i 0) c p) 0
  | 0, p, to, la, _, hl, h0 => by
    have : la.getD i 0 ∈ la := getD_mem (i := (i : Int)) 0 (by omega) (by omega)
    have := h0 _ this
    simp only [asg0, cntB]; omega
  | c + 1, p, to, la, hp, hl, h0 => by
    have hr := (cntB_range (fun k => atL now (k : Int) == m.getD i 0) c (p + 1)).1
    obtain ⟨i1, i2, i3⟩ := indexF_range m (atL now (p : Int))
    have hcase : (atL now (p : Int) == m.getD i 0) = decide (indexF m (atL now (p : Int)) = i) := by
      by_cases c : atL now (p : Int) = m.getD i 0
      · rw [c, index_some hd hi]; simp
      · have : indexF m (atL now (p : Int)) ≠ i := fun e => c (by have := i3 (by omega); rw [e, Int.toNat_natCast] at this; exact this.symm)
        rw [beq_eq_false_iff_ne.2 c, decide_eq_false this]
    simp only [asg0, cntB, hcase]
    split
    · rename_i t
      simp only [Bool.and_eq_true, decide_eq_true_eq] at t
      have hlt : (indexF m (atL now (p : Int))).toNat < la.length := by omega
      rw [asg0_lack now m hd i hi c (p + 1) _ _ (by omega) (by simp [hl]) (fun x hx => by
        rcases set_mem hx with h | h
        · exact h0 x h
        · omega), getD_set _ _ _ _ hlt]
      by_cases e : indexF m (atL now (p : Int)) = i
      · rw [if_pos (by omega), if_pos (by simpa using e)]
        rw [e, Int.toNat_natCast] at t ⊢
        omega
      · rw [if_neg (by omega), if_neg (by simpa using e)]; omega
    · rename_i t
      rw [asg0_lack now m hd i hi c (p + 1) _ _ (by omega) hl h0]
      by_cases e : indexF m (atL now (p : Int)) = i
      · rw [if_pos (by simpa using e)]
        rw [e, Int.toNat_natCast] at t
        simp only [Bool.and_eq_true, decide_eq_true_eq, not_and] at t
        have := t (by omega)
        omega
      · rw [if_neg (by simpa using e)]; omega
theorem atL_eq {now : List Int} {n : Int} (hn : 0 ≤ n) (p : Nat) : (atL now (p : Int) == n) = hadF now n p := by
  unfold atL hadF
  rw [Int.toNat_natCast]
  by_cases c : (p : Int) < (now.length : Int)
  · rw [if_pos c]; simp [c]
  · rw [if_neg c]
    have : (-1 : Int) ≠ n := by omega
    simp [c, this]
theorem stays_kept (now ms : List Int) (h : (memL ms).length ≠ 0) (i : Nat) (hi : i < (memL ms).length) : cntB (keptF now (asgL now ms) ((memL ms).getD i 0)) 16 0 = min (cntB (hadF now ((memL ms).getD i 0)) 16 0) ((quotaL now ms).getD i 0) := by
  obtain ⟨q1, q2, q3⟩ := quotaL_all now ms h
  have hd := memL_nodup ms
  have hm : ∀ x ∈ memL ms, 0 ≤ x := fun x hx => (memL_nn ms x hx).1
  obtain ⟨l1, l2, l3⟩ := asgL_all now ms h
  have hE : asgL now ms = asgM now (memL ms) (quotaL now ms) := by unfold asgL; rw [if_neg h]
  have hA := (asgM_all now (memL ms) (quotaL now ms) hm hd q1 q2 q3).2.2
  rw [← hE] at hA
  obtain ⟨a1, a2, a3, a4, a5, a6⟩ := asg0_inv now (memL ms) (quotaL now ms) hm hd 16 0 (List.replicate 16 0) (quotaL now ms) (by omega) (by simp) q2 q3 (by simp; omega) (fun k hk => by omega) (fun i hi => by simp)
  have a7 := asg0_src now (memL ms) 16 0 (List.replicate 16 0) (quotaL now ms) (by omega) (by simp) (fun k hk => by omega)
  have a8 := asg0_lack now (memL ms) hd i hi 16 0 (List.replicate 16 0) (quotaL now ms) (by omega) q2 (fun x hx => (q3 x hx).1)
  have a9 := a6 i hi
  have hn0 := hm _ (getD_mem (l := memL ms) (i := (i : Int)) 0 (by omega) (by omega))
  rw [Int.toNat_natCast] at hn0
  have l4 := l3 i hi
  generalize (memL ms).getD i 0 = n at *
  generalize hr : asg0 now (memL ms) 16 0 (List.replicate 16 0) (quotaL now ms) = r at *
  rw [cntB_congr (fun k => atL now (k : Int) == n) (hadF now n) 16 0 (fun k _ _ => atL_eq hn0 k)] at a8
  have hr0 := (cntB_range (hadF now n) 16 0).1
  have hqi : 0 ≤ (quotaL now ms).getD i 0 := (q3 _ (getD_mem (l := quotaL now ms) (i := (i : Int)) 0 (by omega) (by omega))).1
  have k1 : cntB (keptF now (asgL now ms) n) 16 0 ≤ cntB (hadF now n) 16 0 := cntB_le 16 0 fun k _ _ hk => by
    unfold keptF at hk
    simp only [Bool.and_eq_true] at hk
    exact hk.1
  have k2 : cntB (keptF now (asgL now ms) n) 16 0 ≤ ((asgL now ms).count n : Int) := by
    have := cntB_count (l := asgL now ms) n 16 0 (by omega)
    rw [List.drop_zero] at this
    rw [← this]
    refine cntB_le 16 0 fun k _ _ hk => ?_
    unfold keptF at hk
    simp only [Bool.and_eq_true] at hk
    exact hk.2
  have k3 : (r.1.count n : Int) ≤ cntB (keptF now (asgL now ms) n) 16 0 := by
    have := cntB_count (l := r.1) n 16 0 (by omega)
    rw [List.drop_zero] at this
    rw [← this]
    refine cntB_le 16 0 fun k _ hk e => ?_
    have e' : r.1.getD k 0 = n := eq_of_beq e
    have e1 := hA k (by omega)
    have e2 := (a7 k (by omega)).resolve_left (by omega)
    unfold keptF
    rw [← atL_eq hn0 k, ← e2, e1, e']
    simp
  omega
theorem stays_all (now ms : List Int) (h : (memL ms).length ≠ 0) : stayP now (asgL now ms) (memL ms) (quotaL now ms) = true := by
  unfold stayP
  rw [List.all_eq_true]
  intro i hi
  rw [decide_eq_true_eq]
  exact stays_kept now ms h i (List.mem_range.1 hi)
theorem stayS_eq (now l : List Int) : ∀ m : List Int, m.Nodup → (∀ x ∈ m, 0 ≤ x) → stayS now l m = cntB (fun p => m.contains (l.getD p 0) && (atL now (p : Int) == l.getD p 0)) 16 0
  | [], _, _ => by
    rw [cntB_all (b := false) (fun k _ _ => by simp)]; rfl
  | n :: r, hd, hn => by
    have hd' := List.nodup_cons.1 hd
    have hn0 := hn n (by simp)
    simp only [stayS]
    rw [stayS_eq now l r hd'.2 (fun x hx => hn x (by simp [hx]))]
    symm
    refine cntB_add 16 0 fun k _ _ => ?_
    unfold keptF
    rw [← atL_eq hn0 k, List.contains_cons]
    by_cases c : l.getD k 0 = n
    · rw [c]
      have : r.contains n = false := by simpa using hd'.1
      rw [this]; simp
    · have c1 : (l.getD k 0 == n) = false := by simpa using c
      rw [c1]; simp
theorem lSu : LpsOK Try.prog Try.f5 [(1, LSu.sp)] := by
  refine .cons (LSu.sound W4_ok (lps := []) (n := 100) (inner rfl) (fun _ => rfl) ?_) .nil
  rintro ⟨now, q, l, m, i, stay, n, i1, i2, i3⟩ ⟨h1, h2, h3, h4, h5, h6, h7, h8⟩
  simp only at h1 h2 h3 h4 h5 h6 h7 h8
  rw [rSu]
  simp only [all_leaf, all_fork, all_req, conjP, and_true, true_and, decide_eq_true_eq, decide_eq_false_iff_not]
  have e16 : ∀ c : i1 < 16, (16 : Int) = ((16 : Nat) : Int) := fun _ => rfl
  have hK : ∀ c : i1 < 16, cntB (keptF now l n) (16 - i1.toNat) i1.toNat = (if keptF now l n i1.toNat then 1 else 0) + cntB (keptF now l n) (16 - (i1 + 1).toNat) (i1 + 1).toNat := fun c => cntB_step _ h1 c
  have hH : ∀ c : i1 < 16, cntB (hadF now n) (16 - i1.toNat) i1.toNat = (if hadF now n i1.toNat then 1 else 0) + cntB (hadF now n) (16 - (i1 + 1).toNat) (i1 + 1).toNat := fun c => cntB_step _ h1 c
  have hf : hadF now n i1.toNat = (decide (i1 < (now.length : Int)) && now.getD i1.toNat 0 == n) := by
    unfold hadF; rw [Int.toNat_of_nonneg h1]
  refine ⟨fun c => ⟨fun d => ⟨⟨h1, d⟩, h1, d⟩, fun d => ⟨⟨h1, by omega⟩, ⟨h1, by omega⟩, fun d2 => ?_, fun d2 => ?_⟩, fun d => ?_⟩, fun c => ⟨⟨?_, ?_⟩, trivial⟩⟩
  · rw [i64_inc (by omega) (by omega), i64_inc (by omega) (by omega), i64_inc (by omega) (by omega)]
    refine ⟨⟨by dsimp only; omega, by dsimp only; omega, h3, by dsimp only; omega, by dsimp only; omega, by dsimp only; omega, by dsimp only; omega, h8⟩, by simp only [LSu]; omega, ?_⟩
    simp only [LSu]
    have a := hK c
    have b := hH c
    rw [if_pos (by rw [hf, d])] at b
    rw [if_pos (by unfold keptF; rw [hf, d, d2]; rfl)] at a
    rw [show i2 + 1 + cntB (keptF now l n) (16 - (i1 + 1).toNat) (i1 + 1).toNat = i2 + cntB (keptF now l n) (16 - i1.toNat) i1.toNat by omega, show i3 + 1 + cntB (hadF now n) (16 - (i1 + 1).toNat) (i1 + 1).toNat = i3 + cntB (hadF now n) (16 - i1.toNat) i1.toNat by omega]
  · rw [i64_inc (by omega) (by omega), i64_inc (by omega) (by omega)]
    refine ⟨⟨by dsimp only; omega, by dsimp only; omega, h3, h4, by dsimp only; omega, by dsimp only; omega, by dsimp only; omega, h8⟩, by simp only [LSu]; omega, ?_⟩
    simp only [LSu]
    have a := hK c
    have b := hH c
    rw [if_pos (by rw [hf, d])] at b
    rw [if_neg (by unfold keptF; rw [d2, Bool.and_false]; decide)] at a
    rw [show cntB (keptF now l n) (16 - (i1 + 1).toNat) (i1 + 1).toNat = cntB (keptF now l n) (16 - i1.toNat) i1.toNat by omega, show i3 + 1 + cntB (hadF now n) (16 - (i1 + 1).toNat) (i1 + 1).toNat = i3 + cntB (hadF now n) (16 - i1.toNat) i1.toNat by omega]
  · rw [i64_inc (by omega) (by omega)]
    refine ⟨⟨by dsimp only; omega, by dsimp only; omega, h3, h4, by dsimp only; omega, h6, by dsimp only; omega, h8⟩, by simp only [LSu]; omega, ?_⟩
    simp only [LSu]
    have a := hK c
    have b := hH c
    rw [if_neg (by rw [hf, d]; decide)] at b
    rw [if_neg (by unfold keptF; rw [hf, d, Bool.false_and]; decide)] at a
    rw [show cntB (keptF now l n) (16 - (i1 + 1).toNat) (i1 + 1).toNat = cntB (keptF now l n) (16 - i1.toNat) i1.toNat by omega, show cntB (hadF now n) (16 - (i1 + 1).toNat) (i1 + 1).toNat = cntB (hadF now n) (16 - i1.toNat) i1.toNat by omega]
  · have : 16 - i1.toNat = 0 := by omega
    rw [this]; simp [cntB]
  · have : 16 - i1.toNat = 0 := by omega
    rw [this]; simp [cntB]
theorem lSt : LpsOK Try.prog Try.f5 [(0, LSt.sp)] := by
  refine .cons (LSt.sound W4_ok (lps := [(1, LSu.sp)]) (n := 100) (lSu.within (by kernel_rfl)) (fun _ => rfl) ?_) .nil
  rintro ⟨now, q, l, m, i, stay⟩ ⟨h1, h2, h3, h4, h5, h6, h7, h8, h9⟩
  simp only at h1 h2 h3 h4 h5 h6 h7 h8 h9
  rw [rSt]
  simp only [all_leaf, all_fork, all_req, conjP, and_true, true_and, decide_eq_true_eq, decide_eq_false_iff_not]
  refine ⟨fun c => ?_, fun c => ⟨?_, trivial⟩⟩
  · have hf := h9
    unfold stayP at hf
    rw [List.all_eq_true] at hf
    have hi := hf i.toNat (List.mem_range.2 (by omega))
    rw [decide_eq_true_eq] at hi
    have hr := cntB_range (keptF now l (m.getD i.toNat 0)) 16 0
    rw [i64_inc (by omega) (by omega), IntWalk.i64_in (stay + _) (by omega)]
    have qi : 0 ≤ i ∧ i < (q.length : Int) := ⟨h4, by omega⟩
    refine ⟨⟨h4, c⟩, ⟨h4, c⟩, ⟨by omega, by omega, h1, by omega, by omega, by omega, by omega, h8⟩, qi, qi, fun d => ?_, fun _ => ?_⟩
    · simp only [bne_iff_ne, ne_eq] at d
      exfalso; refine d ?_
      rw [hi]
      split <;> omega
    · refine ⟨⟨h1, h2, h3, by dsimp only; omega, by dsimp only; omega, by dsimp only; omega, by dsimp only; omega, h8, h9⟩, by simp only [LSt]; omega, ?_⟩
      simp only [LSt]
      rw [drop_cons (l := m) 0 h4 c, stayS]
      rw [show stay + (0 + cntB (keptF now l (m.getD i.toNat 0)) 16 0) + stayS now l (m.drop (i + 1).toNat) = stay + (cntB (keptF now l (m.getD i.toNat 0)) 16 0 + stayS now l (m.drop (i + 1).toNat)) by omega]
  · rw [drop_end c]; simp [stayS]
theorem stays_t (now ms : List Int) : (fnT W4 [(0, LSt.sp)] 100 Try.f5 [ints, ints] [.bool] (now, ms, ())).all fun y => y = (true, ()) := by
  refine Tree.all_eq (tSt now ms) ?_
  show Tree.all (α := Bool × Unit) _ Yes
  have h8 := memL_len ms
  simp only [all_leaf, all_fork, all_req, yes_t, yes_f, yes_iff, true_and, and_true, decide_eq_true_eq, decide_eq_false_iff_not, implies_true, conjP, beq_iff_eq, beq_eq_false_iff_ne, ne_eq, Bool.and_true, Bool.or_eq_false_iff, Bool.or_eq_true, bne_iff_ne]
  intro hn hm
  refine ⟨by omega, by omega, by omega, fun c => ?_, fun c => ?_⟩
  · by_cases h : (memL ms).length = 0
    · omega
    · exfalso
      have a1 := (asgL_all now ms h).1
      have q2 := (quotaL_all now ms h).2.1
      omega
  · by_cases h : (memL ms).length = 0
    · exfalso
      have e1 : asgL now ms = [] := by unfold asgL; rw [if_pos h]
      rw [e1] at c; simp at c
    · obtain ⟨a1, a2, a3⟩ := asgL_all now ms h
      have q2 := (quotaL_all now ms h).2.1
      have hk : ∀ z : Int, z = (if 16 < (now.length : Int) then 16 else (now.length : Int)) → 0 ≤ z ∧ z ≤ now.length ∧ z ≤ 16 ∧ (z = 16 ∨ z = now.length) := fun z hz => by
        split at hz <;> omega
      have hz := hk _ rfl
      generalize (if 16 < (now.length : Int) then 16 else (now.length : Int)) = z at *
      refine ⟨⟨a1, q2, h8, by omega, by omega, by omega, by omega, by omega, stays_all now ms h⟩, by omega, by simp only [List.length_take]; omega, ?_⟩
      rw [List.drop_zero, stayS_eq now (asgL now ms) (memL ms) (memL_nodup ms) (fun x hx => (memL_nn ms x hx).1)]
      have e1 : cntB (fun p => (memL ms).contains ((asgL now ms).getD p 0) && (atL now (p : Int) == (asgL now ms).getD p 0)) 16 0 = cntB (fun p => atL now (p : Int) == (asgL now ms).getD p 0) 16 0 := cntB_congr _ _ 16 0 fun k _ hk => by
        have : (memL ms).contains ((asgL now ms).getD k 0) = true := by simpa using a2 k (by omega)
        rw [this, Bool.true_and]
      rw [e1]
      have hr := cntB_range (fun p => atL now (p : Int) == (asgL now ms).getD p 0) 16 0
      rw [IntWalk.i64_in _ (by omega)]
      unfold movL
      rw [cntB_not (f := fun p => atL now (p : Int) == (asgL now ms).getD p 0) 16 0 (fun k _ hk => by
        rw [atL_in a1 (by omega)]
        have : atL ([] ++ List.take (z.toNat - 0) now) (k : Int) = atL now (k : Int) := by
          unfold atL
          simp only [List.nil_append, List.length_take, Nat.sub_zero]
          by_cases c1 : (k : Int) < (now.length : Int)
          · rw [if_pos (by omega), if_pos c1]
            simp only [List.getD_eq_getElem?_getD, Int.toNat_natCast]
            rw [List.getElem?_take_of_lt (by omega)]
          · rw [if_neg (by omega), if_neg c1]
        rw [this]
        rw [Bool.beq_comm])]
      omega
theorem bodySt : Try.f5.body = some (bodyOf Try.f5) := by kernel_rfl
theorem stays_ok : PureOK Try.prog 5 [ints, ints] [.bool] (fun _ => True) (fun _ => (true, ())) :=
  fn_pure (E := W4) (n := 100) W4_ok Try.func5 bodySt lSt fun x _ => stays_t x.1 x.2.1
end Pl
