import Derived.Test.YtenjakhegeclhaaClCi3
namespace Pl
open Go Sx Go.Proofs Go.RowKit
def fairP (m l q : List Int) : Bool := (List.range m.length).all (fun i => decide ((l.count (m.getD i 0) : Int) = q.getD i 0) && decide (qEach (m.length : Int) ≤ q.getD i 0) && decide (q.getD i 0 ≤ qEach (m.length : Int) + 1))
structure AFa where
  ms : List Int
  q : List Int
  l : List Int
  m : List Int
  i : Int
  all : Int
def LFa : LoopC AFa where
  n0 := 6
  det st := match rowS st 1 i64, rowS st 7 i64, rowS st 6 i64, rowS st 52 i64, intS st 54, intS st 8 with | some ms, some l0, some l1, some l2, some i3, some all => some ⟨ms, l0, l1, l2, i3, all⟩ | _, _, _, _, _, _ => none
  inv a := ⟨[(54, iv a.i), (53, iv (↑a.m.length : Int)), (52, .one (.row 3)), (8, iv a.all), (7, .one (.row 5)), (6, .one (.row 4)), (5, .one (.row 3)), (1, .one (.row 1))],
    [(5, .ro i64 a.q), (4, .ro i64 a.l), (3, .ro i64 a.m), (1, .ro i64 a.ms)], 6⟩
  ok a := a.l.length = 16 ∧ a.q.length = a.m.length ∧ 1 ≤ a.m.length ∧ a.m.length ≤ 8 ∧ 0 ≤ a.i ∧ a.i ≤ a.m.length ∧ 0 ≤ a.all ∧ a.all ≤ a.i * 40 ∧ fairP a.m a.l a.q = true
  mu a := a.m.length - a.i.toNat
  fin a := .leaf ⟨2, ⟨[(8, iv (a.all + (a.q.drop a.i.toNat).sum)), (6, .one (.row 4)), (1, .one (.row 1))], [(4, .ro i64 a.l), (1, .ro i64 a.ms)], 6⟩⟩
structure AFb where
  ms : List Int
  q : List Int
  l : List Int
  m : List Int
  i : Int
  all : Int
  n0 : Int
  i1 : Int
  i2 : Int
def LFb : LoopC AFb where
  n0 := 6
  det st := match rowS st 1 i64, rowS st 7 i64, rowS st 59 i64, rowS st 52 i64, intS st 9, intS st 8, intS st 10, intS st 61, intS st 11 with | some ms, some q, some l, some m, some i, some all, some n0, some i1, some i2 => some ⟨ms, q, l, m, i, all, n0, i1, i2⟩ | _, _, _, _, _, _, _, _, _ => none
  inv a := ⟨[(61, iv a.i1), (60, iv (↑a.l.length : Int)), (59, .one (.row 4)), (11, iv a.i2), (10, iv a.n0), (9, iv a.i), (54, iv a.i), (53, iv (↑a.m.length : Int)), (52, .one (.row 3)), (8, iv a.all), (7, .one (.row 5)), (6, .one (.row 4)), (5, .one (.row 3)), (1, .one (.row 1))],
    [(5, .ro i64 a.q), (4, .ro i64 a.l), (3, .ro i64 a.m), (1, .ro i64 a.ms)], 6⟩
  ok a := 0 ≤ a.i1 ∧ a.i1 ≤ a.l.length ∧ a.l.length = 16 ∧ 0 ≤ a.i2 ∧ a.i2 ≤ a.i1
  mu a := a.l.length - a.i1.toNat
  fin a := .leaf ⟨4, ⟨[(11, iv (a.i2 + ((a.l.drop a.i1.toNat).count a.n0 : Int))), (9, iv a.i), (54, iv a.i), (53, iv (↑a.m.length : Int)), (52, .one (.row 3)), (8, iv a.all), (7, .one (.row 5)), (6, .one (.row 4)), (5, .one (.row 3)), (1, .one (.row 1))], [(5, .ro i64 a.q), (4, .ro i64 a.l), (3, .ro i64 a.m), (1, .ro i64 a.ms)], 6⟩⟩
theorem rFb (ms q l m : List Int) (i all n0 i1 i2 : Int) : @Eq _
  (LFb.round W4 [] 100 Try.f4 1 ⟨ms, q, l, m, i, all, n0, i1, i2⟩)
  (.fork (decide (i1 < (↑l.length : Int))) (
 .req ((0 : Int) ≤ i1 ∧ i1 < (↑l.length : Int)) (
  .req ((0 : Int) ≤ i1 ∧ i1 < (↑l.length : Int)) (
   .fork (l.getD i1.toNat (0 : Int) == n0) (
    .req (IntKind.i64.wrap (i1 + (1 : Int)) = IntKind.i64.wrap (i1 + (1 : Int)) ∧ (↑l.length : Int) = (↑l.length : Int) ∧ IntKind.i64.wrap (i2 + (1 : Int)) = IntKind.i64.wrap (i2 + (1 : Int)) ∧ n0 = n0 ∧ i = i ∧ i = i ∧ (↑m.length : Int) = (↑m.length : Int) ∧ all = all ∧ q = q ∧ l = l ∧ m = m ∧ ms = ms) (
     .leaf (Option.some { ms := ms, q := q, l := l, m := m, i := i, all := all, n0 := n0, i1 := IntKind.i64.wrap (i1 + (1 : Int)), i2 := IntKind.i64.wrap (i2 + (1 : Int)) }))) (
    .req (IntKind.i64.wrap (i1 + (1 : Int)) = IntKind.i64.wrap (i1 + (1 : Int)) ∧ (↑l.length : Int) = (↑l.length : Int) ∧ i2 = i2 ∧ n0 = n0 ∧ i = i ∧ i = i ∧ (↑m.length : Int) = (↑m.length : Int) ∧ all = all ∧ q = q ∧ l = l ∧ m = m ∧ ms = ms) (
     .leaf (Option.some { ms := ms, q := q, l := l, m := m, i := i, all := all, n0 := n0, i1 := IntKind.i64.wrap (i1 + (1 : Int)), i2 := i2 })))))) (
 .req (i2 = i2 + (↑(List.count n0 (List.drop i1.toNat l)) : Int) ∧ i = i ∧ i = i ∧ (↑m.length : Int) = (↑m.length : Int) ∧ all = all ∧ q = q ∧ l = l ∧ m = m ∧ ms = ms) (
  .leaf (Option.none))) : Tree (Option Pl.AFb)) := by kernel_rfl
theorem rFa (ms q l m : List Int) (i all : Int) : @Eq _
  (LFa.round W4 [(1, LFb.sp)] 100 Try.f4 0 ⟨ms, q, l, m, i, all⟩)
  (.fork (decide (i < (↑m.length : Int))) (
 .req ((0 : Int) ≤ i ∧ i < (↑m.length : Int)) (
  .req ((0 : Int) ≤ i ∧ i < (↑m.length : Int)) (
   .req ((0 : Int) ≤ (0 : Int) ∧ (0 : Int) ≤ (↑l.length : Int) ∧ l.length = 16 ∧ (0 : Int) ≤ (0 : Int) ∧ (0 : Int) ≤ (0 : Int)) (
    .req ((0 : Int) = (0 : Int) ∧ (↑l.length : Int) = (↑l.length : Int) ∧ (0 : Int) = (0 : Int) ∧ m.getD i.toNat (0 : Int) = m.getD i.toNat (0 : Int) ∧ i = i ∧ i = i ∧ (↑m.length : Int) = (↑m.length : Int) ∧ all = all ∧ q = q ∧ l = l ∧ m = m ∧ ms = ms) (
     .req (((0 : Int) ≤ i ∧ i < (↑q.length : Int)) ∧ ((0 : Int) ≤ i ∧ i < (↑q.length : Int)) ∧ (((0 : Int) + (↑(List.count (m.getD i.toNat (0 : Int)) l) : Int) != q.getD i.toNat (0 : Int)) = false → conjP (((0 : Int) ≤ i ∧ i < (↑q.length : Int)) :: ((0 : Int) ≤ i ∧ i < (↑q.length : Int)) :: ((↑m.length : Int) ≠ (0 : Int)) :: (([] : List Prop) ++ [decide (q.getD i.toNat (0 : Int) < IntKind.i64.wrap (Int.tdiv (16 : Int) (↑m.length : Int))) = false → conjP [(0 : Int) ≤ i ∧ i < (↑q.length : Int), (0 : Int) ≤ i ∧ i < (↑q.length : Int), (↑m.length : Int) ≠ (0 : Int)]])))) (
      .fork ((0 : Int) + (↑(List.count (m.getD i.toNat (0 : Int)) l) : Int) != q.getD i.toNat (0 : Int) || (decide (q.getD i.toNat (0 : Int) < IntKind.i64.wrap (Int.tdiv (16 : Int) (↑m.length : Int))) || decide (q.getD i.toNat (0 : Int) > IntKind.i64.wrap (IntKind.i64.wrap (Int.tdiv (16 : Int) (↑m.length : Int)) + (1 : Int))))) (
       .req (False) (
        .leaf (Option.none))) (
       .req (IntKind.i64.wrap (i + (1 : Int)) = IntKind.i64.wrap (i + (1 : Int)) ∧ (↑m.length : Int) = (↑m.length : Int) ∧ IntKind.i64.wrap (all + ((0 : Int) + (↑(List.count (m.getD i.toNat (0 : Int)) l) : Int))) = IntKind.i64.wrap (all + ((0 : Int) + (↑(List.count (m.getD i.toNat (0 : Int)) l) : Int))) ∧ q = q ∧ l = l ∧ m = m ∧ ms = ms) (
        .leaf (Option.some { ms := ms, q := q, l := l, m := m, i := IntKind.i64.wrap (i + (1 : Int)), all := IntKind.i64.wrap (all + ((0 : Int) + (↑(List.count (m.getD i.toNat (0 : Int)) l) : Int))) }))))))))) (
 .req (all = all + (List.drop i.toNat q).sum ∧ l = l ∧ ms = ms) (
  .leaf (Option.none))) : Tree (Option Pl.AFa)) := by kernel_rfl
theorem tFa (now ms : List Int) : @Eq _
  (fnT W4 [(0, LFa.sp)] 100 Try.f4 [ints, ints] [.bool] (now, ms, ()))
  (.fork (decide ((↑now.length : Int) > (100 : Int))) (
 .req (True) (
  .leaf ((true, ())))) (
 .fork (decide ((↑ms.length : Int) > (100 : Int))) (
  .req (True) (
   .leaf ((true, ())))) (
  .req ((↑ms.length : Int) < (4611686018427387904 : Int)) (
   .req ((↑ms.length : Int) < (4611686018427387904 : Int)) (
    .req ((↑ms.length : Int) < (4611686018427387904 : Int)) (
     .fork ((↑(Pl.memL ms).length : Int) == (0 : Int)) (
      .req (((↑(Pl.asgL now ms).length : Int) == (0 : Int)) = true → conjP ((((↑(Pl.quotaL now ms).length : Int) == (0 : Int)) = true → conjP [True]) :: ([] : List Prop))) (
       .leaf (((↑(Pl.asgL now ms).length : Int) == (0 : Int) && ((↑(Pl.quotaL now ms).length : Int) == (0 : Int) && true), ())))) (
      .req (True) (
       .fork ((↑(Pl.asgL now ms).length : Int) != (16 : Int) || (↑(Pl.quotaL now ms).length : Int) != (↑(Pl.memL ms).length : Int)) (
        .leaf ((false, ()))) (
        .req ((Pl.asgL now ms).length = 16 ∧ (Pl.quotaL now ms).length = (Pl.memL ms).length ∧ 1 ≤ (Pl.memL ms).length ∧ (Pl.memL ms).length ≤ 8 ∧ (0 : Int) ≤ (0 : Int) ∧ (0 : Int) ≤ (↑(Pl.memL ms).length : Int) ∧ (0 : Int) ≤ (0 : Int) ∧ (0 : Int) ≤ (0 : Int) ∧ Pl.fairP (Pl.memL ms) (Pl.asgL now ms) (Pl.quotaL now ms) = true) (
         .req ((0 : Int) = (0 : Int) ∧ (↑(Pl.memL ms).length : Int) = (↑(Pl.memL ms).length : Int) ∧ (0 : Int) = (0 : Int) ∧ Pl.quotaL now ms = Pl.quotaL now ms ∧ Pl.asgL now ms = Pl.asgL now ms ∧ Pl.memL ms = Pl.memL ms ∧ ms = ms) (
          .fork ((0 : Int) + (List.drop 0 (Pl.quotaL now ms)).sum == (16 : Int)) (
           .req ((↑ms.length : Int) < (4611686018427387904 : Int)) (
            .req ((↑(Pl.asgL (Pl.asgL now ms) ms).length : Int) < (4611686018427387904 : Int)) (
             .fork (decide (Pl.asgL (Pl.asgL now ms) ms = Pl.asgL now ms)) (
              .req (True) (
               .fork (Pl.movL (Pl.asgL now ms) (Pl.asgL now ms) == (0 : Int)) (
                .req (True) (
                 .leaf ((true, ())))) (
                .leaf ((false, ()))))) (
              .leaf ((false, ())))))) (
           .leaf ((false, ()))))))))))))) : Tree (Bool × PUnit)) := by kernel_rfl
end Pl
namespace Pl
open Go Sx Go.Proofs Go.RowKit
theorem hasL_count {l : List Int} (h : l.length = 16) (x : Int) : hasL l x = l.count x := by
  have aux : ∀ (c j : Nat), j + c = 16 → cntB (fun p => atL l (p : Int) == x) c j = ((l.drop j).count x : Int) := by
    intro c
    induction c with
    | zero => intro j hj; rw [List.drop_eq_nil_of_le (by omega)]; rfl
    | succ c ih =>
      intro j hj
      have hd := drop_cons (l := l) (i := (j : Int)) 0 (by omega) (by omega)
      have e3 : ((j : Int) + 1).toNat = j + 1 := by omega
      rw [e3, Int.toNat_natCast] at hd
      rw [hd, List.count_cons]
      simp only [cntB, ih (j + 1) (by omega), atL_in h (by omega : j < 16)]
      split <;> omega
  have := aux 16 0 rfl
  exact this
theorem fair_good (now ms : List Int) (h : (memL ms).length ≠ 0) : fairP (memL ms) (asgL now ms) (quotaL now ms) = true := by
  obtain ⟨a1, a2, a3⟩ := asgL_all now ms h
  unfold fairP
  rw [List.all_eq_true]
  intro i hi
  have hi' := List.mem_range.1 hi
  have hb := quotaM_between now (memL ms) i (by omega) (memL_len ms) hi'
  have hq : quotaL now ms = quotaM now (memL ms) := by unfold quotaL; rw [if_neg h]
  simp only [Bool.and_eq_true, decide_eq_true_eq]
  exact ⟨⟨a3 i hi', by rw [hq]; exact hb.1⟩, by rw [hq]; exact hb.2⟩
theorem asg1_id (m t0 : List Int) (h : ∀ k, k < 16 → t0.getD k 0 ≠ -1) : ∀ (c p : Nat) (to la : List Int), p + c = 16 → asg1 m t0 c p to la = (to, la)
  | 0, _, _, _, _ => rfl
  | c + 1, p, to, la, hp => by
    simp only [asg1]
    rw [if_neg (by simpa using h p (by omega)), asg1_id m t0 h c (p + 1) to la (by omega)]
theorem asg0_same (l m q : List Int) (hl : l.length = 16) (hm : ∀ k, k < 16 → l.getD k 0 ∈ m) (hd : m.Nodup) (hq : q.length = m.length) (hc : ∀ i, i < m.length → (l.count (m.getD i 0) : Int) = q.getD i 0) :
    ∀ (c p : Nat) (to la : List Int), p + c = 16 → to.length = 16 → la.length = m.length → to.take p = l.take p → (∀ i, i < m.length → la.getD i 0 = q.getD i 0 - ((l.take p).count (m.getD i 0) : Int)) → (asg0 l m c p to la).1 = l
  | 0, p, to, la, hp, ht, _, hk, _ => by
    rw [List.take_of_length_le (by omega), List.take_of_length_le (by omega)] at hk
    exact hk
  | c + 1, p, to, la, hp, ht, hla, hk, hv => by
    have hmp := hm p (by omega)
    have hx : m.contains (l.getD p 0) = true := by simpa using hmp
    have hi : indexF m (l.getD p 0) = idxF (l.getD p 0) m 0 := by unfold indexF; rw [if_pos hx]
    obtain ⟨i1, _, i2, i3⟩ := idxF_ge (l.getD p 0) m 0 (by omega) hx
    rw [← hi] at i1 i2 i3
    rw [Int.sub_zero] at i3
    have hat := atL_in hl (by omega : p < 16)
    have hlt : (indexF m (l.getD p 0)).toNat < m.length := by omega
    have htk : l.take (p + 1) = l.take p ++ [l.getD p 0] := by
      have := take_succ (l := l) (i := (p : Int)) 0 (by omega) (by omega)
      rwa [show ((p : Int) + 1).toNat = p + 1 by omega, Int.toNat_natCast] at this
    have hpos : la.getD (indexF m (l.getD p 0)).toNat 0 > 0 := by
      rw [hv _ hlt, ← hc _ hlt, i3]
      have h1 : l.count (l.getD p 0) = (l.take (p + 1)).count (l.getD p 0) + (l.drop (p + 1)).count (l.getD p 0) := by
        rw [← List.count_append, List.take_append_drop]
      rw [htk, List.count_append, List.count_singleton, if_pos (beq_self_eq_true _)] at h1
      omega
    simp only [asg0]
    rw [hat, if_pos (by simp only [Bool.and_eq_true, decide_eq_true_eq]; exact ⟨by omega, hpos⟩), i3]
    refine asg0_same l m q hl hm hd hq hc c (p + 1) _ _ (by omega) (by simp [ht]) (by simp [hla]) ?_ (fun i hi' => ?_)
    · rw [set_take_succ _ (by omega), hk, htk]
    · rw [getD_set _ _ _ _ (by omega), htk, List.count_append, List.count_singleton]
      have h0 := hv i hi'
      split
      · rename_i e
        subst e
        rw [if_pos (by rw [i3]; exact beq_self_eq_true _)]; omega
      · rename_i e
        rw [if_neg (fun z => e (nodup_getD hd hi' hlt (by rw [i3]; exact (eq_of_beq z).symm)))]; omega
theorem again (now ms : List Int) (h : (memL ms).length ≠ 0) : quotaL (asgL now ms) ms = quotaL now ms ∧ asgL (asgL now ms) ms = asgL now ms := by
  obtain ⟨a1, a2, a3⟩ := asgL_all now ms h
  obtain ⟨q1, q2, q3⟩ := quotaL_all now ms h
  have hq : quotaL now ms = quotaM now (memL ms) := by unfold quotaL; rw [if_neg h]
  have hh : ∀ i, i < (memL ms).length → hasL (asgL now ms) ((memL ms).getD i 0) = (quotaL now ms).getD i 0 := fun i hi => by
    rw [hasL_count a1, a3 i hi]
  have e1 : quotaL (asgL now ms) ms = quotaL now ms := by
    have : quotaL (asgL now ms) ms = quotaM (asgL now ms) (memL ms) := by unfold quotaL; rw [if_neg h]
    rw [this]
    refine quotaM_again _ _ _ (by omega) (memL_len ms) q2 q1 fun i hi => ⟨hh i hi, ?_⟩
    rw [hq]
    exact quotaM_between now (memL ms) i (by omega) (memL_len ms) hi
  refine ⟨e1, ?_⟩
  have e2 : asgL (asgL now ms) ms = asgM (asgL now ms) (memL ms) (quotaL now ms) := by
    conv => lhs; unfold asgL
    rw [if_neg h]
    have : (if (memL ms).length = 0 then [] else asgM now (memL ms) (quotaL now ms)) = asgL now ms := rfl
    rw [this, e1]
  rw [e2]
  have e3 := asg0_same (asgL now ms) (memL ms) (quotaL now ms) a1 a2 (memL_nodup ms) q2 a3 16 0 (List.replicate 16 0) (quotaL now ms) (by omega) (by simp) q2 rfl (fun i _ => by simp)
  unfold asgM
  rw [e3, asg1_id _ _ (fun k hk e => by have := (memL_nn ms _ (a2 k hk)).1; omega) 16 0 _ _ (by omega)]
theorem mov_self (l : List Int) : movL l l = 0 := by
  unfold movL
  rw [cntB_all (b := false) (fun k _ _ => by simp)]; rfl
theorem lFb : LpsOK Try.prog Try.f4 [(1, LFb.sp)] := by
  refine .cons (LFb.sound W4_ok (lps := []) (n := 100) (inner rfl) (fun _ => rfl) ?_) .nil
  rintro ⟨ms, q, l, m, i, all, n0, i1, i2⟩ ⟨h1, h2, h3, h4, h5⟩
  simp only at h1 h2 h3 h4 h5
  rw [rFb]
  simp only [all_leaf, all_fork, all_req, conjP, and_true, true_and, decide_eq_true_eq, decide_eq_false_iff_not]
  have hd : ∀ c : i1 < (l.length : Int), (l.drop i1.toNat).count n0 = (l.drop (i1 + 1).toNat).count n0 + if l.getD i1.toNat 0 == n0 then 1 else 0 := fun c => by
    rw [drop_cons (l := l) 0 h1 c, List.count_cons]
  refine ⟨fun c => ⟨⟨h1, c⟩, ⟨h1, c⟩, fun d => ?_, fun d => ?_⟩, fun c => ⟨?_, trivial⟩⟩
  · rw [i64_inc (by omega) (by omega), i64_inc (by omega) (by omega)]
    refine ⟨⟨by dsimp only; omega, by dsimp only; omega, h3, by dsimp only; omega, by dsimp only; omega⟩, by simp only [LFb]; omega, ?_⟩
    simp only [LFb]
    have := hd c
    rw [if_pos d] at this
    rw [show i2 + 1 + ((l.drop (i1 + 1).toNat).count n0 : Int) = i2 + ((l.drop i1.toNat).count n0 : Int) by omega]
  · rw [i64_inc (by omega) (by omega)]
    refine ⟨⟨by dsimp only; omega, by dsimp only; omega, h3, h4, by dsimp only; omega⟩, by simp only [LFb]; omega, ?_⟩
    simp only [LFb]
    have := hd c
    rw [if_neg (by rw [d]; decide)] at this
    rw [this, Nat.add_zero]
  · rw [drop_end c]; simp
theorem lFa : LpsOK Try.prog Try.f4 [(0, LFa.sp)] := by
  refine .cons (LFa.sound W4_ok (lps := [(1, LFb.sp)]) (n := 100) (lFb.within (by kernel_rfl)) (fun _ => rfl) ?_) .nil
  rintro ⟨ms, q, l, m, i, all⟩ ⟨h1, h2, h3, h4, h5, h6, h7, h8, h9⟩
  simp only at h1 h2 h3 h4 h5 h6 h7 h8 h9
  rw [rFa]
  simp only [all_leaf, all_fork, all_req, conjP, and_true, true_and, decide_eq_true_eq, decide_eq_false_iff_not, List.nil_append]
  refine ⟨fun c => ?_, fun c => ⟨?_, trivial⟩⟩
  · have hf := h9
    unfold fairP at hf
    rw [List.all_eq_true] at hf
    have hi := hf i.toNat (List.mem_range.2 (by omega))
    simp only [Bool.and_eq_true, decide_eq_true_eq] at hi
    have hE : IntKind.i64.wrap (Int.tdiv 16 (m.length : Int)) = qEach (m.length : Int) := rfl
    have hn := qNum (n := (m.length : Int)) (by omega) (by omega)
    have hcnt := List.count_le_length (a := m.getD i.toNat 0) (l := l)
    rw [hE, IntWalk.i64_in (qEach (m.length : Int) + 1) (by omega), i64_inc (by omega) (by omega), IntWalk.i64_in (all + _) (by omega)]
    have qi : 0 ≤ i ∧ i < (q.length : Int) := ⟨h5, by omega⟩
    refine ⟨⟨h5, c⟩, ⟨h5, c⟩, ⟨by omega, by omega, h1, by omega, by omega⟩, ⟨qi, qi, fun _ => ⟨qi, qi, by omega, fun _ => ⟨qi, qi, by omega⟩⟩⟩, fun d => ?_, fun _ => ?_⟩
    · simp only [Bool.or_eq_true, bne_iff_ne, ne_eq, decide_eq_true_eq] at d
      omega
    · refine ⟨⟨h1, h2, h3, h4, by dsimp only; omega, by dsimp only; omega, by dsimp only; omega, by dsimp only; omega, h9⟩, by simp only [LFa]; omega, ?_⟩
      simp only [LFa]
      rw [drop_cons (l := q) 0 h5 (by omega), List.sum_cons, hi.1.1]
      rw [show all + (0 + q.getD i.toNat 0) + (q.drop (i + 1).toNat).sum = all + (q.getD i.toNat 0 + (q.drop (i + 1).toNat).sum) by omega]
  · rw [drop_end (by omega)]; simp
theorem fair_t (now ms : List Int) : (fnT W4 [(0, LFa.sp)] 100 Try.f4 [ints, ints] [.bool] (now, ms, ())).all fun y => y = (true, ()) := by
  refine Tree.all_eq (tFa now ms) ?_
  show Tree.all (α := Bool × Unit) _ Yes
  have h8 := memL_len ms
  simp only [all_leaf, all_fork, all_req, yes_t, yes_f, yes_iff, true_and, and_true, decide_eq_true_eq, decide_eq_false_iff_not, implies_true, conjP, beq_iff_eq, beq_eq_false_iff_ne, ne_eq, Bool.and_true, Bool.or_eq_false_iff]
  intro hn hm
  refine ⟨by omega, by omega, by omega, fun c => ?_, fun c => ?_⟩
  · have e : (memL ms).length = 0 := by omega
    have e1 : asgL now ms = [] := by unfold asgL; rw [if_pos e]
    have e2 : quotaL now ms = [] := by unfold quotaL; rw [if_pos e]
    rw [e1, e2]; simp
  · have hc : (memL ms).length ≠ 0 := by omega
    obtain ⟨a1, a2, a3⟩ := asgL_all now ms hc
    obtain ⟨q1, q2, q3⟩ := quotaL_all now ms hc
    obtain ⟨g1, g2⟩ := again now ms hc
    have hf := fair_good now ms hc
    have hs := mov_self (asgL now ms)
    refine ⟨fun d => ?_, fun _ => ⟨⟨a1, q2, by omega, h8, by omega, by omega, by omega, by omega, hf⟩, fun _ => ⟨by omega, by rw [g2]; omega, fun _ => ?_, fun d => absurd g2 d⟩, fun d => ?_⟩⟩
    · rw [a1, q2] at d; simp at d
    · intro d; exact absurd hs d
    · exact absurd (by rw [List.drop_zero, q1]; rfl) d
theorem bodyFa : Try.f4.body = some (bodyOf Try.f4) := by kernel_rfl
theorem fair_ok : PureOK Try.prog 4 [ints, ints] [.bool] (fun _ => True) (fun _ => (true, ())) :=
  fn_pure (E := W4) (n := 100) W4_ok Try.func4 bodyFa lFa fun x _ => fair_t x.1 x.2.1
end Pl
