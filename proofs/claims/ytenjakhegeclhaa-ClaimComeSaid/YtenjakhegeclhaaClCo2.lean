import Derived.Test.YtenjakhegeclhaaClCs2
namespace Pl
open Go Sx Go.Proofs Go.RowKit
def dropN (n : Int) (l : List Int) : List Int := l.filter (fun x => !(x == n))
structure ACo where
  ms : List Int
  n0 : Int
  i1 : Int
  l2 : List Int
def LCo : LoopC ACo where
  n0 := 3
  det st := match rowS st 21 i64, intS st 1, intS st 23, rowS st 5 i64 with | some ms, some n0, some i1, some l2 => some ⟨ms, n0, i1, l2⟩ | _, _, _, _ => none
  rows := [(3, .slot 5)]
  inv a := ⟨[(5, .one (.row 3)), (23, iv a.i1), (22, iv (↑a.ms.length : Int)), (21, .one (.row 0)), (1, iv a.n0)],
    [(0, .ro i64 a.ms), (3, .own i64 a.l2)], 4⟩
  ok a := 0 ≤ a.i1 ∧ a.i1 ≤ a.ms.length ∧ a.ms.length ≤ 100 ∧ (a.l2.length : Int) ≤ a.i1
  mu a := a.ms.length - a.i1.toNat
  fin a := .leaf ⟨2, ⟨[(5, .one (.row 3)), (1, iv a.n0)], [(3, .own i64 (a.l2 ++ dropN a.n0 (a.ms.drop a.i1.toNat)))], 4⟩⟩
def goodC (a b c : List Int) (n : Int) : Bool := (List.range 16).all (fun p => (decide (a.getD p 0 = b.getD p 0) || decide (b.getD p 0 = n)) && (decide (b.getD p 0 = c.getD p 0) || decide (b.getD p 0 = n)) && !decide (c.getD p 0 = n))
structure ACp where
  l0 : List Int
  l1 : List Int
  l2 : List Int
  n3 : Int
  i4 : Int
def LCp : LoopC ACp where
  n0 := 12
  det st := match rowS st 10 i64, rowS st 9 i64, rowS st 8 i64, intS st 1, intS st 68 with | some l0, some l1, some l2, some n3, some i4 => some ⟨l0, l1, l2, n3, i4⟩ | _, _, _, _, _ => none
  inv a := ⟨[(68, iv a.i4), (67, iv (↑a.l2.length : Int)), (10, .one (.row 11)), (9, .one (.row 10)), (8, .one (.row 5)), (1, iv a.n3)],
    [(11, .ro i64 a.l0), (10, .ro i64 a.l1), (5, .ro i64 a.l2)], 12⟩
  ok a := a.l0.length = 16 ∧ a.l1.length = 16 ∧ a.l2.length = 16 ∧ 0 ≤ a.i4 ∧ a.i4 ≤ 16 ∧ goodC a.l2 a.l1 a.l0 a.n3 = true
  mu a := 16 - a.i4.toNat
  fin a := .leaf ⟨4, ⟨[], [], 12⟩⟩
theorem rCo (ms : List Int) (n0 i1 : Int) (l2 : List Int) : @Eq _
  (LCo.round W4 [] 100 Try.f6 0 ⟨ms, n0, i1, l2⟩)
  (.fork (decide (i1 < (↑ms.length : Int))) (
 .req ((0 : Int) ≤ i1 ∧ i1 < (↑ms.length : Int)) (
  .req ((0 : Int) ≤ i1 ∧ i1 < (↑ms.length : Int)) (
   .fork (ms.getD i1.toNat (0 : Int) != n0) (
    .req ((l2.length + 1) * 9 ≤ 70368744177664) (
     .req (IntKind.i64.wrap (i1 + (1 : Int)) = IntKind.i64.wrap (i1 + (1 : Int)) ∧ (↑ms.length : Int) = (↑ms.length : Int) ∧ n0 = n0 ∧ ms = ms ∧ l2 ++ [ms.getD i1.toNat (0 : Int)] = l2 ++ [ms.getD i1.toNat (0 : Int)]) (
      .leaf (Option.some { ms := ms, n0 := n0, i1 := IntKind.i64.wrap (i1 + (1 : Int)), l2 := l2 ++ [ms.getD i1.toNat (0 : Int)] })))) (
    .req (IntKind.i64.wrap (i1 + (1 : Int)) = IntKind.i64.wrap (i1 + (1 : Int)) ∧ (↑ms.length : Int) = (↑ms.length : Int) ∧ n0 = n0 ∧ ms = ms ∧ l2 = l2) (
     .leaf (Option.some { ms := ms, n0 := n0, i1 := IntKind.i64.wrap (i1 + (1 : Int)), l2 := l2 })))))) (
 .req (n0 = n0 ∧ l2 = l2 ++ Pl.dropN n0 (List.drop i1.toNat ms)) (
  .leaf (Option.none))) : Tree (Option Pl.ACo)) := by kernel_rfl
theorem rCp (l0 l1 l2 : List Int) (n3 i4 : Int) : @Eq _
  (LCp.round W4 [] 100 Try.f6 1 ⟨l0, l1, l2, n3, i4⟩)
  (.fork (decide (i4 < (↑l2.length : Int))) (
 .req (((0 : Int) ≤ i4 ∧ i4 < (↑l2.length : Int)) ∧ ((0 : Int) ≤ i4 ∧ i4 < (↑l2.length : Int)) ∧ ((0 : Int) ≤ i4 ∧ i4 < (↑l1.length : Int)) ∧ ((0 : Int) ≤ i4 ∧ i4 < (↑l1.length : Int)) ∧ ((l2.getD i4.toNat (0 : Int) != l1.getD i4.toNat (0 : Int)) = true → conjP (((0 : Int) ≤ i4 ∧ i4 < (↑l1.length : Int)) :: ((0 : Int) ≤ i4 ∧ i4 < (↑l1.length : Int)) :: (([] : List Prop) ++ [(l1.getD i4.toNat (0 : Int) != n3) = false → conjP (((0 : Int) ≤ i4 ∧ i4 < (↑l1.length : Int)) :: ((0 : Int) ≤ i4 ∧ i4 < (↑l1.length : Int)) :: ((0 : Int) ≤ i4 ∧ i4 < (↑l0.length : Int)) :: ((0 : Int) ≤ i4 ∧ i4 < (↑l0.length : Int)) :: ([(l1.getD i4.toNat (0 : Int) != l0.getD i4.toNat (0 : Int)) = true → conjP (((0 : Int) ≤ i4 ∧ i4 < (↑l1.length : Int)) :: ((0 : Int) ≤ i4 ∧ i4 < (↑l1.length : Int)) :: (([] : List Prop) ++ [(l1.getD i4.toNat (0 : Int) != n3) = false → conjP [(0 : Int) ≤ i4 ∧ i4 < (↑l0.length : Int), (0 : Int) ≤ i4 ∧ i4 < (↑l0.length : Int)]]))] ++ [(l1.getD i4.toNat (0 : Int) != l0.getD i4.toNat (0 : Int)) = false → conjP [(0 : Int) ≤ i4 ∧ i4 < (↑l0.length : Int), (0 : Int) ≤ i4 ∧ i4 < (↑l0.length : Int)]]))]))) ∧ ((l2.getD i4.toNat (0 : Int) != l1.getD i4.toNat (0 : Int)) = false → conjP (((0 : Int) ≤ i4 ∧ i4 < (↑l1.length : Int)) :: ((0 : Int) ≤ i4 ∧ i4 < (↑l1.length : Int)) :: ((0 : Int) ≤ i4 ∧ i4 < (↑l0.length : Int)) :: ((0 : Int) ≤ i4 ∧ i4 < (↑l0.length : Int)) :: ([(l1.getD i4.toNat (0 : Int) != l0.getD i4.toNat (0 : Int)) = true → conjP (((0 : Int) ≤ i4 ∧ i4 < (↑l1.length : Int)) :: ((0 : Int) ≤ i4 ∧ i4 < (↑l1.length : Int)) :: (([] : List Prop) ++ [(l1.getD i4.toNat (0 : Int) != n3) = false → conjP [(0 : Int) ≤ i4 ∧ i4 < (↑l0.length : Int), (0 : Int) ≤ i4 ∧ i4 < (↑l0.length : Int)]]))] ++ [(l1.getD i4.toNat (0 : Int) != l0.getD i4.toNat (0 : Int)) = false → conjP [(0 : Int) ≤ i4 ∧ i4 < (↑l0.length : Int), (0 : Int) ≤ i4 ∧ i4 < (↑l0.length : Int)]])))) (
  .fork (bif l2.getD i4.toNat (0 : Int) != l1.getD i4.toNat (0 : Int) then l1.getD i4.toNat (0 : Int) != n3 || bif l1.getD i4.toNat (0 : Int) != l0.getD i4.toNat (0 : Int) then l1.getD i4.toNat (0 : Int) != n3 || l0.getD i4.toNat (0 : Int) == n3 else l0.getD i4.toNat (0 : Int) == n3 else bif l1.getD i4.toNat (0 : Int) != l0.getD i4.toNat (0 : Int) then l1.getD i4.toNat (0 : Int) != n3 || l0.getD i4.toNat (0 : Int) == n3 else l0.getD i4.toNat (0 : Int) == n3) (
   .req (False) (
    .leaf (Option.none))) (
   .req (IntKind.i64.wrap (i4 + (1 : Int)) = IntKind.i64.wrap (i4 + (1 : Int)) ∧ (↑l2.length : Int) = (↑l2.length : Int) ∧ n3 = n3 ∧ l0 = l0 ∧ l1 = l1 ∧ l2 = l2) (
    .leaf (Option.some { l0 := l0, l1 := l1, l2 := l2, n3 := n3, i4 := IntKind.i64.wrap (i4 + (1 : Int)) }))))) (
 .req (True) (
  .leaf (Option.none))) : Tree (Option Pl.ACp)) := by kernel_rfl
theorem tCo (ms : List Int) (n : Int) : @Eq _
  (fnT W4 [(0, viaP [(5, i64)] LCo.sp), (1, LCp.sp)] 100 Try.f6 [ints, i64] [.bool] (ms, n, ()))
  (.fork (decide ((↑ms.length : Int) > (100 : Int))) (
 .req (True) (
  .leaf ((true, ())))) (
 .req ((8 : Int) ≠ (0 : Int)) (
  .req ((0 : Int) ≤ (0 : Int) ∧ (0 : Int) ≤ (↑ms.length : Int) ∧ ms.length ≤ 100 ∧ (0 : Int) ≤ (0 : Int)) (
   .req ((0 : Int) = (0 : Int) ∧ (↑ms.length : Int) = (↑ms.length : Int) ∧ IntKind.i64.wrap ((IntKind.u64.wrap n).tmod (8 : Int)) = IntKind.i64.wrap ((IntKind.u64.wrap n).tmod (8 : Int)) ∧ ms = ms ∧ ([] : List Int) = ([] : List Int)) (
    .req ((↑(([] : List Int) ++ Pl.dropN (IntKind.i64.wrap ((IntKind.u64.wrap n).tmod (8 : Int))) ms).length : Int) < (4611686018427387904 : Int)) (
     .fork ((↑(Pl.memL (([] : List Int) ++ Pl.dropN (IntKind.i64.wrap ((IntKind.u64.wrap n).tmod (8 : Int))) ms)).length : Int) == (0 : Int)) (
      .req (True) (
       .leaf ((true, ())))) (
      .req ((↑(([] : List Int) ++ Pl.dropN (IntKind.i64.wrap ((IntKind.u64.wrap n).tmod (8 : Int))) ms).length : Int) < (4611686018427387904 : Int)) (
       .req ((0 + (([] : List Int) ++ Pl.dropN (IntKind.i64.wrap ((IntKind.u64.wrap n).tmod (8 : Int))) ms).length) * 9 ≤ 70368744177664) (
        .req (((([] : List Int) ++ (([] : List Int) ++ Pl.dropN (IntKind.i64.wrap ((IntKind.u64.wrap n).tmod (8 : Int))) ms)).length + 1) * 9 ≤ 70368744177664) (
         .req ((↑(([] : List Int) ++ (([] : List Int) ++ Pl.dropN (IntKind.i64.wrap ((IntKind.u64.wrap n).tmod (8 : Int))) ms) ++ [IntKind.i64.wrap ((IntKind.u64.wrap n).tmod (8 : Int))]).length : Int) < (4611686018427387904 : Int)) (
          .req ((↑(([] : List Int) ++ Pl.dropN (IntKind.i64.wrap ((IntKind.u64.wrap n).tmod (8 : Int))) ms).length : Int) < (4611686018427387904 : Int)) (
           .req (True) (
            .fork ((↑(Pl.asgL (([] : List Int)) (([] : List Int) ++ Pl.dropN (IntKind.i64.wrap ((IntKind.u64.wrap n).tmod (8 : Int))) ms)).length : Int) != (16 : Int) || ((↑(Pl.asgL (Pl.asgL (([] : List Int)) (([] : List Int) ++ Pl.dropN (IntKind.i64.wrap ((IntKind.u64.wrap n).tmod (8 : Int))) ms)) (([] : List Int) ++ (([] : List Int) ++ Pl.dropN (IntKind.i64.wrap ((IntKind.u64.wrap n).tmod (8 : Int))) ms) ++ [IntKind.i64.wrap ((IntKind.u64.wrap n).tmod (8 : Int))])).length : Int) != (16 : Int) || (↑(Pl.asgL (Pl.asgL (Pl.asgL (([] : List Int)) (([] : List Int) ++ Pl.dropN (IntKind.i64.wrap ((IntKind.u64.wrap n).tmod (8 : Int))) ms)) (([] : List Int) ++ (([] : List Int) ++ Pl.dropN (IntKind.i64.wrap ((IntKind.u64.wrap n).tmod (8 : Int))) ms) ++ [IntKind.i64.wrap ((IntKind.u64.wrap n).tmod (8 : Int))])) (([] : List Int) ++ Pl.dropN (IntKind.i64.wrap ((IntKind.u64.wrap n).tmod (8 : Int))) ms)).length : Int) != (16 : Int))) (
             .leaf ((false, ()))) (
             .req ((Pl.asgL (Pl.asgL (Pl.asgL (([] : List Int)) (([] : List Int) ++ Pl.dropN (IntKind.i64.wrap ((IntKind.u64.wrap n).tmod (8 : Int))) ms)) (([] : List Int) ++ (([] : List Int) ++ Pl.dropN (IntKind.i64.wrap ((IntKind.u64.wrap n).tmod (8 : Int))) ms) ++ [IntKind.i64.wrap ((IntKind.u64.wrap n).tmod (8 : Int))])) (([] : List Int) ++ Pl.dropN (IntKind.i64.wrap ((IntKind.u64.wrap n).tmod (8 : Int))) ms)).length = 16 ∧ (Pl.asgL (Pl.asgL (([] : List Int)) (([] : List Int) ++ Pl.dropN (IntKind.i64.wrap ((IntKind.u64.wrap n).tmod (8 : Int))) ms)) (([] : List Int) ++ (([] : List Int) ++ Pl.dropN (IntKind.i64.wrap ((IntKind.u64.wrap n).tmod (8 : Int))) ms) ++ [IntKind.i64.wrap ((IntKind.u64.wrap n).tmod (8 : Int))])).length = 16 ∧ (Pl.asgL (([] : List Int)) (([] : List Int) ++ Pl.dropN (IntKind.i64.wrap ((IntKind.u64.wrap n).tmod (8 : Int))) ms)).length = 16 ∧ (0 : Int) ≤ (0 : Int) ∧ (0 : Int) ≤ (16 : Int) ∧ Pl.goodC (Pl.asgL (([] : List Int)) (([] : List Int) ++ Pl.dropN (IntKind.i64.wrap ((IntKind.u64.wrap n).tmod (8 : Int))) ms)) (Pl.asgL (Pl.asgL (([] : List Int)) (([] : List Int) ++ Pl.dropN (IntKind.i64.wrap ((IntKind.u64.wrap n).tmod (8 : Int))) ms)) (([] : List Int) ++ (([] : List Int) ++ Pl.dropN (IntKind.i64.wrap ((IntKind.u64.wrap n).tmod (8 : Int))) ms) ++ [IntKind.i64.wrap ((IntKind.u64.wrap n).tmod (8 : Int))])) (Pl.asgL (Pl.asgL (Pl.asgL (([] : List Int)) (([] : List Int) ++ Pl.dropN (IntKind.i64.wrap ((IntKind.u64.wrap n).tmod (8 : Int))) ms)) (([] : List Int) ++ (([] : List Int) ++ Pl.dropN (IntKind.i64.wrap ((IntKind.u64.wrap n).tmod (8 : Int))) ms) ++ [IntKind.i64.wrap ((IntKind.u64.wrap n).tmod (8 : Int))])) (([] : List Int) ++ Pl.dropN (IntKind.i64.wrap ((IntKind.u64.wrap n).tmod (8 : Int))) ms)) (IntKind.i64.wrap ((IntKind.u64.wrap n).tmod (8 : Int))) = true) (
              .req ((0 : Int) = (0 : Int) ∧ (↑(Pl.asgL (([] : List Int)) (([] : List Int) ++ Pl.dropN (IntKind.i64.wrap ((IntKind.u64.wrap n).tmod (8 : Int))) ms)).length : Int) = (↑(Pl.asgL (([] : List Int)) (([] : List Int) ++ Pl.dropN (IntKind.i64.wrap ((IntKind.u64.wrap n).tmod (8 : Int))) ms)).length : Int) ∧ IntKind.i64.wrap ((IntKind.u64.wrap n).tmod (8 : Int)) = IntKind.i64.wrap ((IntKind.u64.wrap n).tmod (8 : Int)) ∧ Pl.asgL (Pl.asgL (Pl.asgL (([] : List Int)) (([] : List Int) ++ Pl.dropN (IntKind.i64.wrap ((IntKind.u64.wrap n).tmod (8 : Int))) ms)) (([] : List Int) ++ (([] : List Int) ++ Pl.dropN (IntKind.i64.wrap ((IntKind.u64.wrap n).tmod (8 : Int))) ms) ++ [IntKind.i64.wrap ((IntKind.u64.wrap n).tmod (8 : Int))])) (([] : List Int) ++ Pl.dropN (IntKind.i64.wrap ((IntKind.u64.wrap n).tmod (8 : Int))) ms) = Pl.asgL (Pl.asgL (Pl.asgL (([] : List Int)) (([] : List Int) ++ Pl.dropN (IntKind.i64.wrap ((IntKind.u64.wrap n).tmod (8 : Int))) ms)) (([] : List Int) ++ (([] : List Int) ++ Pl.dropN (IntKind.i64.wrap ((IntKind.u64.wrap n).tmod (8 : Int))) ms) ++ [IntKind.i64.wrap ((IntKind.u64.wrap n).tmod (8 : Int))])) (([] : List Int) ++ Pl.dropN (IntKind.i64.wrap ((IntKind.u64.wrap n).tmod (8 : Int))) ms) ∧ Pl.asgL (Pl.asgL (([] : List Int)) (([] : List Int) ++ Pl.dropN (IntKind.i64.wrap ((IntKind.u64.wrap n).tmod (8 : Int))) ms)) (([] : List Int) ++ (([] : List Int) ++ Pl.dropN (IntKind.i64.wrap ((IntKind.u64.wrap n).tmod (8 : Int))) ms) ++ [IntKind.i64.wrap ((IntKind.u64.wrap n).tmod (8 : Int))]) = Pl.asgL (Pl.asgL (([] : List Int)) (([] : List Int) ++ Pl.dropN (IntKind.i64.wrap ((IntKind.u64.wrap n).tmod (8 : Int))) ms)) (([] : List Int) ++ (([] : List Int) ++ Pl.dropN (IntKind.i64.wrap ((IntKind.u64.wrap n).tmod (8 : Int))) ms) ++ [IntKind.i64.wrap ((IntKind.u64.wrap n).tmod (8 : Int))]) ∧ Pl.asgL (([] : List Int)) (([] : List Int) ++ Pl.dropN (IntKind.i64.wrap ((IntKind.u64.wrap n).tmod (8 : Int))) ms) = Pl.asgL (([] : List Int)) (([] : List Int) ++ Pl.dropN (IntKind.i64.wrap ((IntKind.u64.wrap n).tmod (8 : Int))) ms)) (
               .req (True) (
                .leaf ((true, ())))))))))))))))))) : Tree (Bool × PUnit)) := by kernel_rfl
end Pl
namespace Pl
open Go Sx Go.Proofs Go.RowKit
theorem fltB_length (f : Nat → Bool) : ∀ c j, ((fltB f c j).length : Int) = cntB f c j
  | 0, _ => rfl
  | c + 1, j => by
    have := fltB_length f c (j + 1)
    simp only [fltB, cntB]
    split
    · simp only [List.length_cons]; omega
    · omega
theorem rch_fltB (now : List Int) (e : Int) (b : Bool) (f : Nat → Bool) : ∀ c j, rch now e b (fltB f c j) = cntB (fun k => f k && (decide (hasL now (k : Int) > e) == b)) c j
  | 0, _ => rfl
  | c + 1, j => by
    have := rch_fltB now e b f c (j + 1)
    simp only [fltB, cntB]
    by_cases h : f j = true
    · simp only [h, if_true, Bool.true_and, rch, this]
    · have h' : f j = false := by simpa using h
      simp [h', this]
theorem cntB_imp {f g : Nat → Bool} : ∀ (c j : Nat), (∀ k, j ≤ k → k < j + c → f k = true → g k = true) → cntB g c j ≤ cntB f c j → ∀ k, j ≤ k → k < j + c → g k = true → f k = true
  | 0, _, _, _, k, h1, h2, _ => by omega
  | c + 1, j, h, e, k, h1, h2, hk => by
    have hs : ∀ k, j + 1 ≤ k → k < j + 1 + c → f k = true → g k = true := fun k a b => h k (by omega) (by omega)
    have hle := cntB_le c (j + 1) hs
    have h0 := h j (by omega) (by omega)
    simp only [cntB] at e
    by_cases c1 : k = j
    · subst c1
      cases hf : f k
      · rw [hf, hk] at e; simp at e; omega
      · rfl
    · refine cntB_imp c (j + 1) hs ?_ k (by omega) (by omega) hk
      cases hf : f j <;> cases hg : g j <;> simp [hf, hg] at e h0 ⊢ <;> omega
theorem one8 {n : Int} (h0 : 0 ≤ n) (h1 : n < 8) : cntB (fun k => (k : Int) == n) 8 0 = 1 := by
  have : n = 0 ∨ n = 1 ∨ n = 2 ∨ n = 3 ∨ n = 4 ∨ n = 5 ∨ n = 6 ∨ n = 7 := by omega
  rcases this with h | h | h | h | h | h | h | h <;> subst h <;> rfl
theorem qExp (now m : List Int) : quotaM now m = (qLoop now (qEach (m.length : Int)) false m ((0 : Nat) : Int) (qLoop now (qEach (m.length : Int)) true m ((0 : Nat) : Int) (List.replicate m.length (qEach (m.length : Int))) (Int.tmod 16 (m.length : Int))).1 (qLoop now (qEach (m.length : Int)) true m ((0 : Nat) : Int) (List.replicate m.length (qEach (m.length : Int))) (Int.tmod 16 (m.length : Int))).2).1 := rfl
theorem quotaM_E (now m : List Int) (i : Nat) (h1 : 1 ≤ m.length) (h8 : m.length ≤ 8) (hi : i < m.length) (hc : ¬ hasL now (m.getD i 0) > qEach (m.length : Int)) (hr : Int.tmod 16 (m.length : Int) ≤ rch now (qEach (m.length : Int)) true m) : (quotaM now m).getD i 0 = qEach (m.length : Int) := by
  have hn := qNum (n := (m.length : Int)) (by omega) (by omega)
  have hm := qLoop_more now (qEach (m.length : Int)) true m ((0 : Nat) : Int) (List.replicate m.length (qEach (m.length : Int))) (Int.tmod 16 (m.length : Int)) hn.2.2.1
  rw [qExp, qLoop_D _ _ _ _ _ _ _ (by omega), qLoop_B now (qEach (m.length : Int)) true i m 0 _ _ (by simp) (fun _ _ => by rw [Nat.sub_zero]; simpa using hc), rep_getD _ _ _ hi]
theorem quotaM_F (now m : List Int) (i : Nat) (h1 : 1 ≤ m.length) (h8 : m.length ≤ 8) (hi : i < m.length) (hc : hasL now (m.getD i 0) > qEach (m.length : Int)) (hr : rch now (qEach (m.length : Int)) true m ≤ Int.tmod 16 (m.length : Int)) : (quotaM now m).getD i 0 = qEach (m.length : Int) + 1 := by
  have hl := qLoop_len now (qEach (m.length : Int)) true m ((0 : Nat) : Int) (List.replicate m.length (qEach (m.length : Int))) (Int.tmod 16 (m.length : Int))
  rw [List.length_replicate] at hl
  rw [qExp, qLoop_B now (qEach (m.length : Int)) false i m 0 _ _ (by omega) (fun _ _ => by rw [Nat.sub_zero, decide_eq_true hc]; rfl), qLoop_C now (qEach (m.length : Int)) true i m 0 _ _ (by simp) hr (by omega) (by omega) (by rw [Nat.sub_zero, decide_eq_true hc]; rfl), rep_getD _ _ _ hi]
theorem mem_getD {l : List Int} {x : Int} (h : x ∈ l) : ∃ i, i < l.length ∧ l.getD i 0 = x := by
  obtain ⟨i, hi, e⟩ := List.getElem_of_mem h
  exact ⟨i, hi, by rw [getD_get 0 hi, e]⟩
theorem count_out {l m : List Int} (hl : l.length = 16) (hm : ∀ k, k < 16 → l.getD k 0 ∈ m) {x : Int} (hx : x ∉ m) : l.count x = 0 := by
  refine List.count_eq_zero.2 fun h => ?_
  obtain ⟨i, hi, e⟩ := mem_getD h
  exact hx (e ▸ hm i (by omega))
theorem rch_all (now ms : List Int) (h : (memL ms).length ≠ 0) : rch (asgL now ms) (qEach ((memL ms).length : Int)) true (memL ms) = Int.tmod 16 ((memL ms).length : Int) := by
  obtain ⟨a1, a2, a3⟩ := asgL_all now ms h
  obtain ⟨q1, q2, q3⟩ := quotaL_all now ms h
  have hq : quotaL now ms = quotaM now (memL ms) := by unfold quotaL; rw [if_neg h]
  have h8 := memL_len ms
  rw [rch_sum (asgL now ms) _ (memL ms) (quotaL now ms) q2 (fun i hi => ⟨by rw [hasL_count a1, a3 i hi], by rw [hq]; exact quotaM_between now (memL ms) i (by omega) h8 hi⟩), q1]
  have := n16 (n := (memL ms).length) (by omega) h8
  omega

theorem cnt_mem (now ms : List Int) (h : (memL ms).length ≠ 0) {v : Int} (hv : v ∈ memL ms) : ∃ i, i < (memL ms).length ∧ (memL ms).getD i 0 = v ∧ ((asgL now ms).count v : Int) = (quotaM now (memL ms)).getD i 0 ∧ qEach ((memL ms).length : Int) ≤ ((asgL now ms).count v : Int) ∧ ((asgL now ms).count v : Int) ≤ qEach ((memL ms).length : Int) + 1 := by
  obtain ⟨i, hi, e⟩ := mem_getD hv
  have h8 := memL_len ms
  have hq : quotaL now ms = quotaM now (memL ms) := by unfold quotaL; rw [if_neg h]
  have h3 := (asgL_all now ms h).2.2 i hi
  have hb := quotaM_between now (memL ms) i (by omega) h8 hi
  rw [e, hq] at h3
  exact ⟨i, hi, e, h3, by omega, by omega⟩
theorem kept_mem (now ms : List Int) (h : (memL ms).length ≠ 0) (hn : now.length = 16) {v : Int} (hv : v ∈ memL ms) : cntB (keptF now (asgL now ms) v) 16 0 = min (now.count v : Int) ((asgL now ms).count v : Int) := by
  obtain ⟨i, hi, e⟩ := mem_getD hv
  have h3 := (asgL_all now ms h).2.2 i hi
  have hk := stays_kept now ms h i hi
  rw [e] at h3 hk
  rw [hk, ← h3]
  have : cntB (hadF now v) 16 0 = (now.count v : Int) := by
    have := cntB_count (l := now) v 16 0 (by omega)
    rw [List.drop_zero] at this
    rw [← this]
    refine cntB_congr _ _ 16 0 fun k _ hk => ?_
    unfold hadF
    rw [decide_eq_true (by omega), Bool.true_and]
  rw [this]
theorem come_all (now m1 m2 : List Int) (n : Int) (h0 : 0 ≤ n) (h8 : n < 8) (hc : (memL m1).length ≠ 0) (hin : ∀ k : Nat, k < 8 → m2.contains (k : Int) = (m1.contains (k : Int) || ((k : Int) == n))) (hno : m1.contains n = false) :
    goodC (asgL now m1) (asgL (asgL now m1) m2) (asgL (asgL (asgL now m1) m2) m1) n = true := by
  have hlen : ((memL m2).length : Int) = (memL m1).length + 1 := by
    unfold memL
    rw [fltB_length, fltB_length, ← one8 h0 h8]
    refine cntB_add 8 0 fun k _ hk => ⟨hin k (by omega), ?_⟩
    by_cases e : (k : Int) = n
    · rw [e, hno]; rfl
    · rw [beq_eq_false_iff_ne.2 e, Bool.and_false]
  have l1 := memL_len m1
  have l2 := memL_len m2
  have hc2 : (memL m2).length ≠ 0 := by omega
  have hsub : ∀ v, v ∈ memL m2 → v ≠ n → v ∈ memL m1 := fun v hv hne => by
    obtain ⟨k, _, k2, k3, k4⟩ := (fltB_mem _ _ _ _).1 hv
    have := hin k (by omega)
    rw [k3] at this
    refine (fltB_mem _ _ _ _).2 ⟨k, by omega, by omega, ?_, k4⟩
    rw [beq_eq_false_iff_ne.2 (by omega), Bool.or_false] at this
    exact this.symm
  have hsup : ∀ v, v ∈ memL m1 → v ∈ memL m2 := fun v hv => by
    obtain ⟨k, _, k2, k3, k4⟩ := (fltB_mem _ _ _ _).1 hv
    refine (fltB_mem _ _ _ _).2 ⟨k, by omega, by omega, ?_, k4⟩
    show m2.contains (k : Int) = true
    rw [hin k (by omega), k3]; rfl
  have hnm : n ∉ memL m1 := fun h => by
    obtain ⟨k, _, k2, k3, k4⟩ := (fltB_mem _ _ _ _).1 h
    rw [← k4, hno] at k3; exact absurd k3 (by decide)
  obtain ⟨a1, a2, a3⟩ := asgL_all now m1 hc
  have ra := rch_all now m1 hc
  have fa := fun v (hv : v ∈ memL m1) => cnt_mem now m1 hc hv
  generalize asgL now m1 = a at *
  obtain ⟨b1, b2, b3⟩ := asgL_all a m2 hc2
  have rb := rch_all a m2 hc2
  have fb := fun v (hv : v ∈ memL m2) => cnt_mem a m2 hc2 hv
  have kb := fun v (hv : v ∈ memL m2) => kept_mem a m2 hc2 a1 hv
  obtain ⟨c1, c2, c3⟩ := asgL_all (asgL a m2) m1 hc
  have fc := fun v (hv : v ∈ memL m1) => cnt_mem (asgL a m2) m1 hc hv
  have kc := fun v (hv : v ∈ memL m1) => kept_mem (asgL a m2) m1 hc b1 hv
  have n1 := n16 (n := (memL m1).length) (by omega) l1
  have n2 := n16 (n := (memL m2).length) (by omega) l2
  have u1 := qNum (n := ((memL m1).length : Int)) (by omega) (by omega)
  have u2 := qNum (n := ((memL m2).length : Int)) (by omega) (by omega)
  have hee : qEach ((memL m2).length : Int) ≤ qEach ((memL m1).length : Int) ∧ (qEach ((memL m2).length : Int) = qEach ((memL m1).length : Int) → Int.tmod 16 ((memL m2).length : Int) ≤ Int.tmod 16 ((memL m1).length : Int)) := by
    rw [hlen]
    have : (memL m1).length = 1 ∨ (memL m1).length = 2 ∨ (memL m1).length = 3 ∨ (memL m1).length = 4 ∨ (memL m1).length = 5 ∨ (memL m1).length = 6 ∨ (memL m1).length = 7 := by omega
    rcases this with h | h | h | h | h | h | h <;> rw [h] <;> decide
  have q1 : ∀ v, v ∈ memL m1 → ((asgL a m2).count v : Int) ≤ (a.count v : Int) := fun v hv => by
    obtain ⟨i, hi, e, _, x2, x3⟩ := fa v hv
    obtain ⟨j, hj, e', y1, y2, y3⟩ := fb v (hsup v hv)
    by_cases z : ((asgL a m2).count v : Int) ≤ (a.count v : Int)
    · exact z
    · exfalso
      have ee : qEach ((memL m2).length : Int) = qEach ((memL m1).length : Int) := by omega
      have hv1 : (a.count v : Int) = qEach ((memL m1).length : Int) := by omega
      have hrr : rch a (qEach ((memL m2).length : Int)) true (memL m2) = rch a (qEach ((memL m1).length : Int)) true (memL m1) := by
        rw [ee]
        unfold memL
        rw [rch_fltB, rch_fltB]
        refine cntB_congr _ _ 8 0 fun k _ hk => ?_
        rw [hin k (by omega)]
        by_cases d : (k : Int) = n
        · rw [d, hno, hasL_count a1, count_out a1 a2 hnm]
          have : decide (((0 : Nat) : Int) > qEach ((fltB (fun n => m1.contains (n : Int)) 8 0).length : Int)) = false := decide_eq_false (by show ¬ ((0 : Nat) : Int) > qEach ((memL m1).length : Int); omega)
          rw [this]; simp
        · rw [beq_eq_false_iff_ne.2 d, Bool.or_false]
      have := quotaM_E a (memL m2) j (by omega) l2 hj (by rw [e', hasL_count a1]; omega) (by rw [hrr, ra]; exact hee.2 ee)
      omega
  have q2 : ∀ v, v ∈ memL m1 → ((asgL a m2).count v : Int) ≤ ((asgL (asgL a m2) m1).count v : Int) := fun v hv => by
    obtain ⟨i, hi, e, x1, x2, x3⟩ := fc v hv
    obtain ⟨j, hj, e', y1, y2, y3⟩ := fb v (hsup v hv)
    by_cases z : ((asgL a m2).count v : Int) ≤ ((asgL (asgL a m2) m1).count v : Int)
    · exact z
    · exfalso
      have ee : qEach ((memL m2).length : Int) = qEach ((memL m1).length : Int) := by omega
      have hrr : rch (asgL a m2) (qEach ((memL m1).length : Int)) true (memL m1) ≤ rch (asgL a m2) (qEach ((memL m2).length : Int)) true (memL m2) := by
        rw [ee]
        unfold memL
        rw [rch_fltB, rch_fltB]
        refine cntB_le 8 0 fun k _ hk hf => ?_
        rw [hin k (by omega)]
        simp only [Bool.and_eq_true, Bool.or_eq_true] at hf ⊢
        exact ⟨.inl hf.1, hf.2⟩
      have := quotaM_F (asgL a m2) (memL m1) i (by omega) l1 hi (by rw [e, hasL_count b1]; omega) (by have := hee.2 ee; omega)
      omega
  have p1 : ∀ p, p < 16 → (asgL a m2).getD p 0 ≠ n → a.getD p 0 = (asgL a m2).getD p 0 := fun p hp hne => by
    have hv := hsub _ (b2 p hp) hne
    have hk := kb _ (hsup _ hv)
    have hq := q1 _ hv
    generalize hx : (asgL a m2).getD p 0 = v at *
    have hcn := cntB_count (l := asgL a m2) v 16 0 (by omega)
    rw [List.drop_zero] at hcn
    have := cntB_imp (f := keptF a (asgL a m2) v) (g := fun q => (asgL a m2).getD q 0 == v) 16 0 (fun k _ _ hf => by unfold keptF at hf; simp only [Bool.and_eq_true] at hf; exact hf.2) (by omega) p (by omega) (by omega) (by rw [hx]; exact beq_self_eq_true _)
    unfold keptF hadF at this
    simp only [Bool.and_eq_true, beq_iff_eq] at this
    exact this.1.2
  have p2 : ∀ p, p < 16 → (asgL a m2).getD p 0 ≠ n → (asgL a m2).getD p 0 = (asgL (asgL a m2) m1).getD p 0 := fun p hp hne => by
    have hv := hsub _ (b2 p hp) hne
    have hk := kc _ hv
    have hq := q2 _ hv
    generalize hx : (asgL a m2).getD p 0 = v at *
    have hcn := cntB_count (l := asgL a m2) v 16 0 (by omega)
    rw [List.drop_zero] at hcn
    have := cntB_imp (f := keptF (asgL a m2) (asgL (asgL a m2) m1) v) (g := fun q => (asgL a m2).getD q 0 == v) 16 0 (fun k _ _ hf => by unfold keptF hadF at hf; simp only [Bool.and_eq_true] at hf; exact hf.1.2) (by omega) p (by omega) (by omega) (by rw [hx]; exact beq_self_eq_true _)
    unfold keptF at this
    simp only [Bool.and_eq_true, beq_iff_eq] at this
    exact this.2.symm
  unfold goodC
  rw [List.all_eq_true]
  intro p hp
  have hp' := List.mem_range.1 hp
  have hcn : (asgL (asgL a m2) m1).getD p 0 ≠ n := fun e => hnm (e ▸ c2 p hp')
  by_cases d : (asgL a m2).getD p 0 = n
  · rw [decide_eq_true d, decide_eq_false hcn, Bool.or_true, Bool.or_true]; rfl
  · rw [decide_eq_true (p1 p hp' d), decide_eq_true (p2 p hp' d), decide_eq_false hcn]; simp
theorem lCo : ∀ st out, (LCo.sp st).reach out → CodeOK Try.prog Try.f6.ntmps (.loop (loopAt (bodyOf Try.f6) 0)) st out := by
  refine LCo.sound W4_ok (lps := []) (n := 100) (inner rfl) (fun _ => rfl) ?_
  rintro ⟨ms, n0, i1, l2⟩ ⟨h1, h2, h3, h4⟩
  simp only at h1 h2 h3 h4
  rw [rCo]
  simp only [all_leaf, all_fork, all_req, conjP, and_true, true_and, decide_eq_true_eq, decide_eq_false_iff_not]
  refine ⟨fun c => ⟨⟨h1, c⟩, ⟨h1, c⟩, fun d => ⟨by omega, ?_⟩, fun d => ?_⟩, fun c => ⟨?_, trivial⟩⟩
  · rw [i64_inc (by omega) (by omega)]
    refine ⟨⟨by dsimp only; omega, by dsimp only; omega, h3, by simp only [List.length_append, List.length_cons, List.length_nil]; omega⟩, by simp only [LCo]; omega, ?_⟩
    simp only [LCo]
    have : l2 ++ dropN n0 (ms.drop i1.toNat) = l2 ++ [ms.getD i1.toNat 0] ++ dropN n0 (ms.drop (i1 + 1).toNat) := by
      rw [drop_cons (l := ms) 0 h1 c]
      unfold dropN
      rw [List.filter_cons, if_pos (show (!(ms.getD i1.toNat 0 == n0)) = true from d)]; simp
    rw [this]
  · rw [i64_inc (by omega) (by omega)]
    refine ⟨⟨by dsimp only; omega, by dsimp only; omega, h3, by dsimp only; omega⟩, by simp only [LCo]; omega, ?_⟩
    simp only [LCo]
    have : dropN n0 (ms.drop i1.toNat) = dropN n0 (ms.drop (i1 + 1).toNat) := by
      rw [drop_cons (l := ms) 0 h1 c]
      unfold dropN
      rw [List.filter_cons, if_neg (by rw [show (!(ms.getD i1.toNat 0 == n0)) = false from d]; decide)]
    rw [this]
  · rw [drop_end c]; simp [dropN]
theorem lCp : ∀ st out, (LCp.sp st).reach out → CodeOK Try.prog Try.f6.ntmps (.loop (loopAt (bodyOf Try.f6) 1)) st out := by
  refine LCp.sound W4_ok (lps := []) (n := 100) (inner rfl) (fun _ => rfl) ?_
  rintro ⟨c, b, a, n, p⟩ ⟨h1, h2, h3, h4, h5, h6⟩
  simp only at h1 h2 h3 h4 h5 h6
  rw [rCp]
  simp only [all_leaf, all_fork, all_req, conjP, and_true, true_and, decide_eq_true_eq, decide_eq_false_iff_not, List.nil_append]
  refine ⟨fun d => ?_, fun d => trivial⟩
  have hf := h6
  unfold goodC at hf
  rw [List.all_eq_true] at hf
  have hi := hf p.toNat (List.mem_range.2 (by omega))
  simp only [Bool.and_eq_true, Bool.or_eq_true, decide_eq_true_eq, Bool.not_eq_true', decide_eq_false_iff_not] at hi
  have ia : 0 ≤ p ∧ p < (a.length : Int) := ⟨h4, d⟩
  have ib : 0 ≤ p ∧ p < (b.length : Int) := ⟨h4, by omega⟩
  have ic : 0 ≤ p ∧ p < (c.length : Int) := ⟨h4, by omega⟩
  refine ⟨⟨ia, ia, ib, ib, ?_⟩, fun t => ?_, fun _ => ?_⟩
  · simp [ia, ib, ic, conjP]
  · exfalso
    obtain ⟨⟨x1, x2⟩, x3⟩ := hi
    revert t
    rw [show (c.getD p.toNat 0 == n) = false from beq_eq_false_iff_ne.2 x3]
    by_cases e : b.getD p.toNat 0 = n
    · rw [e]; simp
    · rw [x1.resolve_right e, ← x2.resolve_right e]; simp
  · rw [i64_inc (by omega) (by omega)]
    exact ⟨⟨h1, h2, h3, by dsimp only; omega, by dsimp only; omega, h6⟩, by simp only [LCp]; omega, rfl⟩
theorem come_t (ms : List Int) (n : Int) : (fnT W4 [(0, viaP [(5, i64)] LCo.sp), (1, LCp.sp)] 100 Try.f6 [ints, i64] [.bool] (ms, n, ())).all fun y => y = (true, ()) := by
  refine Tree.all_eq (tCo ms n) ?_
  show Tree.all (α := Bool × Unit) _ Yes
  obtain ⟨k, hk, k0, k1⟩ := umod n 8 (by omega) (by omega)
  rw [hk]
  have hR : ([] : List Int) ++ dropN k ms = dropN k ms := rfl
  have hR2 : ([] : List Int) ++ ([] ++ dropN k ms) ++ [k] = dropN k ms ++ [k] := rfl
  have hR3 : ([] : List Int) ++ ([] ++ dropN k ms) = dropN k ms := rfl
  rw [hR2, hR3]
  rw [hR] at *
  have hl : (dropN k ms).length ≤ ms.length := List.length_filter_le _ _
  have hno : (dropN k ms).contains k = false := by
    rw [Bool.eq_false_iff]
    intro h
    have h' : k ∈ dropN k ms := by simpa using h
    unfold dropN at h'
    have := (List.mem_filter.1 h').2
    simp at this
  have hin : ∀ j : Nat, j < 8 → (dropN k ms ++ [k]).contains (j : Int) = ((dropN k ms).contains (j : Int) || ((j : Int) == k)) := fun j _ => by
    simp only [List.contains_eq_mem, List.mem_append, List.mem_cons, List.not_mem_nil, or_false, Bool.decide_or]
    congr 1
  generalize dropN k ms = R at *
  simp only [all_leaf, all_fork, all_req, yes_t, yes_f, yes_iff, true_and, and_true, decide_eq_true_eq, decide_eq_false_iff_not, implies_true, conjP, beq_iff_eq, beq_eq_false_iff_ne, ne_eq, Bool.and_true, Bool.or_eq_true, bne_iff_ne, List.length_append, List.length_cons, List.length_nil]
  intro hm
  refine ⟨by omega, ⟨by omega, by omega, by omega, by omega⟩, by omega, fun c => ?_⟩
  have hc : (memL R).length ≠ 0 := by omega
  have g := come_all [] R (R ++ [k]) k k0 k1 hc hin hno
  have hc2 : (memL (R ++ [k])).length ≠ 0 := fun e => by
    have : k ∈ memL (R ++ [k]) := (fltB_mem _ _ _ _).2 ⟨k.toNat, by omega, by omega, by rw [Int.toNat_of_nonneg k0]; simp, by omega⟩
    rw [List.eq_nil_of_length_eq_zero e] at this; simp at this
  have a1 := (asgL_all [] R hc).1
  have a2 := (asgL_all (asgL [] R) (R ++ [k]) hc2).1
  have a3 := (asgL_all (asgL (asgL [] R) (R ++ [k])) R hc).1
  refine ⟨by omega, by omega, by omega, by omega, by omega, fun d => ?_, fun _ => ⟨a3, a2, a1, by omega, by omega, g⟩⟩
  rw [a1, a2, a3] at d
  simp at d
theorem bodyCo : Try.f6.body = some (bodyOf Try.f6) := by kernel_rfl
theorem come_ok : PureOK Try.prog 6 [ints, i64] [.bool] (fun _ => True) (fun _ => (true, ())) :=
  fn_pure (E := W4) (n := 100) W4_ok Try.func6 bodyCo (LpsOK.cons (viaP_ok lCo) (.cons lCp .nil)) fun x _ => come_t x.1 x.2.1
end Pl
