import Derived.Test.YtdjgbkmakjhdgaaDoorSqSfA
namespace Pl
open Go Sx Go.Proofs Go.RowKit
noncomputable abbrev G1 : Ex := mkExM Tryd.prog [(30, fnI E0 [] 100 Tryd.f30)]
noncomputable abbrev G2 : Ex := mkExM Tryd.prog [(29, fnI G1 [] 100 Tryd.f29)]
noncomputable abbrev G3 : Ex := mkExM Tryd.prog [(27, fnI G2 [] 100 Tryd.f27)]
theorem fbI1 : Tryd.f30.body = some (bodyOf Tryd.f30) := by kernel_rfl
theorem fbI2 : Tryd.f29.body = some (bodyOf Tryd.f29) := by kernel_rfl
theorem fbI3 : Tryd.f27.body = some (bodyOf Tryd.f27) := by kernel_rfl
theorem G1_ok : G1.Sound := mkExM_sound ⟨fnI_ok (E := E0) E0_ok Tryd.func30 fbI1 .nil, trivial⟩
theorem G2_ok : G2.Sound := mkExM_sound ⟨fnI_ok (E := G1) G1_ok Tryd.func29 fbI2 .nil, trivial⟩
theorem G3_ok : G3.Sound := mkExM_sound ⟨fnI_ok (E := G2) G2_ok Tryd.func27 fbI3 .nil, trivial⟩
def chB (n : Int) : ByteArray := ⟨#[chS n]⟩
theorem tI0 : fnT G3 [] 100 Tryd.f23 [i64] [.str] ((0 : Int), ()) = (.req True (.fork true (.req ((true = true → conjP [(0 : Int) ≤ (0 : Int) ∧ (0 : Int) ≤ (1 : Int) ∧ (1 : Int) ≤ (36 : Int)]) ∧ (true = false → conjP [(0 : Int) ≤ (0 : Int) ∧ (0 : Int) ≤ (2 : Int) ∧ (2 : Int) ≤ (200 : Int)])) (.leaf (chB 0, ()))) (.fork false (.fail "call no contract") (.fail "call no contract"))) : Tree (ByteArray × Unit)) := by kernel_rfl
theorem tI1 : fnT G3 [] 100 Tryd.f23 [i64] [.str] ((1 : Int), ()) = (.req True (.fork true (.req ((true = true → conjP [(0 : Int) ≤ (1 : Int) ∧ (1 : Int) ≤ (2 : Int) ∧ (2 : Int) ≤ (36 : Int)]) ∧ (true = false → conjP [(0 : Int) ≤ (2 : Int) ∧ (2 : Int) ≤ (4 : Int) ∧ (4 : Int) ≤ (200 : Int)])) (.leaf (chB 1, ()))) (.fork false (.fail "call no contract") (.fail "call no contract"))) : Tree (ByteArray × Unit)) := by kernel_rfl
theorem tI2 : fnT G3 [] 100 Tryd.f23 [i64] [.str] ((2 : Int), ()) = (.req True (.fork true (.req ((true = true → conjP [(0 : Int) ≤ (2 : Int) ∧ (2 : Int) ≤ (3 : Int) ∧ (3 : Int) ≤ (36 : Int)]) ∧ (true = false → conjP [(0 : Int) ≤ (4 : Int) ∧ (4 : Int) ≤ (6 : Int) ∧ (6 : Int) ≤ (200 : Int)])) (.leaf (chB 2, ()))) (.fork false (.fail "call no contract") (.fail "call no contract"))) : Tree (ByteArray × Unit)) := by kernel_rfl
theorem tI3 : fnT G3 [] 100 Tryd.f23 [i64] [.str] ((3 : Int), ()) = (.req True (.fork true (.req ((true = true → conjP [(0 : Int) ≤ (3 : Int) ∧ (3 : Int) ≤ (4 : Int) ∧ (4 : Int) ≤ (36 : Int)]) ∧ (true = false → conjP [(0 : Int) ≤ (6 : Int) ∧ (6 : Int) ≤ (8 : Int) ∧ (8 : Int) ≤ (200 : Int)])) (.leaf (chB 3, ()))) (.fork false (.fail "call no contract") (.fail "call no contract"))) : Tree (ByteArray × Unit)) := by kernel_rfl
theorem tI4 : fnT G3 [] 100 Tryd.f23 [i64] [.str] ((4 : Int), ()) = (.req True (.fork true (.req ((true = true → conjP [(0 : Int) ≤ (4 : Int) ∧ (4 : Int) ≤ (5 : Int) ∧ (5 : Int) ≤ (36 : Int)]) ∧ (true = false → conjP [(0 : Int) ≤ (8 : Int) ∧ (8 : Int) ≤ (10 : Int) ∧ (10 : Int) ≤ (200 : Int)])) (.leaf (chB 4, ()))) (.fork false (.fail "call no contract") (.fail "call no contract"))) : Tree (ByteArray × Unit)) := by kernel_rfl
theorem tI5 : fnT G3 [] 100 Tryd.f23 [i64] [.str] ((5 : Int), ()) = (.req True (.fork true (.req ((true = true → conjP [(0 : Int) ≤ (5 : Int) ∧ (5 : Int) ≤ (6 : Int) ∧ (6 : Int) ≤ (36 : Int)]) ∧ (true = false → conjP [(0 : Int) ≤ (10 : Int) ∧ (10 : Int) ≤ (12 : Int) ∧ (12 : Int) ≤ (200 : Int)])) (.leaf (chB 5, ()))) (.fork false (.fail "call no contract") (.fail "call no contract"))) : Tree (ByteArray × Unit)) := by kernel_rfl
theorem tI6 : fnT G3 [] 100 Tryd.f23 [i64] [.str] ((6 : Int), ()) = (.req True (.fork true (.req ((true = true → conjP [(0 : Int) ≤ (6 : Int) ∧ (6 : Int) ≤ (7 : Int) ∧ (7 : Int) ≤ (36 : Int)]) ∧ (true = false → conjP [(0 : Int) ≤ (12 : Int) ∧ (12 : Int) ≤ (14 : Int) ∧ (14 : Int) ≤ (200 : Int)])) (.leaf (chB 6, ()))) (.fork false (.fail "call no contract") (.fail "call no contract"))) : Tree (ByteArray × Unit)) := by kernel_rfl
theorem tI7 : fnT G3 [] 100 Tryd.f23 [i64] [.str] ((7 : Int), ()) = (.req True (.fork true (.req ((true = true → conjP [(0 : Int) ≤ (7 : Int) ∧ (7 : Int) ≤ (8 : Int) ∧ (8 : Int) ≤ (36 : Int)]) ∧ (true = false → conjP [(0 : Int) ≤ (14 : Int) ∧ (14 : Int) ≤ (16 : Int) ∧ (16 : Int) ≤ (200 : Int)])) (.leaf (chB 7, ()))) (.fork false (.fail "call no contract") (.fail "call no contract"))) : Tree (ByteArray × Unit)) := by kernel_rfl
theorem it_ok : PureOK Tryd.prog 23 [i64] [.str] (fun x => 0 ≤ x.1 ∧ x.1 < 8) (fun x => (chB x.1, ())) :=
  fn_pure (E := G3) (n := 100) G3_ok Tryd.func23 (by kernel_rfl) .nil fun x h => by
    obtain ⟨n, _⟩ : Int × Unit := x
    have h : 0 ≤ n ∧ n < 8 := h
    have : n = 0 ∨ n = 1 ∨ n = 2 ∨ n = 3 ∨ n = 4 ∨ n = 5 ∨ n = 6 ∨ n = 7 := by omega
    clear h
    rcases this with rfl | rfl | rfl | rfl | rfl | rfl | rfl | rfl
    · refine Tree.all_eq tI0 ?_
      show Tree.all (α := ByteArray × Unit) _ (fun y => y = (chB 0, ()))
      simp only [all_leaf, all_fork, all_req, conjP, and_true, true_and, implies_true]
      exact ⟨fun _ => ⟨fun _ => ⟨by omega, by omega, by omega⟩, fun e => Bool.noConfusion e⟩, fun e => Bool.noConfusion e⟩
    · refine Tree.all_eq tI1 ?_
      show Tree.all (α := ByteArray × Unit) _ (fun y => y = (chB 1, ()))
      simp only [all_leaf, all_fork, all_req, conjP, and_true, true_and, implies_true]
      exact ⟨fun _ => ⟨fun _ => ⟨by omega, by omega, by omega⟩, fun e => Bool.noConfusion e⟩, fun e => Bool.noConfusion e⟩
    · refine Tree.all_eq tI2 ?_
      show Tree.all (α := ByteArray × Unit) _ (fun y => y = (chB 2, ()))
      simp only [all_leaf, all_fork, all_req, conjP, and_true, true_and, implies_true]
      exact ⟨fun _ => ⟨fun _ => ⟨by omega, by omega, by omega⟩, fun e => Bool.noConfusion e⟩, fun e => Bool.noConfusion e⟩
    · refine Tree.all_eq tI3 ?_
      show Tree.all (α := ByteArray × Unit) _ (fun y => y = (chB 3, ()))
      simp only [all_leaf, all_fork, all_req, conjP, and_true, true_and, implies_true]
      exact ⟨fun _ => ⟨fun _ => ⟨by omega, by omega, by omega⟩, fun e => Bool.noConfusion e⟩, fun e => Bool.noConfusion e⟩
    · refine Tree.all_eq tI4 ?_
      show Tree.all (α := ByteArray × Unit) _ (fun y => y = (chB 4, ()))
      simp only [all_leaf, all_fork, all_req, conjP, and_true, true_and, implies_true]
      exact ⟨fun _ => ⟨fun _ => ⟨by omega, by omega, by omega⟩, fun e => Bool.noConfusion e⟩, fun e => Bool.noConfusion e⟩
    · refine Tree.all_eq tI5 ?_
      show Tree.all (α := ByteArray × Unit) _ (fun y => y = (chB 5, ()))
      simp only [all_leaf, all_fork, all_req, conjP, and_true, true_and, implies_true]
      exact ⟨fun _ => ⟨fun _ => ⟨by omega, by omega, by omega⟩, fun e => Bool.noConfusion e⟩, fun e => Bool.noConfusion e⟩
    · refine Tree.all_eq tI6 ?_
      show Tree.all (α := ByteArray × Unit) _ (fun y => y = (chB 6, ()))
      simp only [all_leaf, all_fork, all_req, conjP, and_true, true_and, implies_true]
      exact ⟨fun _ => ⟨fun _ => ⟨by omega, by omega, by omega⟩, fun e => Bool.noConfusion e⟩, fun e => Bool.noConfusion e⟩
    · refine Tree.all_eq tI7 ?_
      show Tree.all (α := ByteArray × Unit) _ (fun y => y = (chB 7, ()))
      simp only [all_leaf, all_fork, all_req, conjP, and_true, true_and, implies_true]
      exact ⟨fun _ => ⟨fun _ => ⟨by omega, by omega, by omega⟩, fun e => Bool.noConfusion e⟩, fun e => Bool.noConfusion e⟩
end Pl
