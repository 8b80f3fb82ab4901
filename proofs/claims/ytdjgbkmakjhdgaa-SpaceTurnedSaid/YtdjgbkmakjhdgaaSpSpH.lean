import Derived.Test.YtdjgbkmakjhdgaaSpSpP
import Derived.Test.YtdjgbkmakjhdgaaSpSpF
namespace Pl
open Go Sx Go.Proofs Go.RowKit
theorem lRo : LpsOK Try.prog Try.f4 [(0, LRo.sp)] := by
  refine .cons (LRo.sound M9_ok (lps := []) (n := 100) (inner rfl) (fun _ => rfl) ?_) .nil
  rintro ⟨a, p, t, i, m, s, u⟩ ⟨h1, h2, h3, h4, h5, h6, h7, h8, h9, h10, h11, h12⟩
  simp only at h1 h2 h3 h4 h5 h6 h7 h8 h9 h10 h11 h12
  obtain ⟨k1, k2, k3, k4⟩ := next_spec (a := a) (p := t) (by omega) (by omega) (by rw [h8]; exact h3)
  obtain ⟨c1, c2⟩ := cj_step (a := a) (p := p) (t := t) (u := u) (by omega) h7 h8 h3
  have hku : nextS a t ≤ 16 - u := by
    by_cases c : 16 - u < nextS a t
    · exact absurd (by rw [show (t + (16 - u)) % 16 = p by omega]; exact h8.symm) (k4 (16 - u) (by omega) c)
    · omega
  have w1 : IntKind.i64.wrap (t + nextS a t) = t + nextS a t := IntWalk.i64_in _ (by omega)
  have w2 : (t + nextS a t).tmod 16 = (t + nextS a t) % 16 := Int.tmod_eq_emod_of_nonneg (by omega)
  have w3 : IntKind.i64.wrap (s + 1) = s + 1 := IntWalk.i64_in _ (by omega)
  have w4 : IntKind.i64.wrap (u + nextS a t) = u + nextS a t := IntWalk.i64_in _ (by omega)
  have w5 : IntKind.i64.wrap (i + 1) = i + 1 := IntWalk.i64_in _ (by omega)
  have q1 := atS_at (l := a) (p := p) h3
  have q2 := atS_at (l := a) (p := (t + nextS a t) % 16) (by rw [k3, h8]; exact h3)
  rw [rRo, w1, w2, w3, w4, w5]
  simp only [all_leaf, all_fork, all_req, conjP, true_and, and_true, decide_eq_true_eq, decide_eq_false_iff_not, Bool.or_eq_true, Bool.or_eq_false_iff, bne_iff_ne, bne_eq_false_iff_eq, beq_iff_eq, beq_eq_false_iff_ne, ne_eq]
  have e1 : a.getD ((t + nextS a t) % 16).toNat 0 = a.getD p.toNat 0 := by rw [← q1.2.2.2.2.2, ← q2.2.2.2.2.2, k3, h8]
  refine ⟨fun c => ⟨fun d => by omega, fun d => ⟨by omega, fun _ => ⟨⟨q2.1, q2.2.2.1⟩, ⟨q2.1, q2.2.2.1⟩, ⟨q1.1, q1.2.2.1⟩, ⟨q1.1, q1.2.2.1⟩⟩, fun d => ?_, fun d => ⟨fun e => ?_, fun e => ?_⟩⟩⟩, fun c => by omega⟩
  · rcases d with d | d
    · omega
    · exact absurd e1 d
  · have hu : u + nextS a t = 16 := by omega
    rw [hu] at c1 c2
    exact ⟨⟨by rw [← h9] at c1; exact c1.symm, by rw [← h12] at c2; exact c2.symm, hu⟩, trivial⟩
  · refine ⟨⟨h1, h2, h3, by dsimp only; omega, by dsimp only; omega, by dsimp only; omega, by dsimp only; omega, by dsimp only; rw [k3, h8], by dsimp only; rw [c1, ← h9], by dsimp only; omega, by dsimp only; omega, by dsimp only; rw [c2, ← h12]⟩, by simp only [LRo]; omega, rfl⟩
theorem round_ok : PureOK Try.prog 4 [ints, i64] [.bool] (fun _ => True) (fun _ => (true, ())) :=
  fn_pure (E := M9) (n := 100) M9_ok Try.func4 (by kernel_rfl) lRo fun x _ => by
    obtain ⟨a, p, _⟩ : List Int × Int × Unit := x
    obtain ⟨x, hx, x0, x1⟩ := umod p 16 (by omega) (by omega)
    refine Tree.all_eq (tRo a p) ?_
    show Tree.all (α := Bool × Unit) _ Yes
    rw [hx]
    simp only [all_leaf, all_fork, all_req, conjP, true_and, and_true, yes_t, yes_iff, decide_eq_true_eq, decide_eq_false_iff_not, Bool.and_eq_true, beq_iff_eq, implies_true, Bool.or_eq_true, Bool.or_eq_false_iff, Bool.not_eq_true', Bool.not_eq_false']
    have hat := atS_eq a x0 x1
    simp only [Bool.and_eq_true, decide_eq_true_eq] at hat
    refine fun _ => ⟨by omega, fun c => ⟨⟨x0, by omega⟩, x0, by omega⟩, fun c => ?_, fun ⟨c1, c2, c3⟩ => ?_⟩
    · rw [if_neg (fun g => by omega)] at hat
      unfold nextS; rw [if_pos hat]
    · rw [if_pos ⟨by omega, c2, c3⟩] at hat
      have hn : atS a x ≠ -1 := by omega
      have hl := counts_len a
      have hc : cjS a x 16 = (countsS a).getD (a.getD x.toNat 0).toNat 0 := by
        rw [counts_get a c2 c3, cj_count, hat]
        have := (rot_perm (atS a) x0 x1).count_eq (a.getD x.toNat 0)
        unfold vals at this
        rw [this]; rfl
      have hm : leastS a (a.getD x.toNat 0) = msS a x 16 := by
        have := ms_least x0 x1 hn
        rw [hat] at this
        exact isLeast_eq (leastS_is a _) this
      have b1 : 0 ≤ x ∧ x < (a.length : Int) := ⟨x0, by omega⟩
      have b2 : 0 ≤ a.getD x.toNat 0 ∧ a.getD x.toNat 0 < ((countsS a).length : Int) := ⟨by omega, by omega⟩
      exact ⟨⟨x0, x1, hn, by omega, by omega, by omega, by omega, by omega, by omega⟩, fun _ _ => ⟨b1, b1, b2, b2, fun _ => ⟨b1, b1⟩⟩, by omega, hc, hm⟩
theorem rot_at {a l : List Int} {x : Int} (h : a.length = 16) (hl : ([] : List Int) ++ List.take ((a.length : Int).toNat - x.toNat) (List.drop x.toNat a) ++ List.take (x.toNat - 0) a = l) (x0 : 0 ≤ x) (x1 : x < 16) : l.length = 16 ∧ ∀ q : Int, 0 ≤ q → q < 16 → atS l q = atS a ((x + q) % 16) := by
  have hl' : l = a.drop x.toNat ++ a.take x.toNat := by
    rw [← hl, List.nil_append, List.take_of_length_le (by rw [List.length_drop]; omega), Nat.sub_zero]
  have hn : l.length = 16 := by rw [hl', List.length_append, List.length_drop, List.length_take]; omega
  refine ⟨hn, fun q q0 q1 => ?_⟩
  have e : l.getD q.toNat 0 = a.getD ((x + q) % 16).toNat 0 := by
    rw [hl']
    simp only [List.getD_eq_getElem?_getD]
    by_cases c : x + q < 16
    · rw [List.getElem?_append_left (by rw [List.length_drop]; omega), List.getElem?_drop, show x.toNat + q.toNat = ((x + q) % 16).toNat by omega]
    · rw [List.getElem?_append_right (by rw [List.length_drop]; omega), List.length_drop, List.getElem?_take_of_lt (by omega), show q.toNat - (a.length - x.toNat) = ((x + q) % 16).toNat by omega]
  rw [atS_eq l q0 q1, atS_eq a (by omega) (by omega), e, hn, h]
  rw [decide_eq_true (by omega : q < ((16 : Nat) : Int)), decide_eq_true (by omega : (x + q) % 16 < ((16 : Nat) : Int))]
theorem rot_next {a l : List Int} {x : Int} (x0 : 0 ≤ x) (x1 : x < 16) (h : ∀ q : Int, 0 ≤ q → q < 16 → atS l q = atS a ((x + q) % 16)) {p : Int} (p0 : 0 ≤ p) (p1 : p < 16) : nextS l p = nextS a ((x + p) % 16) := by
  have key : ∀ (n : Int) (c : Nat) (s : Int), nxF l n p c s = nxF a n ((x + p) % 16) c s := fun n c => by
    induction c with
    | zero => intro s; rfl
    | succ c ih =>
      intro s
      rw [nxF, nxF, h _ (by omega) (by omega), show (x + (p + s) % 16) % 16 = ((x + p) % 16 + s) % 16 by omega, ih]
  unfold nextS
  rw [h p p0 p1, key]
theorem rot_least {a l : List Int} {x : Int} (x0 : 0 ≤ x) (x1 : x < 16) (h : ∀ q : Int, 0 ≤ q → q < 16 → atS l q = atS a ((x + q) % 16)) (n : Int) : leastS l n = leastS a n := by
  refine isLeast_eq (leastS_is l n) ?_
  obtain ⟨g1, g2⟩ := leastS_is a n
  refine ⟨fun q q0 q1 c1 c2 => ?_, ?_⟩
  · rw [h q q0 q1] at c1 c2
    rw [rot_next x0 x1 h q0 q1]
    exact g1 _ (by omega) (by omega) c1 c2
  · rcases g2 with e | ⟨q, q0, q1, c1, c2, c3⟩
    · exact .inl e
    · have e := h ((q - x) % 16) (by omega) (by omega)
      have f := rot_next x0 x1 h (p := (q - x) % 16) (by omega) (by omega)
      rw [show (x + (q - x) % 16) % 16 = q by omega] at e f
      exact .inr ⟨(q - x) % 16, by omega, by omega, by rw [e]; exact c1, by rw [e]; exact c2, by rw [f]; exact c3⟩
theorem rot_vals {a l : List Int} {x : Int} (h : ∀ q : Int, 0 ≤ q → q < 16 → atS l q = atS a ((x + q) % 16)) : vals (atS l) = vals (fun j => atS a ((x + j) % 16)) := by
  unfold vals
  refine List.map_congr_left fun q hq => ?_
  have := List.mem_range.1 hq
  exact h _ (by omega) (by omega)
theorem rot_counts {a l : List Int} {x : Int} (x0 : 0 ≤ x) (x1 : x < 16) (h : ∀ q : Int, 0 ≤ q → q < 16 → atS l q = atS a ((x + q) % 16)) : countsS l = countsS a :=
  counts_perm (by rw [rot_vals h]; exact rot_perm _ x0 x1)
theorem rot_txt {a l : List Int} {x : Int} (x0 : 0 ≤ x) (x1 : x < 16) (h : ∀ q : Int, 0 ≤ q → q < 16 → atS l q = atS a ((x + q) % 16)) : txtB l = (txtB a).extract x.toNat 16 ++ (txtB a).extract 0 x.toNat := by
  have e : ∀ m : List Int, txtL m = (vals (atS m)).map chS := fun m => by unfold txtL vals; rw [List.map_map]; rfl
  have e2 : txtL l = (txtL a).drop x.toNat ++ (txtL a).take x.toNat := by
    rw [e l, rot_vals h, rot_map (atS a) x0 x1, List.map_append, List.map_drop, List.map_take, ← e a]
  have hl := txtL_len a
  apply ByteArray.ext
  rw [ByteArray.data_append, ByteArray.data_extract, ByteArray.data_extract]
  apply Array.toList_inj.1
  rw [Array.toList_append, Array.toList_extract, Array.toList_extract]
  show txtL l = _
  rw [e2, List.extract_eq_take_drop, List.extract_eq_take_drop, List.drop_zero, Nat.sub_zero]
  show _ = List.take (16 - x.toNat) (List.drop x.toNat (txtL a)) ++ List.take x.toNat (txtL a)
  rw [List.take_of_length_le (l := List.drop x.toNat (txtL a)) (by rw [List.length_drop]; omega)]
theorem turned_ok : PureOK Try.prog 5 [ints, ints, i64, i64] [.bool] (fun _ => True) (fun _ => (true, ())) :=
  fn_pure (E := M9) (n := 100) M9_ok Try.func5 (by kernel_rfl) .nil fun x _ => by
    obtain ⟨a, m, k, n, _⟩ : List Int × List Int × Int × Int × Unit := x
    obtain ⟨x, hx, x0, x1⟩ := umod k 16 (by omega) (by omega)
    refine Tree.all_eq (tTu a m k n) ?_
    show Tree.all (α := Bool × Unit) _ Yes
    rw [hx]
    generalize hl : ([] : List Int) ++ List.take ((a.length : Int).toNat - x.toNat) (List.drop x.toNat a) ++ List.take (x.toNat - 0) a = l
    simp only [all_leaf, all_fork, all_req, conjP, true_and, and_true, yes_t, yes_f, yes_iff]
    refine ⟨fun _ => trivial, fun c => ?_⟩
    rw [Bool.or_eq_false_iff, bne_eq_false_iff_eq, decide_eq_false_iff_not] at c
    have ha : a.length = 16 := by omega
    obtain ⟨hn, hat⟩ := rot_at ha hl x0 x1
    have hN : ∀ i : Int, 0 ≤ i → i < 16 → (nextS l i != nextS a ((IntKind.i64.wrap (i + x)).tmod 16)) = false := fun i i0 i1 => by
      rw [IntWalk.i64_in (i + x) (by omega), Int.tmod_eq_emod_of_nonneg (by omega), rot_next x0 x1 hat i0 i1, Int.add_comm x i, bne_self_eq_false]
    have ht := rot_txt x0 x1 hat
    have hs := rot_least x0 x1 hat n
    have hu : unevenS l m = unevenS a m := by unfold unevenS; rw [rot_counts x0 x1 hat]
    have z1 : (List.take ((a.length : Int).toNat - x.toNat) (List.drop x.toNat a)).length ≤ 16 := by rw [List.length_take, List.length_drop]; omega
    have z2 : (List.take (x.toNat - 0) a).length ≤ 16 := by rw [List.length_take]; omega
    refine ⟨by omega, ⟨x0, by omega, by omega⟩, by omega, ⟨by omega, x0, by omega⟩, by rw [List.nil_append]; omega, ?_⟩
    iterate 16 refine ⟨by omega, fun e => Bool.noConfusion (e.symm.trans (hN _ (by omega) (by omega))), fun _ => ?_⟩
    have b1 : (txtB a).size = 16 := txtL_len a
    have b2 : ((txtB a).extract x.toNat 16).size ≤ 16 := by rw [ByteArray.size_extract]; omega
    have b3 : ((txtB a).extract 0 x.toNat).size ≤ 16 := by rw [ByteArray.size_extract]; omega
    exact ⟨fun _ _ => ⟨⟨x0, by omega, by omega⟩, ⟨by omega, x0, by omega⟩, by omega, fun _ _ => ⟨by omega, by omega, fun _ => trivial⟩⟩, by rw [ht, hs, hu]; simp only [BEq.rfl, Bool.and_self]⟩
end Pl
