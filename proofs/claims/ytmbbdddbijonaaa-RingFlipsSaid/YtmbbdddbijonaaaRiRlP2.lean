import Derived.Test.YtmbbdddbijonaaaRiRlP
import Derived.Test.YtmbbdddbijonaaaRiRk
namespace Pl
open Go Sx Go.Proofs Go.RowKit
theorem VP_ok : VP.Sound := mkExM_sound ⟨pureSpL_ok rfirst_ok, pureSpL_ok rjoin_ok, pureSp_ok rowner_ok, pureSp_ok rbelow_ok, pureSp_ok mr_ok, pureSp_ok aw_ok, trivial⟩
theorem getD_setE (l : List EntryD) (k i : Nat) (v : EntryD) (h : k < l.length) : (l.set k v).getD i (0, 0) = if i = k then v else l.getD i (0, 0) := by
  by_cases e : i = k
  · subst e; simp [h]
  · rw [if_neg e]; simp [List.getElem?_set, Ne.symm e]
theorem tabL_pair {xs : List EntryD} {s t i : Int} (h : xs.length = 16) (h0 : 0 ≤ i) : tabL 16 (fun j => ((bif decide (i = (j : Int)) then s else (xs.getD j (0, 0)).1), (bif decide (i = (j : Int)) then t else (xs.getD j (0, 0)).2))) = xs.set i.toNat (s, t) := by
  rw [← tabL_put h h0 (z := (0, 0)) (s := (s, t))]
  exact congrArg (tabL 16) (funext fun j => by cases decide (i = (j : Int)) <;> rfl)
theorem pairB (e f : EntryD) : (e.1 == f.1 && (e.2 == f.2 && true)) = (e == f) := by rw [Bool.and_true]; rfl
def baseP (l : List EntryD) : Prop := l.length = 16 ∧ ∀ k, k < 16 → ((l.getD k (0, 0)).1 = 1 ∨ (l.getD k (0, 0)).1 = 2) ∧ ((l.getD k (0, 0)).2 = 0 ∨ (l.getD k (0, 0)).2 = 1)
theorem u2_range (n : Int) : u2 n = 0 ∨ u2 n = 1 := by
  obtain ⟨k, hk, k0, k1⟩ := umod n 2 (by omega) (by omega)
  unfold u2; rw [hk]; omega
theorem u16_range (n : Int) : 0 ≤ u16 n ∧ u16 n < 16 := by
  obtain ⟨k, hk, k0, k1⟩ := umod n 16 (by omega) (by omega)
  unfold u16; rw [hk]; exact ⟨k0, k1⟩
theorem ownP_base : ∀ (o : List Int) (i : Int) (l : List EntryD), 0 ≤ i → baseP l → baseP (ownP o i l)
  | [], _, _, _, h => h
  | n :: o, i, l, h0, h => by
    simp only [ownP]
    refine ownP_base o (i + 1) _ (by omega) ?_
    split
    · refine ⟨by simp [h.1], fun k hk => ?_⟩
      rw [getD_setE _ _ _ _ (by have := h.1; omega)]
      split
      · exact ⟨.inr rfl, u2_range n⟩
      · exact h.2 k hk
    · exact h
def flipF (own add : Int) (r x : List EntryD) : Prop := x.length = 16 ∧ ∀ k, k < 16 → x.getD k (0, 0) = r.getD k (0, 0) ∨ ((r.getD k (0, 0)).2 = own ∧ (x.getD k (0, 0)).1 = (r.getD k (0, 0)).1 + 1 ∧ add ≤ (x.getD k (0, 0)).2 ∧ (x.getD k (0, 0)).2 ≤ add + 2)
theorem flipP_F (own add : Int) (ha : 0 ≤ add ∧ add ≤ 5) (r : List EntryD) (hr : baseP r) : ∀ (a : List Int) (i : Int) (x : List EntryD), 0 ≤ i → i + a.length ≤ 100 → flipF own add r x → flipF own add r (flipP own add a i r x)
  | [], _, _, _, _, h => h
  | p :: a, i, x, h0, h1, h => by
    simp only [List.length_cons] at h1
    simp only [flipP]
    refine flipP_F own add ha r hr a (i + 1) _ (by omega) (by omega) ?_
    obtain ⟨p0, p1⟩ := u16_range p
    split
    · rename_i t
      simp only [Bool.and_eq_true, beq_iff_eq] at t
      refine ⟨by simp [h.1], fun k hk => ?_⟩
      rw [getD_setE _ _ _ _ (by have := h.1; omega)]
      split
      · rename_i e
        subst e
        have hb := (hr.2 (u16 p).toNat (by omega)).1
        have hm := Int.emod_nonneg i (b := 3) (by omega)
        have hm2 := Int.emod_lt_of_pos i (b := 3) (by omega)
        rw [t.2, Int.tmod_eq_emod_of_nonneg h0, IntWalk.i64_in ((r.getD (u16 p).toNat (0, 0)).1 + 1) (by omega), IntWalk.i64_in (add + i % 3) (by omega)]
        exact .inr ⟨by rw [← t.2]; exact t.1, rfl, by dsimp only; omega, by dsimp only; omega⟩
      · exact h.2 k hk
    · exact h
theorem lPa : ∀ st out, (LPa.sp st).reach out → CodeOK Try.prog Try.f5.ntmps (.loop (loopAt (bodyOf Try.f5) 0)) st out := by
  refine LPa.sound VP_ok (lps := []) (n := 100) (inner rfl) (fun _ => rfl) ?_
  rintro ⟨o, a, b, i, r⟩ ⟨h1, h2, h3, h4⟩
  simp only at h1 h2 h3 h4
  rw [rPa, tab_eq h4.1, tab_eq h4.2]
  simp only [all_leaf, all_fork, all_req, conjP, and_true, decide_eq_true_eq, decide_eq_false_iff_not]
  refine ⟨fun c => ⟨⟨h1, c⟩, ⟨h1, c⟩, fun d => ⟨by omega, ⟨h1, d⟩, ⟨h1, d⟩, by repeat' (first | exact trivial | rfl | apply And.intro), ?_⟩, fun d => ⟨by repeat' (first | exact trivial | rfl | apply And.intro), ?_⟩⟩, fun c => ⟨?_, trivial⟩⟩
  · rw [tabL_pair h4.2 h1, i64_inc (by omega) (by omega)]
    refine ⟨⟨by dsimp only; omega, by dsimp only; omega, h3, h4.1, by simp [h4.2]⟩, by simp only [LPa]; omega, ?_⟩
    simp only [LPa]
    have : ownP (o.drop i.toNat) i r.2.2 = ownP (o.drop (i + 1).toNat) (i + 1) (r.2.2.set i.toNat (2, u2 (o.getD i.toNat 0))) := by
      rw [drop_cons (l := o) 0 h1 c, ownP, if_pos d]
    rw [this]; rfl
  · rw [i64_inc (by omega) (by omega)]
    refine ⟨⟨by dsimp only; omega, by dsimp only; omega, h3, h4⟩, by simp only [LPa]; omega, ?_⟩
    simp only [LPa]
    have : ownP (o.drop i.toNat) i r.2.2 = ownP (o.drop (i + 1).toNat) (i + 1) r.2.2 := by
      rw [drop_cons (l := o) 0 h1 c, ownP, if_neg (by omega)]
    rw [this]
  · rw [drop_end c]; repeat' (first | exact trivial | rfl | apply And.intro)
theorem lPb : ∀ st out, (LPb.sp st).reach out → CodeOK Try.prog Try.f5.ntmps (.loop (loopAt (bodyOf Try.f5) 1)) st out := by
  refine LPb.sound VP_ok (lps := []) (n := 100) (inner rfl) (fun _ => rfl) ?_
  rintro ⟨a, b, i, r, xs, ys⟩ ⟨h1, h2, h3, h4, h5, h6⟩
  simp only at h1 h2 h3 h4 h5 h6
  rw [rPb, tab_eq h4.1, tab_eq h4.2, tab_eq h6]
  have hu : IntKind.i64.wrap ((IntKind.u64.wrap (a.getD i.toNat 0)).tmod 16) = u16 (a.getD i.toNat 0) := rfl
  obtain ⟨u0, u1⟩ := u16_range (a.getD i.toNat 0)
  have ui : 0 ≤ u16 (a.getD i.toNat 0) ∧ u16 (a.getD i.toNat 0) < 16 := ⟨u0, u1⟩
  rw [hu]
  have hk : (u16 (a.getD i.toNat 0)).toNat < 16 := by omega
  simp only [tabL_getD 16 _ _ hk]
  simp only [pairB]
  simp only [all_leaf, all_fork, all_req, conjP, and_true, decide_eq_true_eq, decide_eq_false_iff_not]
  have step : ∀ c : i < (a.length : Int), flipP 0 2 (a.drop i.toNat) i r.2.2 xs = flipP 0 2 (a.drop (i + 1).toNat) (i + 1) r.2.2 (if (xs.getD (u16 (a.getD i.toNat 0)).toNat (0, 0)).2 == 0 && (xs.getD (u16 (a.getD i.toNat 0)).toNat (0, 0) == r.2.2.getD (u16 (a.getD i.toNat 0)).toNat (0, 0)) then xs.set (u16 (a.getD i.toNat 0)).toNat (IntKind.i64.wrap ((xs.getD (u16 (a.getD i.toNat 0)).toNat (0, 0)).1 + 1), IntKind.i64.wrap (2 + i.tmod 3)) else xs) := fun c => by
    rw [drop_cons (l := a) 0 h1 c, flipP]
  refine ⟨fun c => ⟨⟨h1, c⟩, ⟨h1, c⟩, by omega, ⟨ui, ui, fun _ => by show _ ∧ _ ∧ _ ∧ _; exact ⟨ui, ui, ui, ui⟩⟩, fun d => ⟨ui, ui, by omega, ui, ui, by repeat' (first | exact trivial | rfl | apply And.intro), ?_⟩, fun d => ⟨by repeat' (first | exact trivial | rfl | apply And.intro), ?_⟩⟩, fun c => ⟨?_, trivial⟩⟩
  · rw [tabL_pair h5 u0, i64_inc (by omega) (by omega)]
    refine ⟨⟨by dsimp only; omega, by dsimp only; omega, h3, h4, by simp [h5], by simp [h6]⟩, by simp only [LPb]; omega, ?_⟩
    simp only [LPb]
    rw [step c, if_pos d]
  · rw [tab_eq h5, i64_inc (by omega) (by omega)]
    refine ⟨⟨by dsimp only; omega, by dsimp only; omega, h3, h4, h5, h6⟩, by simp only [LPb]; omega, ?_⟩
    simp only [LPb]
    rw [step c, if_neg (by rw [d]; decide)]
  · rw [drop_end c]; repeat' (first | exact trivial | rfl | apply And.intro)
theorem lPc : ∀ st out, (LPc.sp st).reach out → CodeOK Try.prog Try.f5.ntmps (.loop (loopAt (bodyOf Try.f5) 2)) st out := by
  refine LPc.sound VP_ok (lps := []) (n := 100) (inner rfl) (fun _ => rfl) ?_
  rintro ⟨b, i, r, xs, ys⟩ ⟨h1, h2, h3, h4, h5, h6⟩
  simp only at h1 h2 h3 h4 h5 h6
  rw [rPc, tab_eq h4.1, tab_eq h4.2, tab_eq h5]
  have hu : IntKind.i64.wrap ((IntKind.u64.wrap (b.getD i.toNat 0)).tmod 16) = u16 (b.getD i.toNat 0) := rfl
  obtain ⟨u0, u1⟩ := u16_range (b.getD i.toNat 0)
  have ui : 0 ≤ u16 (b.getD i.toNat 0) ∧ u16 (b.getD i.toNat 0) < 16 := ⟨u0, u1⟩
  rw [hu]
  have hk : (u16 (b.getD i.toNat 0)).toNat < 16 := by omega
  simp only [tabL_getD 16 _ _ hk]
  simp only [pairB]
  simp only [all_leaf, all_fork, all_req, conjP, and_true, decide_eq_true_eq, decide_eq_false_iff_not]
  have step : ∀ c : i < (b.length : Int), flipP 1 5 (b.drop i.toNat) i r.2.2 ys = flipP 1 5 (b.drop (i + 1).toNat) (i + 1) r.2.2 (if (ys.getD (u16 (b.getD i.toNat 0)).toNat (0, 0)).2 == 1 && (ys.getD (u16 (b.getD i.toNat 0)).toNat (0, 0) == r.2.2.getD (u16 (b.getD i.toNat 0)).toNat (0, 0)) then ys.set (u16 (b.getD i.toNat 0)).toNat (IntKind.i64.wrap ((ys.getD (u16 (b.getD i.toNat 0)).toNat (0, 0)).1 + 1), IntKind.i64.wrap (5 + i.tmod 3)) else ys) := fun c => by
    rw [drop_cons (l := b) 0 h1 c, flipP]
  refine ⟨fun c => ⟨⟨h1, c⟩, ⟨h1, c⟩, by omega, ⟨ui, ui, fun _ => by show _ ∧ _ ∧ _ ∧ _; exact ⟨ui, ui, ui, ui⟩⟩, fun d => ⟨ui, ui, by omega, ui, ui, by repeat' (first | exact trivial | rfl | apply And.intro), ?_⟩, fun d => ⟨by repeat' (first | exact trivial | rfl | apply And.intro), ?_⟩⟩, fun c => ⟨?_, trivial⟩⟩
  · rw [tabL_pair h6 u0, i64_inc (by omega) (by omega)]
    refine ⟨⟨by dsimp only; omega, by dsimp only; omega, h3, h4, by simp [h5], by simp [h6]⟩, by simp only [LPc]; omega, ?_⟩
    simp only [LPc]
    rw [step c, if_pos d]
  · rw [tab_eq h6, i64_inc (by omega) (by omega)]
    refine ⟨⟨by dsimp only; omega, by dsimp only; omega, h3, h4, h5, h6⟩, by simp only [LPc]; omega, ?_⟩
    simp only [LPc]
    rw [step c, if_neg (by rw [d]; decide)]
  · rw [drop_end c]; repeat' (first | exact trivial | rfl | apply And.intro)
theorem lPd : ∀ st out, (LPd.sp st).reach out → CodeOK Try.prog Try.f5.ntmps (.loop (loopAt (bodyOf Try.f5) 3)) st out := by
  refine LPd.sound VP_ok (lps := []) (n := 100) (inner rfl) (fun _ => rfl) ?_
  rintro ⟨p, r, xs, ys, j⟩ ⟨h1, h2, h3, h4, h5, h6, h7, h8⟩
  simp only at h1 h2 h3 h4 h5 h6 h7 h8
  rw [rPd, tab_eq h3.1, tab_eq h3.2, tab_eq h4, tab_eq h5, tab_eq h6.1, tab_eq h6.2]
  by_cases c : p < 16
  · have hk : p.toNat < 16 := by omega
    have ui : 0 ≤ p ∧ p < 16 := ⟨h1, c⟩
    simp only [tabL_getD 16 _ _ hk]
    simp only [pairB]
    have hf := h8
    unfold flipG at hf
    rw [List.all_eq_true] at hf
    have hi := hf p.toNat (List.mem_range.2 hk)
    simp only [Bool.and_eq_true, decide_eq_true_eq] at hi
    rw [Int.toNat_of_nonneg h1] at hi
    have nx : LPd.Next ⟨p, r, xs, ys, j⟩ (some ⟨IntKind.i64.wrap (p + 1), (r.1, r.2.1, r.2.2), xs, ys, (j.1, j.2.1, j.2.2)⟩) := by
      rw [i64_inc (by omega) (by omega)]
      exact ⟨⟨by dsimp only; omega, by dsimp only; omega, h3, h4, h5, h6, h7, h8⟩, by simp only [LPd]; omega, rfl⟩
    simp only [all_leaf, all_fork, all_req, conjP, and_true, decide_eq_true_eq, decide_eq_false_iff_not]
    refine ⟨fun _ => ⟨ui, ui, ui, ui, ui, ui, fun d => ⟨ui, ui, ⟨ui, ui, fun _ => ?_⟩, fun e => ?_, fun _ => ⟨by repeat' (first | exact trivial | rfl | apply And.intro), nx⟩⟩, fun d => ⟨⟨ui, ui, fun _ => ?_⟩, fun e => ?_, fun _ => ⟨by repeat' (first | exact trivial | rfl | apply And.intro), nx⟩⟩⟩, fun d => absurd c d⟩
    · first | exact ⟨trivial, h7⟩ | exact h7 | exact ⟨⟨trivial, trivial⟩, h7⟩
    · exfalso
      have d' : ys.getD p.toNat (0, 0) ≠ r.2.2.getD p.toNat (0, 0) := by simpa only [Bool.not_eq_true', beq_eq_false_iff_ne] using d
      unfold wantE at hi
      rw [if_neg d'] at hi
      rw [hi.1, hi.2] at e
      simp at e
    · first | exact ⟨trivial, h7⟩ | exact h7 | exact ⟨⟨trivial, trivial⟩, h7⟩
    · exfalso
      have d' : ys.getD p.toNat (0, 0) = r.2.2.getD p.toNat (0, 0) := by simpa only [Bool.not_eq_false', beq_iff_eq] using d
      unfold wantE at hi
      rw [if_pos d'] at hi
      rw [hi.1, hi.2] at e
      simp at e
  · simp only [all_leaf, all_fork, decide_eq_true_eq, decide_eq_false_iff_not]
    exact ⟨fun d => absurd d c, fun _ => by repeat' (first | exact trivial | rfl | apply And.intro)⟩
/- the plain law -/
theorem flip_want {r xs ys : List EntryD} (hr : baseP r) (hx : flipF 0 2 r xs) (hy : flipF 1 5 r ys) {k : Nat} (hk : k < 16) : joinE (xs.getD k (0, 0)) (ys.getD k (0, 0)) = wantE r xs ys k ∧ joinE (r.getD k (0, 0)) (xs.getD k (0, 0)) = xs.getD k (0, 0) ∧ 1 ≤ (wantE r xs ys k).1 ∧ (wantE r xs ys k).1 ≤ 3 ∧ 0 ≤ (wantE r xs ys k).2 ∧ (wantE r xs ys k).2 < 8 := by
  have b := hr.2 k hk
  unfold wantE
  rw [joinE_def, joinE_def]
  rcases hx.2 k hk with e | ⟨e1, e2, e3, e4⟩
  · rcases hy.2 k hk with f | ⟨f1, f2, f3, f4⟩
    · rw [e, f, if_pos rfl, if_neg (by omega)]
      exact ⟨rfl, rfl, by omega, by omega, by omega, by omega⟩
    · rw [e, if_pos (.inl (by omega)), if_neg (fun z => by rw [z] at f2; omega), if_neg (by omega)]
      exact ⟨rfl, rfl, by omega, by omega, by omega, by omega⟩
  · rcases hy.2 k hk with f | ⟨f1, _⟩
    · rw [f, if_pos rfl, if_neg (by omega), if_pos (.inl (by omega))]
      exact ⟨rfl, rfl, by omega, by omega, by omega, by omega⟩
    · omega
theorem flip_may {r x : List EntryD} {own add : Int} (hr : baseP r) (ha : 0 ≤ add ∧ add ≤ 5) (hx : flipF own add r x) : (tab 16 x (0, 0)).all mayE = true := by
  rw [tab_eq hx.1, List.all_eq_true]
  intro e he
  obtain ⟨k, hk, rfl⟩ := List.getElem_of_mem he
  have hk' : k < 16 := by have := hx.1; omega
  have b := hr.2 k hk'
  have h := hx.2 k hk'
  rw [getD_get (0, 0) hk] at h
  unfold mayE nodeB
  simp only [Bool.or_eq_true, Bool.and_eq_true, decide_eq_true_eq]
  right
  rcases h with h | h
  · rw [h]; omega
  · omega
theorem flip_all (st : List Int) (pl : PlanD) (hst : st.length = 8) (hs : st.all stB = true) (hp : mayB pl = true) {r xs ys : List EntryD} (hr : baseP r) (hx : flipF 0 2 r xs) (hy : flipF 1 5 r ys) :
    flipG r xs ys (joinR (st, pl, xs) (st, pl, ys)) = true ∧ belowR (st, pl, r) (joinR (st, pl, xs) (st, pl, ys)) = true ∧ mayR (joinR (st, pl, xs) (st, pl, ys)) = true := by
  have okX : okR (st, pl, xs) := ⟨hst, hx.1⟩
  have okY : okR (st, pl, ys) := ⟨hst, hy.1⟩
  refine ⟨?_, ?_, ?_⟩
  · unfold flipG
    rw [List.all_eq_true]
    intro k hk
    have hk' := List.mem_range.1 hk
    obtain ⟨w1, _, w2, w3, w4, w5⟩ := flip_want hr hx hy hk'
    have hg : (joinR (st, pl, xs) (st, pl, ys)).2.2.getD k (0, 0) = wantE r xs ys k := by rw [getE _ _ hk']; exact w1
    simp only [Bool.and_eq_true, decide_eq_true_eq]
    refine ⟨hg, ?_⟩
    unfold ownerR
    rw [Int.toNat_natCast, hg, if_pos]
    unfold mayE nodeB
    simp only [Bool.and_eq_true, Bool.or_eq_true, decide_eq_true_eq, Bool.not_eq_true', beq_eq_false_iff_ne]
    refine ⟨by omega, by omega, by omega, .inr ⟨⟨w2, by omega⟩, w4, w5⟩⟩
  · refine below_trans (b := (st, pl, xs)) (belowR_iff.2 ?_) (below_join _ _ okX)
    unfold joinR
    have a1 : tabL 8 (fun j => mxI (st.getD j 0) (st.getD j 0)) = st := ext_getD 0 (by rw [tabL_len, hst]) fun k hk => by
      rw [tabL_len] at hk
      rw [tabL_getD _ _ _ hk, mxI_self]
    have a2 : joinP pl pl = pl := by unfold joinP; split <;> rfl
    have a3 : tabL 16 (fun j => joinE (r.getD j (0, 0)) (xs.getD j (0, 0))) = xs := ext_getD (0, 0) (by rw [tabL_len, hx.1]) fun k hk => by
      rw [tabL_len] at hk
      rw [tabL_getD _ _ _ hk, (flip_want hr hx hy hk).2.1]
    show (tabL 8 (fun j => mxI (st.getD j 0) (st.getD j 0)), joinP pl pl, tabL 16 (fun j => joinE (r.getD j (0, 0)) (xs.getD j (0, 0)))) = _
    rw [a1, a2, a3]
  · refine mayR_join okX okY ?_ ?_
    · unfold mayR
      rw [tab_eq hst, hs, hp, flip_may hr (by omega) hx]; rfl
    · unfold mayR
      rw [tab_eq hst, hs, hp, flip_may hr (by omega) hy]; rfl
theorem flips_t (o a b : List Int) : (fnT VP [(0, LPa.sp), (1, LPb.sp), (2, LPc.sp), (3, LPd.sp)] 100 Try.f5 [ints, ints, ints] [.bool] (o, a, b, ())).all fun y => y = (true, ()) := by
  refine Tree.all_eq (tRP o a b) ?_
  show Tree.all (α := Bool × Unit) _ Yes
  have b0 : baseP (ownP o 0 (List.replicate 16 (1, 0))) := ownP_base o 0 _ (by omega) ⟨by simp, fun k hk => by
    have : (List.replicate 16 ((1, 0) : EntryD)).getD k (0, 0) = (1, 0) := by revert k; decide
    rw [this]; exact ⟨.inl rfl, .inl rfl⟩⟩
  have self : ∀ own add, flipF own add (ownP o 0 (List.replicate 16 (1, 0))) (ownP o 0 (List.replicate 16 (1, 0))) := fun own add => ⟨b0.1, fun k _ => .inl rfl⟩
  simp only [all_leaf, all_fork, all_req, all_lt, yes_t, yes_f, yes_iff, decide_eq_true_eq, decide_eq_false_iff_not, implies_true, conjP, Bool.or_eq_false_iff, Bool.not_true, Bool.not_false]
  have t1 : tab 8 (2 :: List.replicate 7 (0 : Int)) 0 = 2 :: List.replicate 7 0 := rfl
  have t2 : tab 16 (List.replicate 16 ((1, 0) : EntryD)) (0, 0) = List.replicate 16 (1, 0) := rfl
  simp only [t1, t2, tab_eq b0.1]
  generalize ownP o 0 (List.replicate 16 (1, 0)) = R at *
  simp only [true_and, and_true, implies_true, Bool.false_eq_true, false_implies, forall_const]
  intro h
  have hx := flipP_F 0 2 (by omega) R b0 a 0 R (by omega) (by omega) (self 0 2)
  have hy := flipP_F 1 5 (by omega) R b0 b 0 R (by omega) (by omega) (self 1 5)
  rw [tab_eq hx.1, tab_eq hy.1]
  generalize flipP 0 2 a 0 R R = X at *
  generalize flipP 1 5 b 0 R R = Y at *
  obtain ⟨g1, g2, g3⟩ := flip_all (2 :: List.replicate 7 0) (0, 0, []) (by simp) (by decide) (by decide) b0 hx hy
  have hok : okR (joinR (2 :: List.replicate 7 0, (0, 0, []), X) (2 :: List.replicate 7 0, (0, 0, []), Y)) := joinR_ok _ _
  have hsm : (((joinR (2 :: List.replicate 7 0, (0, 0, []), X) (2 :: List.replicate 7 0, (0, 0, []), Y)).2.1.2.2.length : Nat) : Int) < small := joinP_small (by simp [small]) (by simp [small])
  generalize joinR (2 :: List.replicate 7 0, (0, 0, []), X) (2 :: List.replicate 7 0, (0, 0, []), Y) = J at *
  simp only [tab_eq hok.1, tab_eq hok.2]
  simp only [true_and, and_true]
  have hJ : (J.1, J.2.1, J.2.2) = J := rfl
  rw [hJ, g2, g3]
  exact ⟨⟨by omega, by omega, by omega⟩, ⟨by omega, by omega, by omega⟩, ⟨by omega, by omega, by omega⟩, ⟨by simp, by simp⟩, ⟨by omega, by omega, hsm, g1⟩, ⟨⟨by simp, hsm⟩, fun _ => hsm⟩, rfl⟩
theorem flips_ok : PureOK Try.prog 5 [ints, ints, ints] [.bool] (fun _ => True) (fun _ => (true, ())) :=
  fn_pure (E := VP) (n := 100) VP_ok Try.func5 bodyRP (LpsOK.cons lPa (.cons lPb (.cons lPc (.cons lPd .nil)))) fun x _ => flips_t x.1 x.2.1 x.2.2.1
end Pl
