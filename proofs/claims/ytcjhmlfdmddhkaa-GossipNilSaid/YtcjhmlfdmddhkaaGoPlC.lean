import Derived.Test.YtcjhmlfdmddhkaaGoPl4
import Derived.Test.YtcjhmlfdmddhkaaSx28
namespace Pl
open Go Sx Go.Proofs Go.RowKit

theorem own_cap {w : World} {base e : Nat} {v : Value} {xs : List Int} (h : w.ownsRow base e 1 v xs.length (xs.map (Value.int .i64))) : v = .slice none 0 0 ∧ xs = [] ∨ ∃ g cap cur T, v = .slice (some ⟨g, 0, none⟩) xs.length cap ∧ base ≤ g ∧ w.heap[g]? = some (.cells cur T (0, 0)) ∧ xs.length ≤ cap ∧ cur.size = cap ∧ ∀ (i : Nat) (x : Int), xs[i]? = some x → cur[i]? = some (Value.int .i64 x) := by
  rcases h.2 with ⟨e0, e1⟩ | ⟨g, cap, cur, rfl, hb, hg, hn, _, hs, ht⟩
  · exact .inl ⟨e0, List.eq_nil_of_length_eq_zero e1⟩
  · refine .inr ⟨g, cap, cur, _, rfl, hb, hg, hn, by omega, fun i x hx => ?_⟩
    have hi : i < xs.length := (List.getElem?_eq_some_iff.1 hx).1
    have h2 : (cur.toList.take (xs.length * 1))[i]? = some (Value.int .i64 x) := by rw [ht]; simp [hx]
    rw [Nat.mul_one, List.getElem?_take_of_lt hi] at h2
    simpa using h2
theorem clone_fresh (Q : Nat → Prop) (w : World) (xs : List Int) (v : Value) (h : IntsV Q w xs v) (hbig : (xs.length : Int) < 17592186044416) :
    Calls Try.prog 40 #[v] w fun e w' => ∃ A cap, e = .returned (.slice A xs.length cap) ∧ xs.length ≤ cap ∧ Below w.heap.size w w' ∧
      ((A = none ∧ xs = [] ∧ cap = 0) ∨ ∃ b o cs T, A = some ⟨b, o, none⟩ ∧ w.heap.size ≤ b ∧ w'.heap[b]? = some (.cells cs T (0, 0)) ∧ o + cap * 1 ≤ cs.size ∧ ∀ (i : Nat) (x : Int), xs[i]? = some x → cs[o + i]? = some (Value.int .i64 x)) := by
  obtain ⟨A, cap, rfl, hcap, hrow⟩ := h
  have fin : ∀ (e : Ending) (w' : World) (v' : Value), e = .returned v' → w'.ownsRow w.heap.size 3 1 v' xs.length (xs.map (Value.int .i64)) → Below w.heap.size w w' →
      ∃ A cap, e = .returned (.slice A xs.length cap) ∧ xs.length ≤ cap ∧ Below w.heap.size w w' ∧
      ((A = none ∧ xs = [] ∧ cap = 0) ∨ ∃ b o cs T, A = some ⟨b, o, none⟩ ∧ w.heap.size ≤ b ∧ w'.heap[b]? = some (.cells cs T (0, 0)) ∧ o + cap * 1 ≤ cs.size ∧ ∀ (i : Nat) (x : Int), xs[i]? = some x → cs[o + i]? = some (Value.int .i64 x)) := by
    intro e w' v' he hown hb
    rcases own_cap hown with ⟨e1, e2⟩ | ⟨g, c, cur, T, e1, hg, hh, hc, hs, hx⟩
    · subst e2
      exact ⟨none, 0, by rw [he, e1]; rfl, Nat.le_refl _, hb, .inl ⟨rfl, rfl, rfl⟩⟩
    · exact ⟨some ⟨g, 0, none⟩, c, by rw [he, e1], hc, hb, .inr ⟨g, 0, cur, T, rfl, hg, hh, by omega, fun i x hi => by rw [Nat.zero_add]; exact hx i x hi⟩⟩
  cases A with
  | none =>
    refine (Any.slices_Clone_int_nil Try.laysClone _ cap w).mono ?_
    rintro e w' ⟨rfl, rfl⟩
    cases xs with
    | nil => exact fin _ _ _ rfl ⟨rfl, .inl ⟨rfl, rfl⟩⟩ (Below.refl _ _)
    | cons x t => obtain ⟨b, o, h, _⟩ := hrow 0 x rfl; cases h
  | some a =>
    cases hxs : xs with
    | nil =>
      subst hxs
      refine (Any.slices_Clone_int_zero Try.laysClone a cap w).mono ?_
      rintro e w' ⟨v', he, hown, _, hb⟩
      exact fin _ _ _ he hown hb
    | cons x t =>
      obtain ⟨b, o, h, _⟩ := hrow 0 x (by rw [hxs]; rfl)
      injection h with h; subst h
      rw [← hxs]
      refine (Any.slices_Clone_int Try.laysClone b o xs.length cap xs w (Nat.le_refl _) (by omega) ?_).mono ?_
      · intro j hj
        obtain ⟨b', o', h', _, hc⟩ := hrow j (xs.getD j 0) (by simp [List.getD_eq_getElem?_getD, List.getElem?_eq_getElem hj])
        injection h' with h'
        have hb' : b = b' := congrArg Addr.block h'
        have ho' : o = o' := congrArg Addr.off h'
        subst hb'; subst ho'
        exact hc
      · rintro e w' ⟨v', he, hown, _, hb⟩
        rw [List.take_of_length_le (Nat.le_refl _)] at hown
        exact fin _ _ _ he hown hb

theorem clone_fok : FreshOK Try.prog 40 [ints] (fun x => (List.length (α := Int) x.1 : Int) < 17592186044416) i64 (fun x => x.1) := by
  rintro R w ⟨xs, u⟩ args hR ⟨cs, r, e, hrd, er⟩ hpre
  obtain ⟨v, rfl, hv⟩ := ints_iff.1 hrd
  subst er; subst e
  refine (clone_fresh R w xs v hv hpre).mono ?_
  rintro e w' ⟨A, cap, h1, h2, h3, h4⟩
  refine ⟨A, cap, h1, h2, h3, ?_⟩
  rcases h4 with h | ⟨b, o, cs, T, k1, k2, k3, k4, k5⟩
  · exact .inl h
  · refine .inr ⟨b, o, cs, T, k1, k2, k3, k4, fun i x hx => ⟨[Value.int .i64 x], rfl, fun j hj => ?_, rfl⟩⟩
    have hj0 : j = 0 := by simp [Ty.size] at hj; omega
    subst hj0
    simpa [Ty.size] using k5 i x hx
end Pl
