import Derived.Test.YtcjhmlfdmddhkaaGoPl1
import Derived.Test.YtcjhmlfdmddhkaaGoPlLay
namespace Pl
open Go Sx Go.Proofs Go.RowKit

theorem own_reads {w : World} {base e : Nat} {v : Value} {xs : List Int} (h : w.ownsRow base e 1 v xs.length (xs.map (Value.int .i64))) : v = .slice none 0 0 ∧ xs = [] ∨ ∃ g cap cur T, v = .slice (some ⟨g, 0, none⟩) xs.length cap ∧ base ≤ g ∧ w.heap[g]? = some (.cells cur T (0, 0)) ∧ xs.length ≤ cap ∧ ∀ (i : Nat) (x : Int), xs[i]? = some x → cur[i]? = some (Value.int .i64 x) := by
  rcases h.2 with ⟨e0, e1⟩ | ⟨g, cap, cur, rfl, hb, hg, hn, _, hs, ht⟩
  · exact .inl ⟨e0, List.eq_nil_of_length_eq_zero e1⟩
  · refine .inr ⟨g, cap, cur, _, rfl, hb, hg, hn, fun i x hx => ?_⟩
    have hi : i < xs.length := (List.getElem?_eq_some_iff.1 hx).1
    have h2 : (cur.toList.take (xs.length * 1))[i]? = some (Value.int .i64 x) := by rw [ht]; simp [hx]
    rw [Nat.mul_one, List.getElem?_take_of_lt hi] at h2
    simpa using h2

def IntsAt (Q : Nat → Prop) (w : World) (xs : List Int) (A : Option Addr) : Prop :=
  ∀ (i : Nat) (x : Int), xs[i]? = some x → ∃ b o, A = some ⟨b, o, none⟩ ∧ Q b ∧ w.cell? ⟨b, o + i, none⟩ = some (Value.int .i64 x)
def IntsV (Q : Nat → Prop) (w : World) (xs : List Int) (v : Value) : Prop := ∃ A cap, v = .slice A xs.length cap ∧ xs.length ≤ cap ∧ IntsAt Q w xs A

theorem ints_iff {Q : Nat → Prop} {w : World} {xs : List Int} {cs : List Value} : ReadsC Q w ints xs cs ↔ ∃ v, cs = [v] ∧ IntsV Q w xs v := by
  constructor
  · rintro ⟨A, cap, rfl, hcap, hrow⟩
    refine ⟨_, rfl, A, cap, rfl, hcap, fun i x hx => ?_⟩
    obtain ⟨b, o, h, hQ, cs, _, hc, hrd⟩ := hrow i x hx
    have hrd : cs = [Value.int .i64 x] := hrd
    subst hrd
    have := hc 0 (by simp)
    exact ⟨b, o, h, hQ, by simpa [Ty.size] using this⟩
  · rintro ⟨v, rfl, A, cap, rfl, hcap, hrow⟩
    refine ⟨A, cap, rfl, hcap, fun i x hx => ?_⟩
    obtain ⟨b, o, h, hQ, hc⟩ := hrow i x hx
    refine ⟨b, o, h, hQ, [Value.int .i64 x], rfl, fun j hj => ?_, rfl⟩
    have hj0 : j = 0 := by simp at hj; omega
    subst hj0
    simpa [Ty.size] using hc

theorem clone_raw (Q : Nat → Prop) (w : World) (xs : List Int) (v : Value) (h : IntsV Q w xs v) (hbig : (xs.length : Int) < 17592186044416) :
    Calls Try.prog 40 #[v] w fun e w' => ∃ v', e = .returned v' ∧ IntsV (fun b => w.heap.size ≤ b ∧ b < w'.heap.size) w' xs v' ∧ Below w.heap.size w w' := by
  obtain ⟨A, cap, rfl, hcap, hrow⟩ := h
  have fin : ∀ (e : Ending) (w' : World) (v' : Value), e = .returned v' → w'.ownsRow w.heap.size 3 1 v' xs.length (xs.map (Value.int .i64)) → Below w.heap.size w w' →
      ∃ v', e = .returned v' ∧ IntsV (fun b => w.heap.size ≤ b ∧ b < w'.heap.size) w' xs v' ∧ Below w.heap.size w w' := by
    intro e w' v' he hown hb
    refine ⟨v', he, ?_, hb⟩
    rcases own_reads hown with ⟨e1, e2⟩ | ⟨g, c, cur, T, e1, hg, hh, hc, hx⟩
    · subst e2
      exact ⟨none, 0, e1, Nat.le_refl _, fun i x hi => by simp at hi⟩
    · refine ⟨some ⟨g, 0, none⟩, c, e1, hc, fun i x hi => ⟨g, 0, rfl, ⟨hg, (Array.getElem?_eq_some_iff.1 hh).1⟩, ?_⟩⟩
      have := hx i x hi
      simp [World.cell?, hh, this]
  cases A with
  | none =>
    refine (Any.slices_Clone_int_nil Try.laysClone _ cap w).mono ?_
    rintro e w' ⟨rfl, rfl⟩
    cases xs with
    | nil => exact fin _ _ _ rfl ⟨rfl, .inl ⟨rfl, rfl⟩⟩ (Below.refl _ _)
    | cons x t => obtain ⟨b, o, h, _⟩ := hrow 0 x rfl; cases h
  | some a =>
    cases hxs : xs with
    | nil =>
      subst hxs
      refine (Any.slices_Clone_int_zero Try.laysClone a cap w).mono ?_
      rintro e w' ⟨v', he, hown, _, hb⟩
      exact fin _ _ _ he hown hb
    | cons x t =>
      obtain ⟨b, o, h, _⟩ := hrow 0 x (by rw [hxs]; rfl)
      injection h with h; subst h
      rw [← hxs]
      refine (Any.slices_Clone_int Try.laysClone b o xs.length cap xs w (Nat.le_refl _) (by omega) ?_).mono ?_
      · intro j hj
        obtain ⟨b', o', h', _, hc⟩ := hrow j (xs.getD j 0) (by simp [List.getD_eq_getElem?_getD, List.getElem?_eq_getElem hj])
        injection h' with h'
        have hb' : b = b' := congrArg Addr.block h'
        have ho' : o = o' := congrArg Addr.off h'
        subst hb'; subst ho'
        exact hc
      · rintro e w' ⟨v', he, hown, _, hb⟩
        rw [List.take_of_length_le (Nat.le_refl _)] at hown
        exact fin _ _ _ he hown hb

theorem clone_ok : PureOK Try.prog 40 [ints] [ints] (fun x => (List.length (α := Int) x.1 : Int) < 17592186044416) (fun x => x) := by
  rintro R w ⟨xs, u⟩ args hR ⟨cs, r, e, hrd, er⟩ hpre
  obtain ⟨v, rfl, hv⟩ := ints_iff.1 hrd
  subst er; subst e
  refine (clone_raw R w xs v hv hpre).mono ?_
  rintro e w' ⟨v', he, hv', hb⟩
  refine ⟨[v'], he, ⟨[v'], [], rfl, ints_iff.2 ⟨v', rfl, ?_⟩, rfl⟩, hb⟩
  obtain ⟨A, cap, e1, e2, e3⟩ := hv'
  exact ⟨A, cap, e1, e2, fun i x hx => by obtain ⟨b, o, h1, h2, h3⟩ := e3 i x hx; exact ⟨b, o, h1, .inr h2, h3⟩⟩
end Pl
