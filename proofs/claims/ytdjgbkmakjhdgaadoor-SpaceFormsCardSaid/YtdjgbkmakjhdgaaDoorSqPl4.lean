import Derived.Test.YtdjgbkmakjhdgaaDoorSqPl1
import Derived.Test.YtdjgbkmakjhdgaaDoorSqPlLay
namespace Pl
open Go Sx Go.Proofs Go.RowKit

theorem own_reads {w : World} {base e : Nat} {v : Value} {xs : List Int} (h : w.ownsRow base e 1 v xs.length (xs.map (Value.int .i64))) : v = .slice none 0 0 ∧ xs = [] ∨ ∃ g cap cur T, v = .slice (some ⟨g, 0, none⟩) xs.length cap ∧ base ≤ g ∧ w.heap[g]? = some (.cells cur T (0, 0)) ∧ xs.length ≤ cap ∧ ∀ (i : Nat) (x : Int), xs[i]? = some x → cur[i]? = some (Value.int .i64 x) := by
  rcases h.2 with ⟨e0, e1⟩ | ⟨g, cap, cur, rfl, hb, hg, hn, _, hs, ht⟩
  · exact .inl ⟨e0, List.eq_nil_of_length_eq_zero e1⟩
  · refine .inr ⟨g, cap, cur, _, rfl, hb, hg, hn, fun i x hx => ?_⟩
    have hi : i < xs.length := (List.getElem?_eq_some_iff.1 hx).1
    have h2 : (cur.toList.take (xs.length * 1))[i]? = some (Value.int .i64 x) := by rw [ht]; simp [hx]
    rw [Nat.mul_one, List.getElem?_take_of_lt hi] at h2
    simpa using h2

def IntsAt (Q : Nat → Prop) (w : World) (xs : List Int) (A : Option Addr) : Prop :=
  ∀ (i : Nat) (x : Int), xs[i]? = some x → ∃ b o, A = some ⟨b, o, none⟩ ∧ Q b ∧ w.cell? ⟨b, o + i, none⟩ = some (Value.int .i64 x)
def IntsV (Q : Nat → Prop) (w : World) (xs : List Int) (v : Value) : Prop := ∃ A cap, v = .slice A xs.length cap ∧ xs.length ≤ cap ∧ IntsAt Q w xs A

theorem ints_iff {Q : Nat → Prop} {w : World} {xs : List Int} {cs : List Value} : ReadsC Q w ints xs cs ↔ ∃ v, cs = [v] ∧ IntsV Q w xs v := by
  constructor
  · rintro ⟨A, cap, rfl, hcap, hrow⟩
    refine ⟨_, rfl, A, cap, rfl, hcap, fun i x hx => ?_⟩
    obtain ⟨b, o, h, hQ, cs, _, hc, hrd⟩ := hrow i x hx
    have hrd : cs = [Value.int .i64 x] := hrd
    subst hrd
    have := hc 0 (by simp)
    exact ⟨b, o, h, hQ, by simpa [Ty.size] using this⟩
  · rintro ⟨v, rfl, A, cap, rfl, hcap, hrow⟩
    refine ⟨A, cap, rfl, hcap, fun i x hx => ?_⟩
    obtain ⟨b, o, h, hQ, hc⟩ := hrow i x hx
    refine ⟨b, o, h, hQ, [Value.int .i64 x], rfl, fun j hj => ?_, rfl⟩
    have hj0 : j = 0 := by simp at hj; omega
    subst hj0
    simpa [Ty.size] using hc

end Pl
