/- A symbolic executor for the model's code: the arguments of a claim's row. -/
import Derived.Test.YtofimljfdlnkgaaSx24
namespace Sx
open Go Go.RowKit
section
variable {H : Type} {enc : TypeId × Value → H} {P : Program} {w : World} {sp : Nat → Bool} {held : Bool}

def notAgg : Value → Bool
  | .agg _ => false
  | _ => true

theorem notAgg_cells {v : Value} (h : notAgg v = true) : v.cells.toList.headD undef = v := by
  cases v <;> first | rfl | cases h

theorem shape {t : Ty} {T : TypeId} {r : Reach} {bs : Nat} {v : Value} (hf : (fits P t).1 T = true) (ho : Value.okWide P w r bs T v) : valT t v.cells.toList = v := by
  have flat : ∀ d, P.underlying T = some d → (match d with | .int _ | .bool | .string | .slice _ | .pointer _ => true | _ => false) = true → notAgg v = true := by
    intro d hd hk
    unfold Value.okWide at ho
    rw [hd] at ho
    cases d <;> simp at hk <;> simp only [Cell.okWide, hd] at ho <;> cases v <;> simp_all [Cell.ok, notAgg]
  have agg : ∀ d, P.underlying T = some d → (match d with | .struct _ | .array _ _ => true | _ => false) = true → ∃ cs, v = .agg cs := by
    intro d hd hk
    unfold Value.okWide at ho
    rw [hd] at ho
    cases d <;> simp at hk <;> obtain ⟨cs, h, _⟩ := ho <;> exact ⟨cs, h⟩
  cases t with
  | int k =>
    simp only [fits] at hf; split at hf
    · rename_i h; exact notAgg_cells (flat _ h rfl)
    · cases hf
  | bool =>
    simp only [fits] at hf; split at hf
    · rename_i h; exact notAgg_cells (flat _ h rfl)
    · cases hf
  | str =>
    simp only [fits] at hf; split at hf
    · rename_i h; exact notAgg_cells (flat _ h rfl)
    · cases hf
  | slice a =>
    simp only [fits] at hf; split at hf
    · rename_i h; exact notAgg_cells (flat _ h rfl)
    · cases hf
  | optr a =>
    simp only [fits] at hf; split at hf
    · rename_i h; exact notAgg_cells (flat _ h rfl)
    · cases hf
  | rep n a =>
    simp only [fits] at hf; split at hf
    · rename_i h; obtain ⟨cs, rfl⟩ := agg _ h rfl; simp [valT, Ty.isAgg, Value.cells]
    · cases hf
  | cat a b =>
    simp only [fits, catOne] at hf; split at hf
    · rename_i h; obtain ⟨cs, rfl⟩ := agg _ h rfl; simp [valT, Ty.isAgg, Value.cells]
    · cases hf
  | unit => cases hf
  | ptr a => cases hf
  | fnl f => cases hf
  | clo f a => cases hf

/-- ONE ARGUMENT, as data. -/
theorem came {t : Ty} {T : TypeId} {r : Reach} {bs : Nat} {v : Value} {d : DataW H} {p : List MemPlace} (hf : (fits P t).1 T = true) (ho : Value.okWide P w r bs T v) (h : DataW.Trod enc P w 0 sp held T v d p) :
    ∃ x cs, v = valT t cs ∧ ReadsC (Rw w) w t x cs ∧ Good t x := by
  obtain ⟨fuel, h⟩ := h
  obtain ⟨x, hx, hg⟩ := (fits_ok t).1 _ _ _ _ hf h
  exact ⟨x, _, (shape hf ho).symm, hx, hg⟩
end
end Sx
