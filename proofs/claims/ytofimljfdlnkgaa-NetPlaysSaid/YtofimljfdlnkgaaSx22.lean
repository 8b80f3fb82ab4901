/- A symbolic executor for the model's code: functions by number, loops by a list. -/
import Derived.Test.YtofimljfdlnkgaaSx21
namespace Sx
open Go Go.RowKit

theorem Tree.all_eq {α : Type} {t t' : Tree α} {Q : α → Prop} (h : t = t') (h' : t'.all Q) : t.all Q := h ▸ h'

def bodyOf (fn : Func) : Code := match fn.body with | some b => b | none => .skip

/-- what a function computes, over data: a tree -/
def fnT (E : Ex) (lps : List (Nat × (St → Tree Out))) (n : Nat) (fn : Func) (ts rs : List Ty) (xs : TDs ts) : Tree (TDs rs) :=
  pureTree E (look lps) n fn (bodyOf fn) ts rs xs

/-- a function entered in place, by its callers -/
def fnI (E : Ex) (lps : List (Nat × (St → Tree Out))) (n : Nat) (fn : Func) : Spec := inl E (look lps) n fn (bodyOf fn)

def LpsOK (P : Program) (fn : Func) (lps : List (Nat × (St → Tree Out))) : Prop :=
  ∀ j sp, look lps j = some sp → ∀ st out, (sp st).reach out → CodeOK P fn.ntmps (.loop (loopAt (bodyOf fn) j)) st out

theorem LpsOK.nil {P : Program} {fn : Func} : LpsOK P fn [] := fun j sp h => by simp [look] at h

theorem LpsOK.cons {P : Program} {fn : Func} {j : Nat} {sp : St → Tree Out} {r : List (Nat × (St → Tree Out))} (h : ∀ st out, (sp st).reach out → CodeOK P fn.ntmps (.loop (loopAt (bodyOf fn) j)) st out) (hr : LpsOK P fn r) : LpsOK P fn ((j, sp) :: r) := by
  intro k sp' hk
  rw [look_cons] at hk
  by_cases e : j = k
  · rw [if_pos e] at hk; injection hk with hk; subst hk; subst e; exact h
  · rw [if_neg e] at hk; exact hr k sp' hk

theorem LpsOK.loops {P : Program} {fn : Func} {lps : List (Nat × (St → Tree Out))} (h : LpsOK P fn lps) : LoopsOK P fn.ntmps (look lps) (bodyOf fn) 0 := by
  intro j _ sp hsp st out hr
  rw [Nat.zero_add] at hsp
  exact h j sp hsp st out hr

theorem fn_pure {E : Ex} (hE : E.Sound) {f : FuncId} {fn : Func} (hf : E.P.funcs[f]? = some fn) (hbody : fn.body = some (bodyOf fn)) {lps : List (Nat × (St → Tree Out))} (hl : LpsOK E.P fn lps) {n : Nat} {ts rs : List Ty}
    {pre : TDs ts → Prop} {F : TDs ts → TDs rs} (h : ∀ xs, pre xs → (fnT E lps n fn ts rs xs).all fun y => y = F xs) : PureOK E.P f ts rs pre F :=
  pure_of_tree hE hf hbody hl.loops h

theorem fnI_ok {E : Ex} (hE : E.Sound) {f : FuncId} {fn : Func} (hf : E.P.funcs[f]? = some fn) (hbody : fn.body = some (bodyOf fn)) {lps : List (Nat × (St → Tree Out))} (hl : LpsOK E.P fn lps) {n : Nat} : SpecOK E.P f (fnI E lps n fn) :=
  inl_ok hE hf hbody hl.loops

/-- the loops within a loop -/
theorem inner {P : Program} {fn : Func} {c : Code} {i : Nat} (h : nloops c = 0) {loops : Nat → Option (St → Tree Out)} : LoopsOK P fn.ntmps loops c i := fun j hj => by omega

/-- to see where a loop is entered -/
def heads (E : Ex) (lps : List (Nat × (St → Tree Out))) (n : Nat) (fn : Func) (ts : List Ty) (xs : TDs ts) : Tree Out :=
  match expandR ts xs 0 with
  | none => .fail "arguments"
  | some (ps, gh, next) =>
    match argTvs ps with
    | none => .fail "arguments"
    | some args => execCode E fn.ntmps (fun j => match look lps j with | some sp => some sp | none => some fun st => .leaf ⟨1000 + j, st⟩) n (bodyOf fn) 0 ⟨slotsOf 0 args, gh, next⟩

def roundT (E : Ex) (lps : List (Nat × (St → Tree Out))) (n : Nat) (fn : Func) (j : Nat) (st : St) : Tree Out :=
  execCode E fn.ntmps (look lps) n (loopAt (bodyOf fn) j) (j + 1) st
attribute [irreducible] fnT heads fnI
end Sx
