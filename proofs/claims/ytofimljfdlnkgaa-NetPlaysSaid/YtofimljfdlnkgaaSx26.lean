/- A symbolic executor for the model's code: a contract that hands back a row of one's own. -/
import Derived.Test.YtofimljfdlnkgaaSx23
namespace Sx
open Go Go.RowKit

def FreshOK (P : Program) (f : FuncId) (ts : List Ty) (pre : TDs ts → Prop) (t : Ty) (F : TDs ts → List (TD t)) : Prop :=
  ∀ R w xs args, (∀ b, R b → b < w.heap.size) → ArgsR R w ts xs args → pre xs →
    Calls P f args.toArray w fun e w' => ∃ A cap, e = .returned (.slice A (F xs).length cap) ∧ (F xs).length ≤ cap ∧ Below w.heap.size w w' ∧
      ((A = none ∧ F xs = [] ∧ cap = 0) ∨ ∃ b o cs T, A = some ⟨b, o, none⟩ ∧ w.heap.size ≤ b ∧ w'.heap[b]? = some (.cells cs T (0, 0)) ∧ o + cap * t.size ≤ cs.size ∧
        ∀ i x, (F xs)[i]? = some x → ∃ c : List Value, c.length = t.size ∧ (∀ j, j < t.size → cs[o + i * t.size + j]? = c[j]?) ∧ ReadsC (fun _ => False) w' t x c)

def freshSp (ts : List Ty) (pre : TDs ts → Prop) (t : Ty) (F : TDs ts → List (TD t)) : Spec := fun args gh next =>
  match collectA gh ts args with
  | none => none
  | some xs => some (.req (pre xs) (.leaf ⟨.one (.row next), [(next, some (.own t (F xs)))], next + 1⟩))

theorem freshSp_ok {P : Program} {f : FuncId} {ts : List Ty} {pre : TDs ts → Prop} {t : Ty} {F : TDs ts → List (TD t)} (ht : t.flat = true) (h : FreshOK P f ts pre t F) : SpecOK P f (freshSp ts pre t F) := by
  intro args gh next tr d hsp hr R ρ w hG hids hbd
  unfold freshSp at hsp
  cases hc : collectA gh ts args with
  | none => rw [hc] at hsp; cases hsp
  | some xs =>
    rw [hc] at hsp
    simp only at hsp
    injection hsp with hsp
    subst hsp
    obtain ⟨hpre, hr⟩ := hr
    cases hr
    have hargs := collectA_sound hG hc
    have hbdl : ∀ k, Rplus R ρ gh k → k < w.heap.size := by
      rintro k (hk | ⟨id, g, h1, h2⟩)
      · exact hG.rlt k hk
      · exact (hG.olt id g k h1 h2).1
    unfold CallOK
    refine (h (Rplus R ρ gh) w xs (args.map (Tv.den ρ)) hbdl hargs hpre).mono ?_
    rintro e w' ⟨A, cap, he, hcap, hbelow, hrow⟩
    have hold : ∀ b, b < w.heap.size → w'.heap[b]? = w.heap[b]? := hbelow.block
    have hrow' : OwnRow R w' (ρ.set next ⟨A, (F xs).length, cap⟩) next t (F xs) := by
      refine ⟨by rw [Env.set_at], by rw [Env.set_at]; exact hcap, ?_⟩
      rcases hrow with ⟨e1, e2, e3⟩ | ⟨b, o, cs, T, e1, _, e3, e4, e5⟩
      · exact .inl ⟨by rw [Env.set_at]; exact e1, e2, by rw [Env.set_at]; exact e3⟩
      · refine .inr ⟨b, o, cs, T, by rw [Env.set_at]; exact e1, e3, by rw [Env.set_at]; exact e4, fun i x hx => ?_⟩
        obtain ⟨c, c1, c2, c3⟩ := e5 i x hx
        exact ⟨c, c1, c2, ReadsC.flat t x c ht c3⟩
    have hnew : ∀ a, A = some a → a.block < w'.heap.size ∧ w.heap.size ≤ a.block := by
      intro a ha
      rcases hrow with ⟨e1, _, _⟩ | ⟨b, o, cs, T, e1, e2, e3, _, _⟩
      · rw [e1] at ha; cases ha
      · rw [e1] at ha; injection ha with ha; subst ha
        exact ⟨(Array.getElem?_eq_some_iff.1 e3).1, e2⟩
    have hrep := RepG.addOwn (w' := w') (t := t) (zs := F xs) (S := ⟨A, (F xs).length, cap⟩) hG hbd (fun k hk => hold k (hbdl k hk)) hbelow.size hrow'
      (fun a ha => ⟨(hnew a ha).1, fun h => by have := hbdl _ (.inl h); have := (hnew a ha).2; omega, fun h => by have := hbdl _ (.inr h); have := (hnew a ha).2; omega⟩)
    have heq : applyUpd [(next, some (Gb.own t (F xs)))] gh = (next, .own t (F xs)) :: erase next gh := rfl
    refine ⟨R, ρ.set next ⟨A, (F xs).length, cap⟩, by rw [he]; simp [Tv.den, SV.den, Env.set_at], ?_, by rw [heq]; exact hrep⟩
    rw [heq]
    refine ⟨hbelow.size, hbelow.os, hbelow.tape, hbelow.output, fun k hk _ => hold k hk, fun id hid => Env.set_same ρ next _ id hid, fun _ h => h, fun _ h => .inl h, ?_⟩
    rintro b ⟨k, g, hk, hb⟩
    rw [look_cons, look_erase] at hk
    by_cases e : next = k
    · subst e
      rw [if_pos rfl] at hk; injection hk with hk; subst hk
      simp only [Gb.ownB, Env.set_at] at hb
      cases hA : A with
      | none => rw [hA] at hb; cases hb
      | some a => rw [hA] at hb; simp at hb; subst hb; exact .inr (hnew a hA).2
    · rw [if_neg e, if_neg e] at hk
      rw [ownB_same (Env.set_same ρ next _ k (hbd k g hk).1)] at hb
      exact .inl ⟨k, g, hk, hb⟩
end Sx
