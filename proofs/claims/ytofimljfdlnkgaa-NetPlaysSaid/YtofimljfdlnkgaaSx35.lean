/- A symbolic executor for the model's code: new blocks, from here on seen as blocks that hold data. -/
import Derived.Test.YtofimljfdlnkgaaSx34
namespace Sx
open Go Go.RowKit

def toObj (G : Gh) (n : Nat) (t : Ty) : Gb → Gb
  | .blk cs => bif Nat.beq cs.length (n + t.size) then (match collect G t (cs.drop n) with | some y => .obj (cs.take n) t y | none => .blk cs) else .blk cs
  | g => g

def objU (G : Gh) (n : Nat) (t : Ty) : List (Nat × Option Gb) → List (Nat × Option Gb)
  | [] => []
  | (k, og) :: r => (k, og.map (toObj G n t)) :: objU G n t r

def objD (n : Nat) (t : Ty) (gh : Gh) (d : Delta) : Tree Delta :=
  match once (applyUpd d.upd gh) with
  | true => .leaf ⟨d.val, objU (calm (applyUpd d.upd gh)) n t d.upd, d.next⟩
  | false => .fail "a number told twice"

/-- what a call makes, of so many cells and a datum, holds a datum from here on -/
def objSp (n : Nat) (t : Ty) (sp : Spec) : Spec := fun args gh next => (sp args gh next).map fun tr => tr.bind (objD n t gh)

theorem look_objU (G : Gh) (n : Nat) (t : Ty) : ∀ (u : List (Nat × Option Gb)) (k : Nat), look (objU G n t u) k = (look u k).map (·.map (toObj G n t))
  | [], k => rfl
  | (a, og) :: r, k => by
    simp only [objU]
    rw [look_cons, look_cons, look_objU G n t r k]
    by_cases e : a = k
    · rw [if_pos e, if_pos e]; rfl
    · rw [if_neg e, if_neg e]

section
variable {P : Program} {R : Nat → Prop} {ρ : Env} {gh : Gh} {w : World}

theorem toObj_own (G : Gh) (n : Nat) (t : Ty) (g : Gb) (ρ : Env) (id : Nat) : (toObj G n t g).ownB ρ id = g.ownB ρ id := by
  cases g with
  | blk cs =>
    simp only [toObj]
    cases Nat.beq cs.length (n + t.size) with
    | false => rfl
    | true =>
      simp only [cond_true]
      cases collect G t (cs.drop n) <;> rfl
  | _ => rfl

theorem toObj_fact (hG : RepG R ρ gh w) (ho : once gh = true) {n : Nat} {t : Ty} {id : Nat} {g : Gb} (hf : Gfact R w ρ id g) : Gfact R w ρ id (toObj (calm gh) n t g) := by
  cases g with
  | blk cs =>
    simp only [toObj]
    cases hl : Nat.beq cs.length (n + t.size) with
    | false => exact hf
    | true =>
      simp only [cond_true]
      cases hc : collect (calm gh) t (cs.drop n) with
      | none => exact hf
      | some y =>
        obtain ⟨b, T, ha, hh⟩ := hf
        refine ⟨b, T, dens ρ (cs.drop n), ha, ?_, calm_reads hG ho hc⟩
        rw [← dens_append, List.take_append_drop]
        exact hh
  | _ => exact hf

theorem RepG.objs (hG : RepG R ρ gh w) (ho : once gh = true) (n : Nat) (t : Ty) {gh2 : Gh} (C : Nat → Bool) (h2 : ∀ id, look gh2 id = (look gh id).map fun g => bif C id then toObj (calm gh) n t g else g) :
    RepG R ρ gh2 w ∧ (∀ b, OwnB ρ gh2 b → OwnB ρ gh b) := by
  have key : ∀ id g2, look gh2 id = some g2 → ∃ g, look gh id = some g ∧ g2.ownB ρ id = g.ownB ρ id ∧ Gfact R w ρ id g2 := by
    intro id g2 h
    rw [h2] at h
    cases hg : look gh id with
    | none => rw [hg] at h; cases h
    | some g =>
      rw [hg] at h
      simp only [Option.map] at h
      injection h with h
      have hf := hG.facts id g hg
      cases hc : C id with
      | false => rw [hc] at h; subst h; exact ⟨g, rfl, rfl, hf⟩
      | true => rw [hc] at h; subst h; exact ⟨g, rfl, toObj_own _ _ _ _ _ _, toObj_fact hG ho hf⟩
  refine ⟨⟨fun id g2 h => (key id g2 h).elim fun g k => k.2.2, hG.rlt, fun id g2 b h hb => ?_, fun id id' g g' b h h' hb hb' => ?_⟩, ?_⟩
  · obtain ⟨g, k1, k2, _⟩ := key id g2 h
    exact hG.olt id g b k1 (k2 ▸ hb)
  · obtain ⟨y, k1, k2, _⟩ := key id g h
    obtain ⟨y', k1', k2', _⟩ := key id' g' h'
    exact hG.sep id id' y y' b k1 k1' (k2 ▸ hb) (k2' ▸ hb')
  · rintro b ⟨id, g2, h, hb⟩
    obtain ⟨g, k1, k2, _⟩ := key id g2 h
    exact ⟨id, g, k1, k2 ▸ hb⟩

theorem objSp_ok {f : FuncId} {n : Nat} {t : Ty} {sp : Spec} (h : SpecOK P f sp) : SpecOK P f (objSp n t sp) := by
  intro args gh next tr d ht hr R ρ w hG hids hbd
  unfold objSp at ht
  cases hs : sp args gh next with
  | none => rw [hs] at ht; cases ht
  | some t0 =>
    rw [hs] at ht
    simp only [Option.map] at ht
    injection ht with ht
    subst ht
    obtain ⟨d0, h1, h2⟩ := Tree.reach_bind.1 hr
    unfold objD at h2
    split at h2
    · rename_i ho
      cases h2
      have hc := h args gh next t0 d0 hs h1 R ρ w hG hids hbd
      unfold CallOK at hc ⊢
      refine hc.mono ?_
      rintro e w' ⟨R', ρ', he, hE, hG'⟩
      obtain ⟨g1, g4⟩ := RepG.objs hG' ho n t (gh2 := applyUpd (objU (calm (applyUpd d0.upd gh)) n t d0.upd) gh) (fun id => (look d0.upd id).isSome) (fun id => by
        rw [look_applyUpd, look_applyUpd, look_objU]
        cases hu : look d0.upd id with
        | none => cases look gh id <;> rfl
        | some og => cases og <;> rfl)
      exact ⟨R', ρ', he, ⟨hE.size, hE.os, hE.tape, hE.output, hE.keep, hE.env, hE.sub, hE.newR, fun b hb => hE.newO b (g4 b hb)⟩, g1⟩
    · exact h2.elim
end
end Sx
