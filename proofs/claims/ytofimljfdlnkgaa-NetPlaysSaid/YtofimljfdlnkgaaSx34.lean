/- A symbolic executor for the model's code: blocks that a call has made, from here on seen as pointers to data that may be nil. -/
import Derived.Test.YtofimljfdlnkgaaSx33
namespace Sx
open Go Go.RowKit

def castOD (st : St) (i : Nat) (t : Ty) : Option (Option (TD t)) := match look st.gh i with | some (.opt t' x) => castO t' t x | _ => none
/-- a pointer's datum, that may be nil -/
def optV (st : St) (t : Ty) : Option SV → Option (Option (TD t))
  | some .nilp => some none
  | some (.ptr i _) => castOD st i t
  | _ => none
def optC (st : St) (id k : Nat) (t : Ty) : Option (Option (TD t)) := optV st t ((cellsG st id).bind (·[k]?))

/-- what a block turns into -/
def toOpt (G : Gh) (t : Ty) : Gb → Gb
  | .blk cs => bif Nat.beq cs.length t.size then (match collect G t cs with | some y => .opt t (some y) | none => .blk cs) else .blk cs
  | g => g

def optU (G : Gh) (t : Ty) : List (Nat × Option Gb) → List (Nat × Option Gb)
  | [] => []
  | (k, og) :: r => (k, og.map (toOpt G t)) :: optU G t r

def optD (t : Ty) (gh : Gh) (d : Delta) : Tree Delta :=
  match once (applyUpd d.upd gh) with
  | true => .leaf ⟨d.val, optU (calm (applyUpd d.upd gh)) t d.upd, d.next⟩
  | false => .fail "a number told twice"

def optSp (t : Ty) (sp : Spec) : Spec := fun args gh next => (sp args gh next).map fun tr => tr.bind (optD t gh)

theorem look_optU (G : Gh) (t : Ty) : ∀ (u : List (Nat × Option Gb)) (k : Nat), look (optU G t u) k = (look u k).map (·.map (toOpt G t))
  | [], k => rfl
  | (a, og) :: r, k => by
    simp only [optU]
    rw [look_cons, look_cons, look_optU G t r k]
    by_cases e : a = k
    · rw [if_pos e, if_pos e]; rfl
    · rw [if_neg e, if_neg e]

section
variable {P : Program} {R : Nat → Prop} {ρ : Env} {gh : Gh} {w : World}

/-- blocks let go, as pointers to data -/
theorem RepG.opts (hG : RepG R ρ gh w) (ho : once gh = true) (t : Ty) {gh2 : Gh} (C : Nat → Bool) (h2 : ∀ id, look gh2 id = (look gh id).map fun g => bif C id then toOpt (calm gh) t g else g) :
    ∃ R2, RepG R2 ρ gh2 w ∧ (∀ b, R b → R2 b) ∧ (∀ b, R2 b → R b ∨ OwnB ρ gh b) ∧ (∀ b, OwnB ρ gh2 b → OwnB ρ gh b) := by
  let R2 : Nat → Prop := fun b => R b ∨ ∃ id g, look gh id = some g ∧ g.ownB ρ id = some b ∧ C id = true ∧ (toOpt (calm gh) t g).isOwn = false
  have hsub : ∀ b, R b → R2 b := fun b hb => .inl hb
  have hown : ∀ id g2 b, look gh2 id = some g2 → g2.ownB ρ id = some b → look gh id = some g2 ∧ (C id = false ∨ (toOpt (calm gh) t g2).isOwn = true) := by
    intro id g2 b h1 hb
    rw [h2] at h1
    cases hg : look gh id with
    | none => rw [hg] at h1; cases h1
    | some g =>
      rw [hg] at h1
      simp only [Option.map] at h1
      cases hc : C id with
      | false =>
        rw [hc] at h1
        injection h1 with h1
        exact ⟨by rw [← h1]; rfl, .inl rfl⟩
      | true =>
        rw [hc] at h1
        simp only [cond_true] at h1
        injection h1 with h1
        cases g with
        | blk cs =>
          simp only [toOpt] at h1
          cases hl : Nat.beq cs.length t.size with
          | false =>
            rw [hl] at h1
            subst h1
            exact ⟨rfl, .inr (by simp only [toOpt, cond_false]; rw [hl]; rfl)⟩
          | true =>
            rw [hl] at h1
            simp only [cond_true] at h1
            cases hcl : collect (calm gh) t cs with
            | none =>
              rw [hcl] at h1
              subst h1
              exact ⟨rfl, .inr (by simp only [toOpt]; rw [hl]; simp only [cond_true]; rw [hcl]; rfl)⟩
            | some y =>
              rw [hcl] at h1
              subst h1
              simp [Gb.ownB] at hb
        | rob _ => subst h1; exact ⟨rfl, .inr (by simp [toOpt, Gb.ownB] at hb)⟩
        | ro _ _ => subst h1; exact ⟨rfl, .inr (by simp [toOpt, Gb.ownB] at hb)⟩
        | own _ _ => subst h1; exact ⟨rfl, .inr rfl⟩
        | opt _ _ => subst h1; exact ⟨rfl, .inr (by simp [toOpt, Gb.ownB] at hb)⟩
        | pin _ _ => subst h1; exact ⟨rfl, .inr (by simp [toOpt, Gb.ownB] at hb)⟩
        | obj _ _ _ => subst h1; exact ⟨rfl, .inr rfl⟩
  refine ⟨R2, ⟨fun id g2 hg2 => ?_, ?_, fun id g b h1 hb => ?_, fun id id' g g' b h1 h1' hb hb' => ?_⟩, hsub, ?_, ?_⟩
  · rw [h2] at hg2
    cases hg : look gh id with
    | none => rw [hg] at hg2; cases hg2
    | some g =>
      rw [hg] at hg2
      simp only [Option.map] at hg2
      injection hg2 with hg2
      have hf := hG.facts id g hg
      have keep : Gfact R2 w ρ id g := Gfact.mono (p := fun _ => True) (fun b hb => ⟨hsub b hb, rfl⟩) (fun _ _ => rfl) trivial (fun _ _ => trivial) (fun _ _ => rfl) hf
      cases hc : C id with
      | false => rw [hc] at hg2; subst hg2; exact keep
      | true =>
        rw [hc] at hg2
        simp only [cond_true] at hg2
        cases g with
        | blk cs =>
          simp only [toOpt] at hg2
          cases hl : Nat.beq cs.length t.size with
          | false => rw [hl] at hg2; subst hg2; exact keep
          | true =>
            rw [hl] at hg2
            simp only [cond_true] at hg2
            cases hcl : collect (calm gh) t cs with
            | none => rw [hcl] at hg2; subst hg2; exact keep
            | some y =>
              rw [hcl] at hg2
              subst hg2
              obtain ⟨b, T, ha, hh⟩ := hf
              have hr := calm_reads hG ho hcl
              refine ⟨b, 0, ha, .inr ⟨id, _, hg, by simp [Gb.ownB, ha], hc, ?_⟩, dens ρ cs, by simp [beq_iff.1 hl], fun j hj => ?_, ReadsC.mono (fun b hb => ⟨hsub b hb, rfl⟩) _ _ _ hr⟩
              · simp only [toOpt]; rw [hl]; simp only [cond_true]; rw [hcl]; rfl
              · simp only [World.cell?, hh]
                simp
        | rob _ => subst hg2; exact keep
        | ro _ _ => subst hg2; exact keep
        | own _ _ => subst hg2; exact keep
        | opt _ _ => subst hg2; exact keep
        | pin _ _ => subst hg2; exact keep
        | obj _ _ _ => subst hg2; exact keep
  · rintro b (hb | ⟨id, g, h1, hb, _⟩)
    · exact hG.rlt b hb
    · exact (hG.olt id g b h1 hb).1
  · obtain ⟨h3, h4⟩ := hown id g b h1 hb
    refine ⟨(hG.olt id g b h3 hb).1, ?_⟩
    rintro (hr | ⟨id', g', h5, h6, h7, h8⟩)
    · exact (hG.olt id g b h3 hb).2 hr
    · have := hG.sep id id' g g' b h3 h5 hb h6
      subst this
      rw [h3] at h5; injection h5 with h5; subst h5
      rcases h4 with h4 | h4
      · rw [h4] at h7; cases h7
      · rw [h4] at h8; cases h8
  · exact hG.sep id id' g g' b (hown id g b h1 hb).1 (hown id' g' b h1' hb').1 hb hb'
  · rintro b (hb | ⟨id, g, h1, hb, _⟩)
    · exact .inl hb
    · exact .inr ⟨id, g, h1, hb⟩
  · rintro b ⟨id, g, h1, hb⟩
    exact ⟨id, g, (hown id g b h1 hb).1, hb⟩

theorem optSp_ok {f : FuncId} {t : Ty} {sp : Spec} (h : SpecOK P f sp) : SpecOK P f (optSp t sp) := by
  intro args gh next tr d ht hr R ρ w hG hids hbd
  unfold optSp at ht
  cases hs : sp args gh next with
  | none => rw [hs] at ht; cases ht
  | some t0 =>
    rw [hs] at ht
    simp only [Option.map] at ht
    injection ht with ht
    subst ht
    obtain ⟨d0, h1, h2⟩ := Tree.reach_bind.1 hr
    unfold optD at h2
    split at h2
    · rename_i ho
      cases h2
      have hc := h args gh next t0 d0 hs h1 R ρ w hG hids hbd
      unfold CallOK at hc ⊢
      refine hc.mono ?_
      rintro e w' ⟨R', ρ', he, hE, hG'⟩
      obtain ⟨R2, g1, g2, g3, g4⟩ := RepG.opts hG' ho t (gh2 := applyUpd (optU (calm (applyUpd d0.upd gh)) t d0.upd) gh) (fun id => (look d0.upd id).isSome) (fun id => by
        rw [look_applyUpd, look_applyUpd, look_optU]
        cases hu : look d0.upd id with
        | none => cases look gh id <;> rfl
        | some og => cases og <;> rfl)
      refine ⟨R2, ρ', he, ⟨hE.size, hE.os, hE.tape, hE.output, hE.keep, hE.env, fun b hb => g2 b (hE.sub b hb), fun b hb => ?_, fun b hb => hE.newO b (g4 b hb)⟩, g1⟩
      rcases g3 b hb with hb | hb
      · exact hE.newR b hb
      · exact .inr (hE.newO b hb)
    · exact h2.elim
end
end Sx
