/- A symbolic executor for the model's code: a call's ways, told as one datum. -/
import Derived.Test.YtofimljfdlnkgaaSx39
namespace Sx
open Go Go.RowKit

/-- what was there is as it was; all else is new -/
def oldOK (gh : Gh) (n m : Nat) : List (Nat × Option Gb) → Option (List Prop)
  | [] => some []
  | (k, og) :: r =>
    bif Nat.ble n k then (bif Nat.blt k m then oldOK gh n m r else none)
    else match og, look gh k with
      | some g', some g => appO (eqGbL (fun i => some i) g' g) (oldOK gh n m r)
      | _, _ => none

def Alike (g1 g : Gb) : Prop := ∀ (ρ : Env) (k : Nat), (∀ R w, Gfact R w ρ k g1 → Gfact R w ρ k g) ∧ g.ownB ρ k = g1.ownB ρ k

theorem eqGb_alike {g1 g : Gb} (h : eqGb (fun i => some i) g1 g) : Alike g1 g := by
  intro ρ k
  obtain ⟨m, hm⟩ : ∃ m, k < m ∧ ∀ i ∈ g.ids, i < m := by
    refine ⟨k + g.ids.sum + 1, by omega, fun i hi => ?_⟩
    have : i ≤ g.ids.sum := by
      generalize g.ids = l at hi
      induction l with
      | nil => cases hi
      | cons a r ih =>
        rcases List.mem_cons.1 hi with rfl | hi
        · simp
        · have := ih hi; simp; omega
    omega
  have hs : SrcOK (fun i => some i) m ρ ρ := fun i _ => ⟨fun j e => by injection e with e; rw [e], fun e => by cases e⟩
  exact ⟨fun R w hf => eqGb_fact hs hm.1 rfl h hm.2 hf, eqGb_own hs hm.1 rfl h⟩

theorem Alike.refl (g : Gb) : Alike g g := fun _ _ => ⟨fun _ _ h => h, rfl⟩

theorem oldOK_sound {gh : Gh} {n m : Nat} : ∀ {u : List (Nat × Option Gb)} {ps : List Prop}, oldOK gh n m u = some ps → All ps → ∀ k og, look u k = some og → (n ≤ k ∧ k < m) ∨ ∃ g' g, og = some g' ∧ look gh k = some g ∧ Alike g' g
  | [], _, _, _, k, og, h => by simp [look] at h
  | (a, og') :: r, ps, h, hp, k, og, hl => by
    simp only [oldOK] at h
    rw [look_cons] at hl
    cases h1 : Nat.ble n a with
    | true =>
      rw [h1] at h
      simp only [cond_true] at h
      cases h2 : Nat.blt a m with
      | false => rw [h2] at h; cases h
      | true =>
        rw [h2] at h
        simp only [cond_true] at h
        by_cases e : a = k
        · subst e; exact .inl ⟨Nat.le_of_ble_eq_true h1, blt_iff.1 h2⟩
        · rw [if_neg e] at hl; exact oldOK_sound h hp k og hl
    | false =>
      rw [h1] at h
      simp only [cond_false] at h
      split at h
      · rename_i g' g hg
        obtain ⟨x, y, k1, k2, k3, k4⟩ := appO_some h hp
        by_cases e : a = k
        · subst e
          rw [if_pos rfl] at hl
          injection hl with hl
          exact .inr ⟨g', g, hl.symm, hg, eqGb_alike (eqGbL_ok k1 k3)⟩
        · rw [if_neg e] at hl; exact oldOK_sound k2 k4 k og hl
      · cases h

def mergeD (rs : List Ty) (gh : Gh) (next : Nat) : Tree Delta → Option (List Prop × Nat × TDs rs)
  | .leaf d =>
    match once (applyUpd d.upd gh), oldOK gh next d.next d.upd with
    | true, some ps =>
      match (partsOf d.val rs.length).bind (collectA (calm (applyUpd d.upd gh)) rs) with
      | some y => some (ps, d.next, y)
      | none => none
    | _, _ => none
  | .req p t => match mergeD rs gh next t with | some (ps, m, y) => some (p :: ps, m, y) | none => none
  | .fork c t e =>
    match mergeD rs gh next t, mergeD rs gh next e with
    | some (pa, m, a), some (pb, k, b) => some (wrapP (c = true) pa ++ wrapP (c = false) pb, Nat.max m k, bif c then a else b)
    | _, _ => none
  | .lt _ v k => mergeD rs gh next (k v)
  | .fail _ => none

def dataSp (rs : List Ty) (sp : Spec) : Spec := fun args gh next =>
  match sp args gh next with
  | none => none
  | some t =>
    match mergeD rs gh next t with
    | none => none
    | some (ps, m, y) => some (.req (conjP ps) (.lt rs y fun y =>
      match expandR rs y next with
      | none => .fail "a result that is not told"
      | some (ps, g, n') =>
        match mkRes ps with
        | some v => .leaf ⟨v, updOf g, Nat.max m n'⟩
        | none => .fail "a result that is not told"))

section
variable {P : Program} {R : Nat → Prop} {ρ : Env} {gh : Gh} {next : Nat} {w : World}

theorem mergeD_sound {rs : List Ty} : ∀ {t : Tree Delta} {ps : List Prop} {m : Nat} {y : TDs rs}, mergeD rs gh next t = some (ps, m, y) → AllP ps →
    ∃ d us, t.reach d ∧ d.next ≤ m ∧ (∃ qs, oldOK gh next d.next d.upd = some qs ∧ All qs) ∧ once (applyUpd d.upd gh) = true ∧ partsOf d.val rs.length = some us ∧ collectA (calm (applyUpd d.upd gh)) rs us = some y
  | .leaf d, ps, m, y, h, hps => by
    simp only [mergeD] at h
    split at h
    · rename_i ps' hon hold
      split at h
      · rename_i y' hy
        injection h with h; injection h with h1 h; injection h with h2 h3
        subst h1; subst h2; subst h3
        cases hp : partsOf d.val rs.length with
        | none => rw [hp] at hy; cases hy
        | some us => rw [hp] at hy; exact ⟨d, us, rfl, Nat.le_refl _, ⟨_, hold, hps⟩, hon, hp, hy⟩
      · cases h
    · cases h
  | .req p t, ps, m, y, h, hps => by
    simp only [mergeD] at h
    split at h
    · rename_i ps' m' y' ht
      injection h with h; injection h with h1 h; injection h with h2 h3
      subst h1; subst h2; subst h3
      obtain ⟨d, us, k1, k2⟩ := mergeD_sound ht fun q hq => hps q (List.mem_cons_of_mem _ hq)
      exact ⟨d, us, ⟨hps p List.mem_cons_self, k1⟩, k2⟩
    · cases h
  | .fork c t e, ps, m, y, h, hps => by
    simp only [mergeD] at h
    split at h
    · rename_i pa ma a pb mb b ht he
      injection h with h; injection h with h1 h; injection h with h2 h3
      subst h1; subst h2; subst h3
      cases c with
      | true =>
        obtain ⟨d, us, k1, k0, k2⟩ := mergeD_sound ht (wrapP_all (fun p hq => hps p (List.mem_append.2 (.inl hq))) rfl)
        exact ⟨d, us, .inl ⟨rfl, k1⟩, Nat.le_trans k0 (Nat.le_max_left _ _), k2⟩
      | false =>
        obtain ⟨d, us, k1, k0, k2⟩ := mergeD_sound he (wrapP_all (fun p hq => hps p (List.mem_append.2 (.inr hq))) rfl)
        exact ⟨d, us, .inr ⟨rfl, k1⟩, Nat.le_trans k0 (Nat.le_max_right _ _), k2⟩
    · cases h
  | .lt ts v k, ps, m, y, h, hps => by
    simp only [mergeD] at h
    exact mergeD_sound (t := k v) h hps
  | .fail _, ps, m, y, h, _ => by simp [mergeD] at h

theorem dataSp_ok {f : FuncId} {rs : List Ty} {sp : Spec} (h : SpecOK P f sp) : SpecOK P f (dataSp rs sp) := by
  intro args gh next tr d ht hr R ρ w hG hids hbd
  unfold dataSp at ht
  cases hs : sp args gh next with
  | none => rw [hs] at ht; cases ht
  | some t0 =>
    rw [hs] at ht
    simp only at ht
    cases hm : mergeD rs gh next t0 with
    | none => rw [hm] at ht; cases ht
    | some q =>
      obtain ⟨ps, m, y⟩ := q
      rw [hm] at ht
      simp only at ht
      injection ht with ht
      subst ht
      obtain ⟨hps, hr⟩ := hr
      simp only [Tree.reach] at hr
      obtain ⟨d0, us, hd0, hm0, ⟨qs, hkey, hqs⟩, hon, hp, hy⟩ := mergeD_sound hm (conjP_all hps)
      cases he : expandR rs y next with
      | none => rw [he] at hr; exact hr.elim
      | some q2 =>
        obtain ⟨vs, g, n'⟩ := q2
        rw [he] at hr
        simp only at hr
        cases hv : mkRes vs with
        | none => rw [hv] at hr; exact hr.elim
        | some v =>
          rw [hv] at hr
          cases hr
          have hle : d0.next ≤ Nat.max m n' := Nat.le_trans hm0 (Nat.le_max_left _ _)
          have hle2 : n' ≤ Nat.max m n' := Nat.le_max_right _ _
          have hc := h args gh next t0 d0 hs hd0 R ρ w hG (fun v hv i hi => (hids v hv i hi).imp (fun h => h) fun h => Nat.le_trans hle h) (fun id g hg => ⟨(hbd id g hg).1.imp (fun h => h) fun h => Nat.le_trans hle h, fun i hi => ((hbd id g hg).2 i hi).imp (fun h => h) fun h => Nat.le_trans hle h⟩)
          unfold CallOK at hc ⊢
          refine hc.mono ?_
          rintro e w' ⟨R', ρi, he', hE, hG'⟩
          have hG2c : RepG R' ρi (calm (applyUpd d0.upd gh)) w' := hG'.without fun i g h => (calm_look hon h).1
          have hres : ArgsR R' w' rs y (us.map (Tv.den ρi)) := ArgsR.mono (fun b hb => ⟨calm_plus hG' hon hb, rfl⟩) (collectA_sound hG2c hy)
          obtain ⟨ρ', x1, x2, x3⟩ := expandR_sound (ρ := ρ) he hres
          have hold : ∀ k g, look gh k = some g → ∃ g1, look (applyUpd d0.upd gh) k = some g1 ∧ Alike g1 g := fun k g hg => by
            rw [look_applyUpd]
            cases hl : look d0.upd k with
            | none => exact ⟨g, hg, Alike.refl g⟩
            | some og =>
              rcases oldOK_sound hkey hqs k og hl with ⟨k1, k2⟩ | ⟨g', g0, k1, k2, k3⟩
              · have h3 : k < next ∨ Nat.max m n' ≤ k := (hbd k g hg).1
                rcases h3 with h3 | h3
                · omega
                · have := Nat.le_trans hle h3; omega
              · rw [hg] at k2; injection k2 with k2; subst k2; subst k1
                exact ⟨g', rfl, k3⟩
          have hS : ∀ i, (i < next ∨ Nat.max m n' ≤ i) → ρ' i = ρi i := fun i hi => (x1.same i (hi.imp (fun h => h) fun h => Nat.le_trans hle2 h)).trans (hE.env i (hi.imp (fun h => h) fun h => Nat.le_trans hle h)).symm
          have hcase : ∀ id b, look (applyUpd (updOf g) gh) id = some b → (look g id = some b ∧ b.ownB ρ' id = none) ∨ look gh id = some b := by
            intro id b hb
            rw [look_applyUpdOf] at hb
            cases hg : look g id with
            | some b' =>
              rw [hg] at hb; simp at hb; subst hb
              refine .inl ⟨rfl, ?_⟩
              have := (x1.gh id b' hg).2.2.1
              cases b' <;> simp [Gb.isOwn] at this <;> rfl
            | none => rw [hg] at hb; exact .inr hb
          have hown : ∀ id b k, look (applyUpd (updOf g) gh) id = some b → b.ownB ρ' id = some k → ∃ b1, look (applyUpd d0.upd gh) id = some b1 ∧ b1.ownB ρi id = some k ∧ look gh id = some b ∧ b.ownB ρ id = some k := by
            intro id b k hb hk
            rcases hcase id b hb with ⟨_, h2⟩ | h1
            · rw [h2] at hk; cases hk
            · have hi := (hbd id b h1).1
              have e1 : b.ownB ρi id = some k := by rw [← ownB_same (hS id hi)]; exact hk
              obtain ⟨b1, k1, k2⟩ := hold id b h1
              exact ⟨b1, k1, by rw [← (k2 ρi id).2]; exact e1, h1, by rw [← ownB_same (hE.env id (hi.imp (fun h => h) fun h => Nat.le_trans hle h))]; exact e1⟩
          refine ⟨R', ρ', ?_, ⟨hE.size, hE.os, hE.tape, hE.output, hE.keep, fun id hid => x1.same id (hid.imp (fun h => h) fun h => Nat.le_trans hle2 h), hE.sub, hE.newR, ?_⟩, ⟨fun id b hb => ?_, hG'.rlt, fun id b k hb hk => ?_, fun id id' b b' k hb hb' hk hk' => ?_⟩⟩
          · rw [he', partsOf_den hp (collectA_len hy), mkRes_den hv, x2]
          · rintro k ⟨id, b, hb, hk⟩
            obtain ⟨_, _, _, k3, k4⟩ := hown id b k hb hk
            exact .inl ⟨id, b, k3, k4⟩
          · rcases hcase id b hb with ⟨h1, _⟩ | h1
            · exact (x1.gh id b h1).2.2.2
            · exact Gfact.mono (p := fun i => i < next ∨ Nat.max m n' ≤ i) (fun _ hb => ⟨hb, rfl⟩) hS (hbd id b h1).1 (hbd id b h1).2 (fun _ _ => rfl) ((hold id b h1).elim fun b1 hb1 => (hb1.2 ρi id).1 _ _ (hG'.facts id b1 hb1.1))
          · obtain ⟨b1, k1, k2, _⟩ := hown id b k hb hk
            exact hG'.olt id b1 k k1 k2
          · obtain ⟨b1, k1, k2, _⟩ := hown id b k hb hk
            obtain ⟨b2, k3, k4, _⟩ := hown id' b' k hb' hk'
            exact hG'.sep id id' b1 b2 k k1 k3 k2 k4
end
end Sx
