/- A symbolic executor for the model's code: what is reached, what is let go. -/
import Derived.Test.YtofimljfdlnkgaaSxW1
namespace Sx
open Go Go.RowKit

def memN (i : Nat) (l : List Nat) : Bool := l.any (Nat.beq i)
theorem memN_iff {i : Nat} {l : List Nat} : memN i l = true ↔ i ∈ l := by
  simp only [memN, List.any_eq_true]
  constructor
  · rintro ⟨j, hj, h⟩; rw [beq_iff.1 h]; exact hj
  · intro h; exact ⟨i, h, Nat.beq_refl i⟩

def kids (gh : Gh) (ids : List Nat) : List Nat := ids.flatMap fun i => match look gh i with | some g => g.ids | none => []

def addNew : List Nat → List Nat → List Nat
  | acc, [] => acc
  | acc, i :: r => bif memN i acc then addNew acc r else addNew (i :: acc) r

def reachN (gh : Gh) : Nat → List Nat → List Nat
  | 0, ids => ids
  | n + 1, ids => reachN gh n (addNew ids (kids gh ids))

theorem look_mem {α : Type} : ∀ {l : List (Nat × α)} {k : Nat} {x : α}, look l k = some x → (k, x) ∈ l
  | (a, b) :: r, k, x, h => by
    rw [look_cons] at h
    by_cases e : a = k
    · rw [if_pos e] at h; injection h with h; subst h; subst e; simp
    · rw [if_neg e] at h; exact List.mem_cons_of_mem _ (look_mem h)

theorem look_filter {α : Type} (p : Nat × α → Bool) : ∀ {l : List (Nat × α)} {k : Nat} {x : α}, (∀ a b, (k, a) ∈ l → (k, b) ∈ l → p (k, a) = p (k, b)) → look (l.filter p) k = some x → look l k = some x ∧ p (k, x) = true
  | [], k, x, _, h => by simp [look] at h
  | (a, b) :: r, k, x, hp, h => by
    rw [look_cons]
    by_cases e : a = k
    · subst e
      rw [if_pos rfl]
      cases hb : p (a, b) with
      | true => rw [List.filter_cons_of_pos (by simpa using hb), look_cons, if_pos rfl] at h; injection h with h; subst h; exact ⟨rfl, hb⟩
      | false =>
        rw [List.filter_cons_of_neg (by simp [hb])] at h
        obtain ⟨h1, h2⟩ := look_filter p (fun u v hu hv => hp u v (List.mem_cons_of_mem _ hu) (List.mem_cons_of_mem _ hv)) h
        have := hp b x List.mem_cons_self (List.mem_cons_of_mem _ (look_mem h1))
        rw [hb, h2] at this; cases this
    · rw [if_neg e]
      cases hb : p (a, b) with
      | true =>
        rw [List.filter_cons_of_pos (by simpa using hb), look_cons, if_neg e] at h
        exact look_filter p (fun u v hu hv => hp u v (List.mem_cons_of_mem _ hu) (List.mem_cons_of_mem _ hv)) h
      | false =>
        rw [List.filter_cons_of_neg (by simp [hb])] at h
        exact look_filter p (fun u v hu hv => hp u v (List.mem_cons_of_mem _ hu) (List.mem_cons_of_mem _ hv)) h

/-- the numbers are told once -/
def once : Gh → Bool
  | [] => true
  | (k, _) :: r => !(r.any fun p => Nat.beq p.1 k) && once r

theorem once_mem : ∀ {l : Gh}, once l = true → ∀ {k : Nat} {a b : Gb}, (k, a) ∈ l → (k, b) ∈ l → a = b
  | [], _, k, a, b, h, _ => by cases h
  | (i, g) :: r, ho, k, a, b, ha, hb => by
    simp only [once, Bool.and_eq_true, Bool.not_eq_true'] at ho
    have hn : ∀ c, (i, c) ∈ r → False := fun c hc => by
      have : (r.any fun p => Nat.beq p.1 i) = true := List.any_eq_true.2 ⟨_, hc, Nat.beq_refl i⟩
      rw [ho.1] at this; cases this
    rcases List.mem_cons.1 ha with e1 | e1 <;> rcases List.mem_cons.1 hb with e2 | e2
    · injection e1 with _ e1; injection e2 with _ e2; rw [e1, e2]
    · injection e1 with e e1; subst e; exact (hn _ e2).elim
    · injection e2 with e e2; subst e; exact (hn _ e1).elim
    · exact once_mem ho.2 e1 e2

/-- what one owned may only be read from here on -/
def absorbO (full : Gh) : Gh → List (Nat × Option Gb)
  | [] => []
  | (k, _) :: r =>
    match look full k with
    | some g => bif g.isOwn then (k, some g.abs) :: absorbO full r else absorbO full r
    | none => absorbO full r

theorem look_absorbO (full : Gh) : ∀ (gh : Gh) (k : Nat), look (absorbO full gh) k = if (look gh k).isSome then (look full k).elim none (fun g => bif g.isOwn then some (some g.abs) else none) else none
  | [], k => by simp [absorbO, look]
  | (a, x) :: r, k => by
    have ih := look_absorbO full r k
    simp only [absorbO]
    by_cases hk : a = k
    · subst hk
      rw [look_cons, if_pos rfl]
      simp only [Option.isSome_some, if_true]
      cases hf : look full a with
      | none =>
        rw [ih, hf]
        split <;> rfl
      | some g =>
        simp only [Option.elim]
        cases ho : g.isOwn with
        | true => simp only [cond_true]; rw [look_cons, if_pos rfl]
        | false =>
          simp only [cond_false]
          rw [ih, hf]
          simp only [Option.elim, ho, cond_false]
          split <;> rfl
    · have e2 : look (match look full a with | some g => bif g.isOwn then (a, some g.abs) :: absorbO full r else absorbO full r | none => absorbO full r) k = look (absorbO full r) k := by
        cases look full a with
        | none => rfl
        | some g =>
          cases ho : g.isOwn with
          | true => simp only [ho, cond_true]; rw [look_cons, if_neg hk]
          | false => simp only [ho, cond_false]
      rw [e2, ih, look_cons, if_neg hk]

theorem absorbO_same (gh : Gh) (k : Nat) : ((look (absorbO gh gh) k).elim (look gh k) id) = (look gh k).map Gb.abs := by
  rw [look_absorbO]
  cases hl : look gh k with
  | none => simp
  | some g =>
    cases g <;> rfl

def calm (gh : Gh) : Gh := gh.filter fun p => !p.2.isOwn

section
variable {R : Nat → Prop} {ρ : Env} {gh : Gh} {w : World}

theorem calm_look {gh : Gh} (ho : once gh = true) {id : Nat} {g : Gb} (h : look (calm gh) id = some g) : look gh id = some g ∧ g.isOwn = false := by
  obtain ⟨h1, h2⟩ := look_filter _ (fun u v hu hv => by rw [once_mem ho hu hv]) h
  exact ⟨h1, by simpa using h2⟩

theorem calm_reads (hG : RepG R ρ gh w) (ho : once gh = true) {t : Ty} {cs : List SV} {y : TD t} (h : collect (calm gh) t cs = some y) : ReadsC R w t y (dens ρ cs) := by
  have hG1 : RepG R ρ (calm gh) w := hG.without fun i g h => (calm_look ho h).1
  refine ReadsC.mono (fun b hb => ⟨?_, rfl⟩) _ _ _ (collect_sound hG1 t cs y h)
  rcases hb with hb | ⟨id, g, h1, h2⟩
  · exact hb
  · have := (calm_look ho h1).2
    cases g <;> simp [Gb.isOwn] at this <;> simp [Gb.ownB] at h2

end

theorem applyUpd_append : ∀ (u v : List (Nat × Option Gb)) (gh : Gh), applyUpd (u ++ v) gh = applyUpd u (applyUpd v gh)
  | [], _, _ => rfl
  | (i, some g) :: u, v, gh => by simp only [List.cons_append, applyUpd, applyUpd_append u v gh]
  | (i, none) :: u, v, gh => by simp only [List.cons_append, applyUpd, applyUpd_append u v gh]

end Sx
