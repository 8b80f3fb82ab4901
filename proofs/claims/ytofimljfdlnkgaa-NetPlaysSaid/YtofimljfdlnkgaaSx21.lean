/- A symbolic executor for the model's code: states alike; loops by an invariant. -/
import Derived.Test.YtofimljfdlnkgaaSx20
namespace Sx
open Go Go.RowKit

/-! ### one state serves as another -/
def srcOf (n0 : Nat) (τ : List (Nat × Option Nat)) (id : Nat) : Option Nat :=
  bif Nat.blt id n0 then some id else match look τ id with | some s => s | none => some id

def eqId (src : Nat → Option Nat) (i i' : Nat) : Prop := src i' = some i

def eqCaps (src : Nat → Option Nat) : List (Nat × Nat) → List (Nat × Nat) → Prop
  | [], [] => True
  | (i, o) :: r, (i', o') :: r' => eqId src i i' ∧ o = o' ∧ eqCaps src r r'
  | _, _ => False

def eqSV (src : Nat → Option Nat) : SV → SV → Prop
  | .cint k n, .cint k' n' | .cint k n, .int k' n' | .int k n, .cint k' n' | .int k n, .int k' n' => k = k' ∧ n = n'
  | .cbool b, .cbool b' | .cbool b, .bool b' | .bool b, .cbool b' | .bool b, .bool b' => b = b'
  | .str s, .str s' => s = s'
  | .nilp, .nilp => True
  | .nilp, .ptr i' _ => src i' = none
  | .ptr i o, .ptr i' o' => eqId src i i' ∧ o = o'
  | .elt i b x s k _, .elt i' b' x' s' k' _ => eqId src i i' ∧ b = b' ∧ x = x' ∧ s = s' ∧ k = k'
  | .nils, .nils => True
  | .nils, .row i' => src i' = none
  | .row i, .row i' => eqId src i i'
  | .sub i o l c, .sub i' o' l' c' => eqId src i i' ∧ o = o' ∧ l = l' ∧ c = c'
  | .fn f a b, .fn f' a' b' => f = f' ∧ eqCaps src a a' ∧ eqCaps src b b'
  | .nilf, .nilf => True
  | _, _ => False

def eqSVs (src : Nat → Option Nat) : List SV → List SV → Prop
  | [], [] => True
  | v :: r, v' :: r' => eqSV src v v' ∧ eqSVs src r r'
  | _, _ => False

def eqParts (src : Nat → Option Nat) : List (Bool × List SV) → List (Bool × List SV) → Prop
  | [], [] => True
  | (b, c) :: r, (b', c') :: r' => b = b' ∧ eqSVs src c c' ∧ eqParts src r r'
  | _, _ => False

def eqTv (src : Nat → Option Nat) : Tv → Tv → Prop
  | .one v, .one v' => eqSV src v v'
  | .agg c, .agg c' => eqSVs src c c'
  | .tup c, .tup c' => eqParts src c c'
  | .undef, .undef => True
  | _, _ => False

def eqGb (src : Nat → Option Nat) : Gb → Gb → Prop
  | .blk c, .blk c' | .rob c, .rob c' => eqSVs src c c'
  | .ro t xs, .ro t' xs' | .own t xs, .own t' xs' => t = t' ∧ HEq xs xs'
  | .opt t x, .opt t' x' => t = t' ∧ HEq x x'
  | .pin b c, .pin b' c' => b = b' ∧ c = c'
  | .obj c t x, .obj c' t' x' => eqSVs src c c' ∧ t = t' ∧ HEq x x'
  | _, _ => False

def nilGb : Gb → Prop
  | .ro _ xs | .own _ xs => xs = []
  | .opt _ x => x = none
  | _ => False

def slotsP (src : Nat → Option Nat) (slots : List (Nat × Tv)) : List (Nat × Tv) → Prop
  | [] => True
  | (s, v') :: r => (match look slots s with | some v => eqTv src v v' | none => False) ∧ slotsP src slots r

def ghP (src : Nat → Option Nat) (gh : Gh) : Gh → Prop
  | [] => True
  | (id', g') :: r => (match src id' with
    | none => nilGb g'
    | some j => match look gh j with | some g => eqGb src g g' | none => False) ∧ ghP src gh r

def bdB (st : St) : Bool := (st.slots.all fun p => ltAll st.next p.2.ids) && st.gh.all fun p => Nat.blt p.1 st.next && ltAll st.next p.2.ids

def oEq : Option Nat → Option Nat → Bool
  | some a, some b => Nat.beq a b
  | none, none => true
  | _, _ => false

def srcInj (src : Nat → Option Nat) (gh : Gh) : Bool := gh.all fun p => gh.all fun q => Nat.beq p.1 q.1 || !(oEq (src p.1) (src q.1)) || oEq (src p.1) none

def MatchP (n0 : Nat) (τ : List (Nat × Option Nat)) (st st' : St) : Prop :=
  (bdB st' && Nat.ble n0 st'.next && srcInj (srcOf n0 τ) st'.gh) = true ∧ slotsP (srcOf n0 τ) st.slots st'.slots ∧ ghP (srcOf n0 τ) st.gh st'.gh



theorem bdB_sound {st : St} (h : bdB st = true) : Bd st := by
  unfold bdB at h
  rw [Bool.and_eq_true] at h
  refine ⟨fun s v hv => ltAll_iff.1 (List.all_eq_true.1 h.1 _ (look_mem hv)), fun id g hg => ?_⟩
  have := List.all_eq_true.1 h.2 _ (look_mem hg)
  rw [Bool.and_eq_true] at this
  exact ⟨blt_iff.1 this.1, ltAll_iff.1 this.2⟩

section
variable {R R0 : Nat → Prop} {ρ ρ' ρ0 : Env} {gh0 : Gh} {w w0 : World} {nt n0 : Nat} {a : Act} {src : Nat → Option Nat} {m : Nat}

def SrcOK (src : Nat → Option Nat) (m : Nat) (ρ ρ' : Env) : Prop :=
  ∀ i', i' < m → (∀ j, src i' = some j → ρ' i' = ρ j) ∧ (src i' = none → ρ' i' = ⟨none, 0, 0⟩)

theorem at_eq (h : SrcOK src m ρ ρ') {i i' : Nat} (hi : i' < m) (e : eqId src i i') (o : Nat) : ρ'.at i' o = ρ.at i o := by
  unfold Env.at
  rw [(h i' hi).1 i e]

theorem eqCaps_den (h : SrcOK src m ρ ρ') : ∀ {l l' : List (Nat × Nat)}, eqCaps src l l' → (∀ i ∈ l'.map (·.1), i < m) →
    l'.map (fun p => Value.pointer (ρ'.at p.1 p.2)) = l.map (fun p => Value.pointer (ρ.at p.1 p.2))
  | [], [], _, _ => rfl
  | (i, o) :: r, (i', o') :: r', e, hi => by
    obtain ⟨e1, e2, e3⟩ := e
    subst e2
    simp only [List.map_cons]
    rw [at_eq h (hi i' (by simp)) e1 o, eqCaps_den h e3 fun i hi' => hi i (by simp only [List.map_cons, List.mem_cons]; exact .inr hi')]
  | [], _ :: _, e, _ => e.elim
  | _ :: _, [], e, _ => e.elim

theorem eqSV_den (h : SrcOK src m ρ ρ') {v v' : SV} (e : eqSV src v v') (hi : ∀ i ∈ v'.ids, i < m) : v'.den ρ' = v.den ρ := by
  unfold eqSV at e
  split at e
  · obtain ⟨rfl, rfl⟩ := e; rfl
  · obtain ⟨rfl, rfl⟩ := e; rfl
  · obtain ⟨rfl, rfl⟩ := e; rfl
  · obtain ⟨rfl, rfl⟩ := e; rfl
  · subst e; rfl
  · subst e; rfl
  · subst e; rfl
  · subst e; rfl
  · subst e; rfl
  · rfl
  · simp only [SV.den, Env.at]; rw [(h _ (hi _ (by simp [SV.ids]))).2 e]; rfl
  · obtain ⟨e1, rfl⟩ := e; simp only [SV.den]; rw [at_eq h (hi _ (by simp [SV.ids])) e1]
  · obtain ⟨e1, rfl, rfl, rfl, rfl⟩ := e; simp only [SV.den]; rw [at_eq h (hi _ (by simp [SV.ids])) e1]
  · rfl
  · simp only [SV.den]; rw [(h _ (hi _ (by simp [SV.ids]))).2 e]
  · simp only [SV.den]; rw [(h _ (hi _ (by simp [SV.ids]))).1 _ e]
  · obtain ⟨e1, rfl, rfl, rfl⟩ := e; simp only [SV.den]; rw [at_eq h (hi _ (by simp [SV.ids])) e1]
  · obtain ⟨rfl, e1, e2⟩ := e
    simp only [SV.den]
    rw [eqCaps_den h e1 fun i hi' => hi i (by simp only [SV.ids, List.mem_append]; exact .inl hi'), eqCaps_den h e2 fun i hi' => hi i (by simp only [SV.ids, List.mem_append]; exact .inr hi')]
  · rfl
  · exact e.elim

theorem eqSVs_den (h : SrcOK src m ρ ρ') : ∀ {c c' : List SV}, eqSVs src c c' → (∀ i ∈ idsOf c', i < m) → dens ρ' c' = dens ρ c
  | [], [], _, _ => rfl
  | v :: r, v' :: r', e, hi => by
    simp only [dens, List.map_cons]
    rw [eqSV_den h e.1 fun i hi' => hi i (by simp only [idsOf, List.flatMap_cons, List.mem_append]; exact .inl hi')]
    congr 1
    exact eqSVs_den h e.2 fun i hi' => hi i (by simp only [idsOf, List.flatMap_cons, List.mem_append]; exact .inr hi')
  | [], _ :: _, e, _ => e.elim
  | _ :: _, [], e, _ => e.elim

theorem eqParts_den (h : SrcOK src m ρ ρ') : ∀ {c c' : List (Bool × List SV)}, eqParts src c c' → (∀ i ∈ c'.flatMap fun p => idsOf p.2, i < m) → c'.map (denPart ρ') = c.map (denPart ρ)
  | [], [], _, _ => rfl
  | (b, c) :: r, (b', c') :: r', e, hi => by
    obtain ⟨rfl, e1, e2⟩ := e
    simp only [List.map_cons]
    have e3 := eqSVs_den h e1 fun i hi' => hi i (by simp only [List.flatMap_cons, List.mem_append]; exact .inl hi')
    rw [eqParts_den h e2 fun i hi' => hi i (by simp only [List.flatMap_cons, List.mem_append]; exact .inr hi')]
    congr 1
    cases b <;> simp only [denPart] <;> rw [e3]
  | [], _ :: _, e, _ => e.elim
  | _ :: _, [], e, _ => e.elim

theorem eqTv_den (h : SrcOK src m ρ ρ') {v v' : Tv} (e : eqTv src v v') (hi : ∀ i ∈ v'.ids, i < m) : v'.den ρ' = v.den ρ := by
  unfold eqTv at e
  split at e
  · exact eqSV_den h e hi
  · simp only [Tv.den]; rw [eqSVs_den h e hi]
  · simp only [Tv.den]; rw [eqParts_den h e hi]
  · rfl
  · exact e.elim

theorem eqGb_fact (h : SrcOK src m ρ ρ') {j id' : Nat} {g g' : Gb} (hid : id' < m) (hs : src id' = some j) (e : eqGb src g g') (hi : ∀ i ∈ g'.ids, i < m) (hg : Gfact R w ρ j g) : Gfact R w ρ' id' g' := by
  have he := (h id' hid).1 j hs
  unfold eqGb at e
  split at e
  · obtain ⟨b, T, h1, h2⟩ := hg
    exact ⟨b, T, by rw [he]; exact h1, by rw [eqSVs_den h e hi]; exact h2⟩
  · obtain ⟨b, o, h1, h2, h3⟩ := hg
    exact ⟨b, o, by rw [he]; exact h1, h2, by rw [eqSVs_den h e hi]; exact h3⟩
  · obtain ⟨rfl, e⟩ := e
    have e := eq_of_heq e
    subst e
    simp only [Gfact] at hg ⊢
    rw [he]; exact hg
  · obtain ⟨rfl, e⟩ := e
    have e := eq_of_heq e
    subst e
    simp only [Gfact, OwnRow] at hg ⊢
    rw [he]; exact hg
  · obtain ⟨rfl, e⟩ := e
    have e := eq_of_heq e
    subst e
    simp only [Gfact] at hg ⊢
    rw [he]; exact hg
  · obtain ⟨rfl, rfl⟩ := e
    exact hg
  · obtain ⟨e1, rfl, e⟩ := e
    have e := eq_of_heq e
    subst e
    obtain ⟨b, T, vs, h1, h2, h3⟩ := hg
    exact ⟨b, T, vs, by rw [he]; exact h1, by rw [eqSVs_den h e1 hi]; exact h2, h3⟩
  · exact e.elim

theorem eqGb_own (h : SrcOK src m ρ ρ') {j id' : Nat} {g g' : Gb} (hid : id' < m) (hs : src id' = some j) (e : eqGb src g g') : g'.ownB ρ' id' = g.ownB ρ j := by
  have he := (h id' hid).1 j hs
  unfold eqGb at e
  split at e
  · simp only [Gb.ownB]; rw [he]
  · rfl
  · rfl
  · simp only [Gb.ownB]; rw [he]
  · rfl
  · rfl
  · simp only [Gb.ownB]; rw [he]
  · exact e.elim

theorem slotsP_sound {slots slots' : List (Nat × Tv)} : slotsP src slots slots' → ∀ s v', look slots' s = some v' → ∃ v, look slots s = some v ∧ eqTv src v v' := by
  induction slots' with
  | nil => intro _ s v' h; simp [look] at h
  | cons p r ih =>
    obtain ⟨k, x⟩ := p
    intro h s v' hl
    rw [look_cons] at hl
    by_cases e : k = s
    · rw [if_pos e] at hl
      injection hl with hl; subst hl; subst e
      have := h.1
      cases hk : look slots k with
      | none => rw [hk] at this; exact this.elim
      | some v => rw [hk] at this; exact ⟨v, rfl, this⟩
    · rw [if_neg e] at hl; exact ih h.2 s v' hl

theorem ghP_sound {gh gh' : Gh} : ghP src gh gh' → ∀ id g', look gh' id = some g' → (src id = none ∧ nilGb g') ∨ ∃ j g, src id = some j ∧ look gh j = some g ∧ eqGb src g g' := by
  induction gh' with
  | nil => intro _ s v' h; simp [look] at h
  | cons p r ih =>
    obtain ⟨k, x⟩ := p
    intro h s v' hl
    rw [look_cons] at hl
    by_cases e : k = s
    · rw [if_pos e] at hl
      injection hl with hl; subst hl; subst e
      have := h.1
      cases hk : src k with
      | none => rw [hk] at this; exact .inl ⟨rfl, this⟩
      | some j =>
        rw [hk] at this
        simp only at this
        cases hj : look gh j with
        | none => rw [hj] at this; exact this.elim
        | some g => rw [hj] at this; exact .inr ⟨j, g, rfl, hj, this⟩
    · rw [if_neg e] at hl; exact ih h.2 s v' hl

theorem match_sound {τ : List (Nat × Option Nat)} {st st' : St} (hm : MatchP n0 τ st st') (hrep : Rep R ρ nt st a w) (hx : Ext R0 ρ0 gh0 w0 n0 R ρ st.gh w st.next) :
    ∃ ρ', Rep R ρ' nt st' a w ∧ Ext R0 ρ0 gh0 w0 n0 R ρ' st'.gh w st'.next := by
  obtain ⟨hc, hs, hg⟩ := hm
  simp only [Bool.and_eq_true] at hc
  obtain ⟨⟨c1, c2⟩, c3⟩ := hc
  have hbd := bdB_sound c1
  have hle : n0 ≤ st'.next := Nat.le_of_ble_eq_true c2
  let ρ' : Env := fun id => if id < n0 then ρ id else if st'.next ≤ id then ρ0 id else match look τ id with | some (some j) => ρ j | some none => ⟨none, 0, 0⟩ | none => ρ id
  have hsrc : SrcOK (srcOf n0 τ) st'.next ρ ρ' := by
    intro i' hi'
    have h2 : ¬ st'.next ≤ i' := by omega
    unfold srcOf
    cases hb : Nat.blt i' n0 with
    | true =>
      have : i' < n0 := blt_iff.1 hb
      simp only [cond_true]
      refine ⟨fun j e => ?_, fun e => by cases e⟩
      injection e with e; subst e
      show (if i' < n0 then ρ i' else _) = ρ i'
      rw [if_pos this]
    | false =>
      have : ¬ i' < n0 := fun h => by rw [blt_iff.2 h] at hb; cases hb
      simp only [cond_false]
      have e0 : ρ' i' = match look τ i' with | some (some j) => ρ j | some none => ⟨none, 0, 0⟩ | none => ρ i' := by
        show (if i' < n0 then ρ i' else if st'.next ≤ i' then ρ0 i' else _) = _
        rw [if_neg this, if_neg h2]
      rw [e0]
      cases hl : look τ i' with
      | none => exact ⟨fun j e => by injection e with e; subst e; rfl, fun e => by cases e⟩
      | some s =>
        cases s with
        | none => exact ⟨fun j e => (by cases e), fun _ => rfl⟩
        | some j => exact ⟨fun j' e => by injection e with e; subst e; rfl, fun e => by cases e⟩
  have hown : ∀ id g' b, look st'.gh id = some g' → g'.ownB ρ' id = some b → ∃ j g, srcOf n0 τ id = some j ∧ look st.gh j = some g ∧ g.ownB ρ j = some b := by
    intro id g' b h1 h2
    have hid := (hbd.gh id g' h1).1
    rcases ghP_sound hg id g' h1 with ⟨e1, e2⟩ | ⟨j, g, e1, e2, e3⟩
    · have := (hsrc id hid).2 e1
      cases g' <;> simp [Gb.ownB, this] at h2
    · exact ⟨j, g, e1, e2, by rw [← eqGb_own hsrc hid e1 e3]; exact h2⟩
  refine ⟨ρ', ⟨hrep.size, hrep.defers, fun s v' hv' => ?_, ⟨fun id g' hg' => ?_, hrep.mem.rlt, fun id g' b h1 h2 => ?_, fun id1 id2 g1 g2 b h1 h2 h3 h4 => ?_⟩⟩, ⟨hx.size, hx.os, hx.tape, hx.output, hx.keep, fun id hid => ?_, hx.sub, hx.newR, fun b hb => ?_⟩⟩
  · obtain ⟨v, h1, h2⟩ := slotsP_sound hs s v' hv'
    rw [eqTv_den hsrc h2 (hbd.slots s v' hv')]
    exact hrep.slots s v h1
  · have hb := hbd.gh id g' hg'
    rcases ghP_sound hg id g' hg' with ⟨e1, e2⟩ | ⟨j, g, e1, e2, e3⟩
    · have e := (hsrc id hb.1).2 e1
      cases g' with
      | blk c => exact e2.elim
      | rob c => exact e2.elim
      | opt t x =>
        have e2 : x = none := e2
        subst e2
        show (ρ' id).addr = none
        rw [e]
      | pin b c => exact e2.elim
      | obj c t x => exact e2.elim
      | ro t xs =>
        have e2 : xs = [] := e2
        subst e2
        refine ⟨by rw [e]; rfl, by rw [e]; exact Nat.le_refl _, fun i x hix => by simp at hix⟩
      | own t xs =>
        have e2 : xs = [] := e2
        subst e2
        exact ⟨by rw [e]; rfl, by rw [e]; exact Nat.le_refl _, .inl ⟨by rw [e], rfl, by rw [e]⟩⟩
    · exact eqGb_fact hsrc hb.1 e1 e3 hb.2 (hrep.mem.facts j g e2)
  · obtain ⟨j, g, _, e2, e3⟩ := hown id g' b h1 h2
    exact hrep.mem.olt j g b e2 e3
  · obtain ⟨j1, y1, a1, a2, a3⟩ := hown id1 g1 b h1 h3
    obtain ⟨j2, y2, b1, b2, b3⟩ := hown id2 g2 b h2 h4
    have ej := hrep.mem.sep j1 j2 y1 y2 b a2 b2 a3 b3
    subst ej
    have h5 := List.all_eq_true.1 (List.all_eq_true.1 c3 _ (look_mem h1)) _ (look_mem h2)
    simp only [a1, b1, oEq, Nat.beq_refl, Bool.not_true, Bool.or_false] at h5
    exact beq_iff.1 (by simpa using h5)
  · by_cases h1 : id < n0
    · show (if id < n0 then ρ id else _) = ρ0 id
      rw [if_pos h1]; exact hx.env id (.inl h1)
    · rcases hid with h | h
      · exact absurd h h1
      · show (if id < n0 then ρ id else if st'.next ≤ id then ρ0 id else _) = ρ0 id
        rw [if_neg h1, if_pos h]
  · obtain ⟨id, g', h1, h2⟩ := hb
    obtain ⟨j, g, _, e2, e3⟩ := hown id g' b h1 h2
    exact hx.newO b ⟨j, g, e2, e3⟩
end

/-! ### a loop by its invariant -/
def Step {α : Type} (n0 : Nat) (inv : α → St) (ok : α → Prop) (mu : α → Nat) (fin : α → Tree Out) (a : α) (o : Out) : Prop :=
  match o.kind with
  | 0 => ∃ a' τ, ok a' ∧ mu a' < mu a ∧ MatchP n0 τ o.st (inv a') ∧ ∀ q, (fin a).reach q → (fin a').reach q
  | k + 1 => ∀ q, (fin a).reach q → q.kind = k + 1 ∧ ∃ τ, MatchP n0 τ o.st q.st

/-- how a loop is entered: the invariant's data, out of the state; what it leaves -/
def loopSp {α : Type} (n0 : Nat) (det : St → Option α) (τ : List (Nat × Option Nat)) (inv : α → St) (ok : α → Prop) (fin : α → Tree Out) : St → Tree Out := fun st =>
  match det st with
  | none => .fail "a loop no such state"
  | some a => .req (Nat.beq st.next n0 = true ∧ ok a ∧ MatchP n0 τ st (inv a)) (fin a)

theorem loop_ok {E : Ex} (hE : E.Sound) {nt n : Nat} {loops : Nat → Option (St → Tree Out)} {c : Code} {i : Nat} (hl : LoopsOK E.P nt loops c (i + 1)) {α : Type} {n0 : Nat} {det : St → Option α} {τ : List (Nat × Option Nat)} {inv : α → St}
    {ok : α → Prop} (mu : α → Nat) {fin : α → Tree Out} (hbd : ∀ a, ok a → bdB (inv a) = true ∧ Nat.ble n0 (inv a).next = true)
    (hbody : ∀ a, ok a → (execCode E nt loops n c (i + 1) (inv a)).all fun o => Step n0 inv ok mu fin a o)
    (hfin : ∀ a, ok a → ∀ q, (fin a).reach q → bdB q.st = true ∧ Nat.ble n0 q.st.next = true) {st : St} {out : Out} (h : (loopSp n0 det τ inv ok fin st).reach out) : CodeOK E.P nt (.loop c) st out := by
  unfold loopSp at h
  cases hd : det st with
  | none => rw [hd] at h; exact h.elim
  | some x =>
    rw [hd] at h
    obtain ⟨⟨hn, hok, hm⟩, hq⟩ := h
    have hn : st.next = n0 := beq_iff.1 hn
    subst hn
    have main : ∀ m x, mu x = m → ok x → (fin x).reach out → ∀ R0 ρ0 gh0 w0 R ρ a w, Rep R ρ nt (inv x) a w → Ext R0 ρ0 gh0 w0 st.next R ρ (inv x).gh w (inv x).next →
        ∀ (b : Frame) (k : List Item) (cs : List Frame), ∃ e a' w', (e = kindOf out.kind ∧ ∃ R' ρ', Rep R' ρ' nt out.st a' w' ∧ Ext R0 ρ0 gh0 w0 st.next R' ρ' out.st.gh w' out.st.next) ∧ Arrives E.P (lone (b.at a (.code c :: .inLoop c :: k)) cs w) b k cs e a' w' := by
      intro m
      induction m using Nat.strongRecOn with
      | _ m ih =>
        intro x hmu hok hfinq R0 ρ0 gh0 w0 R ρ a w hrep hx b k cs
        obtain ⟨o, ho, hstep⟩ := Tree.reach_of_all (hbody x hok)
        obtain ⟨hb1, hb2⟩ := hbd x hok
        obtain ⟨b1, l1, k1⟩ := execCode_sound hE c (i + 1) (inv x) o hl ho (bdB_sound hb1)
        obtain ⟨e, a', w', ⟨he, R', ρ', hr', hx'⟩, harr⟩ := k1 R ρ a w hrep b (.inLoop c :: k) cs
        have hx2 := hx.trans hx' (Nat.le_of_ble_eq_true hb2) l1
        unfold Step at hstep
        cases hk : o.kind with
        | zero =>
          rw [hk] at hstep he
          obtain ⟨x', τ', ok', mu', m', f'⟩ := hstep
          obtain ⟨ρ2, hr2, hx3⟩ := match_sound m' hr' hx2
          subst he
          obtain ⟨e2, a2, w2, hq2, harr2⟩ := ih (mu x') (by omega) x' rfl ok' (f' out hfinq) R0 ρ0 gh0 w0 R' ρ2 a' w' hr2 hx3 b k cs
          exact ⟨e2, a2, w2, hq2, .of_steps (Steps.trans harr (.one step_inLoop)) harr2⟩
        | succ j =>
          rw [hk] at hstep he
          obtain ⟨hkk, τ', m'⟩ := hstep out hfinq
          obtain ⟨ρ2, hr2, hx3⟩ := match_sound m' hr' hx2
          refine ⟨e, a', w', ⟨by rw [he, hkk], R', ρ2, hr2, hx3⟩, .pass (x := .inLoop c) rfl (fun _ _ => .inl ?_) harr⟩
          rw [he]
          cases j <;> simp [kindOf]
    intro hb
    obtain ⟨f1, f2⟩ := hfin x hok out hq
    refine ⟨bdB_sound f1, Nat.le_of_ble_eq_true f2, fun R ρ a w hrep b k cs => ?_⟩
    obtain ⟨ρ2, hr2, hx2⟩ := match_sound hm hrep (Ext.refl (R := R) (ρ := ρ) (gh := st.gh) (w := w))
    obtain ⟨e, a', w', hq', harr⟩ := main (mu x) x rfl hok hq R ρ st.gh w R ρ2 a w hr2 hx2 b k cs
    exact ⟨e, a', w', hq', .of_steps (.one step_loop) harr⟩

end Sx
