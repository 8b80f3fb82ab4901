/- A symbolic executor for the model's code: a region that draws its order, in whatever order. -/
import Derived.Test.YtofimljfdlnkgaaSx17
import Derived.StillTail
namespace Sx
open Go Go.RowKit

section
variable {E : Ex} {nt : Nat} {ops : List Oper} {sh : Gh}

theorem Chain.len : ∀ {l : List Oper} {st st1 : St} {es : List Ent}, Chain E nt ops sh l st es st1 → es.length = l.length
  | _, _, _, _, .nil => rfl
  | _, _, _, _, .cons _ _ _ h => by simp [h.len]

theorem SD_ge {D : Nat → Bool} : ∀ (es : List Ent) (k : Nat) (s : St), (∀ j, k ≤ j → D j = false) → SD D k es s = s
  | [], _, _, _ => rfl
  | e :: r, k, s, h => by simp only [SD, h k (Nat.le_refl _), cond_false]; exact SD_ge r (k + 1) s fun j hj => h j (by omega)

theorem Chain.get : ∀ {l : List Oper} {st st1 : St} {es : List Ent} (k0 : Nat), Chain E nt ops sh l st es st1 → ∀ k e, es[k]? = some e →
    l[k]? = some e.o ∧ EntOK E nt ops sh e ∧ e.st = SD (fun j => decide (j < k0 + k)) k0 es st
  | _, _, _, _, k0, .nil, k, e, h => by simp at h
  | _, _, _, _, k0, .cons (e := x) (es := es) h1 h2 h3 h4, k, e, h => by
    cases k with
    | zero =>
      simp at h; subst h
      refine ⟨by simp [h1], h3, ?_⟩
      rw [h2]
      simp only [SD]
      rw [show decide (k0 < k0 + 0) = false by simp, cond_false, SD_ge]
      intro j hj; simp; omega
    | succ k =>
      rw [List.getElem?_cons_succ] at h
      obtain ⟨a1, a2, a3⟩ := h4.get (k0 + 1) k e h
      refine ⟨by simpa using a1, a2, ?_⟩
      rw [a3]
      simp only [SD]
      rw [show decide (k0 < k0 + (k + 1)) = true by simp, cond_true]
      congr 1
      funext j
      congr 1
      exact propext ⟨fun h => by omega, fun h => by omega⟩

theorem Chain.last : ∀ {l : List Oper} {st st1 : St} {es : List Ent} (k0 : Nat), Chain E nt ops sh l st es st1 → st1 = SD (fun _ => true) k0 es st
  | _, _, _, _, k0, .nil => rfl
  | _, _, _, _, k0, .cons h1 h2 h3 h4 => by simp only [SD, cond_true]; exact h4.last (k0 + 1)

theorem Chain.le : ∀ {l : List Oper} {st st1 : St} {es : List Ent}, Chain E nt ops sh l st es st1 → st.next ≤ st1.next
  | _, _, _, _, .nil => Nat.le_refl _
  | _, _, _, _, .cons h1 h2 h3 h4 => by
    have := h4.le
    have h5 := h3.le
    rw [h2] at h5
    simp only [applyE] at this
    omega

theorem Chain.rng : ∀ {l : List Oper} {st st1 : St} {es : List Ent}, Chain E nt ops sh l st es st1 → ∀ (k : Nat) (e : Ent), es[k]? = some e → st.next ≤ e.st.next ∧ e.d.next ≤ st1.next ∧
    (∀ i, i < e.st.next → i < st.next ∨ ∃ (x : Nat) (y : Ent), x < k ∧ es[x]? = some y ∧ y.st.next ≤ i ∧ i < y.d.next) ∧ (∀ (x : Nat) (y : Ent), x < k → es[x]? = some y → y.d.next ≤ e.st.next)
  | _, _, _, _, .nil, k, e, h => by simp at h
  | _, st, _, _, .cons (e := z) (es := es) h1 h2 h3 h4, k, e, h => by
    have hz := h3.le
    rw [h2] at hz
    cases k with
    | zero =>
      simp at h; subst h
      have := h4.le
      simp only [applyE] at this
      exact ⟨by rw [h2]; exact Nat.le_refl _, this, fun i hi => .inl (by rw [h2] at hi; exact hi), fun x y hx => by omega⟩
    | succ k =>
      rw [List.getElem?_cons_succ] at h
      obtain ⟨a1, a2, a3, a4⟩ := h4.rng k e h
      simp only [applyE] at a1 a3
      refine ⟨by omega, a2, fun i hi => ?_, fun x y hx hy => ?_⟩
      · rcases a3 i hi with h5 | ⟨x, y, h5, h6, h7⟩
        · by_cases hlt : i < st.next
          · exact .inl hlt
          · exact .inr ⟨0, z, by omega, rfl, by rw [h2]; omega, h5⟩
        · exact .inr ⟨x + 1, y, by omega, by simpa using h6, h7⟩
      · cases x with
        | zero => simp at hy; subst hy; exact a1
        | succ x => exact a4 x y (by omega) (by simpa using hy)

theorem Chain.bd : ∀ {l : List Oper} {st st1 : St} {es : List Ent}, Chain E nt ops sh l st es st1 → Bd st → Bd st1 ∧ ∀ (k : Nat) (e : Ent), es[k]? = some e → Bd e.st
  | _, _, _, _, .nil, hb => ⟨hb, by simp⟩
  | _, st, _, _, .cons (e := z) h1 h2 h3 h4, hb => by
    have hz := h3.le
    rw [h2] at hz
    have hb' : Bd (applyE z st) := by
      refine ⟨fun s v hs i hi => ?_, fun id g hg => ?_⟩
      · simp only [applyE, look_putRaw] at hs ⊢
        by_cases e : z.o.dst = some s
        · rw [if_pos e] at hs; injection hs with hs; subst hs; exact h3.vlt i hi
        · rw [if_neg e] at hs; exact Nat.lt_of_lt_of_le (hb.slots s v hs i hi) hz
      · simp only [applyE, look_applyUpd] at hg ⊢
        cases hu : look z.d.upd id with
        | none => rw [hu] at hg; exact ⟨Nat.lt_of_lt_of_le (hb.gh id g hg).1 hz, fun i hi => Nat.lt_of_lt_of_le ((hb.gh id g hg).2 i hi) hz⟩
        | some og =>
          rw [hu] at hg
          change og = some g at hg
          subst hg
          obtain ⟨u1, u2⟩ := h3.upd id _ hu
          refine ⟨?_, u2 g rfl⟩
          rcases u1 with ⟨g0, h0⟩ | h0
          · have := h3.dom id g0 h0
            rw [h2] at this
            exact Nat.lt_of_lt_of_le (hb.gh id g0 this).1 hz
          · exact h0.2
    obtain ⟨a1, a2⟩ := h4.bd hb'
    refine ⟨a1, fun k e h => ?_⟩
    cases k with
    | zero => simp at h; subst h; rw [h2]; exact hb
    | succ k => exact a2 k e (by simpa using h)
end

def unl (listed : Array Bool) : Nat := (List.range listed.size).countP fun i => !listed.getD i true

theorem countP_lt {p q : Nat → Bool} : ∀ {l : List Nat} {x : Nat}, x ∈ l → p x = true → q x = false → (∀ y, q y = true → p y = true) → l.countP q + 1 ≤ l.countP p
  | y :: l, x, hx, hp, hq, h => by
    have hle : l.countP q ≤ l.countP p := List.countP_mono_left fun y _ => h y
    rcases List.mem_cons.1 hx with rfl | hx
    · rw [List.countP_cons_of_neg (by simp [hq]), List.countP_cons_of_pos hp]; omega
    · have ih := countP_lt hx hp hq h
      by_cases hqy : q y = true
      · rw [List.countP_cons_of_pos hqy, List.countP_cons_of_pos (h y hqy)]; omega
      · rw [List.countP_cons_of_neg hqy]
        by_cases hpy : p y = true
        · rw [List.countP_cons_of_pos hpy]; omega
        · rw [List.countP_cons_of_neg hpy]; exact ih
  | [], x, hx, _, _, _ => by simp at hx

theorem unl_set {listed : Array Bool} {i : Nat} (hi : listed.getD i true = false) : unl (listed.setIfInBounds i true) + 1 ≤ unl listed := by
  have hlt : i < listed.size := by
    rcases Nat.lt_or_ge i listed.size with h | h
    · exact h
    · simp [Array.getElem?_eq_none h] at hi
  unfold unl
  rw [Array.size_setIfInBounds]
  refine countP_lt (x := i) (List.mem_range.2 hlt) (by simpa using hi) (by simp [hlt]) fun y hy => ?_
  by_cases e : i = y
  · subst e; simp [hlt] at hy
  · rw [getD_set_ne true e] at hy; exact hy

def DL (listed : Array Bool) (i : Nat) : Bool := listed.getD i false

/-- numbers that are in use -/
def Al (st0 : St) (es : List Ent) (D : Nat → Bool) (i : Nat) : Prop := i < st0.next ∨ ∃ k e, es[k]? = some e ∧ D k = true ∧ e.st.next ≤ i ∧ i < e.d.next

theorem mem_keysOf {α : Type} : ∀ {l : List (Nat × α)} {k : Nat} {v : α}, look l k = some v → k ∈ keysOf l
  | (a, b) :: r, k, v, h => by
    rw [look_cons] at h
    by_cases e : a = k
    · subst e; simp [keysOf]
    · rw [if_neg e] at h; have := mem_keysOf h; simp only [keysOf, List.map_cons, List.mem_cons] at this ⊢; exact .inr this
  | [], k, v, h => by simp [look] at h

theorem mem_mentU : ∀ {l : List (Nat × Option Gb)} {k : Nat} {og : Option Gb}, look l k = some og → k ∈ mentU l ∧ ∀ g, og = some g → ∀ i ∈ g.ids, i ∈ mentU l
  | (a, og') :: r, k, og, h => by
    rw [look_cons] at h
    by_cases e : a = k
    · subst e
      rw [if_pos rfl] at h; injection h with h; subst h
      cases og' with
      | none => exact ⟨by simp [mentU], by simp⟩
      | some g => exact ⟨by simp [mentU], by rintro g' ⟨⟩ i hi; simp [mentU, hi]⟩
    · rw [if_neg e] at h
      obtain ⟨h1, h2⟩ := mem_mentU h
      cases og' with
      | none => exact ⟨by simp [mentU, h1], fun g hg i hi => by simp [mentU, h2 g hg i hi]⟩
      | some g0 => exact ⟨by simp [mentU, h1], fun g hg i hi => by simp [mentU, h2 g hg i hi]⟩
  | [], k, og, h => by simp [look] at h

/-- A REGION THAT DRAWS ITS ORDER. -/
theorem flow_sound {E : Ex} {nt : Nat} (hE : E.Sound) {ops : Array Oper} {st0 st1 : St} {es : List Ent} {sh : Gh} (hsb : ShpB sh st0.next) (hch : Chain E nt ops.toList sh ops.toList st0 es st1) (hfl : flowOK ops.toList es = true) (hb0 : Bd st0)
    {R0 : Nat → Prop} {ρ0 : Env} (hs0 : Shp ρ0 sh) {w0 : World} (Q : Exit → Act → World → Prop)
    (hQ : ∀ R' ρ' a' w', Rep R' ρ' nt st1 a' w' → Ext R0 ρ0 st0.gh w0 st0.next R' ρ' st1.gh w' st1.next → Q .normal a' w') :
    ∀ (fuel : Nat) (listed : Array Bool) (R : Nat → Prop) (ρ : Env) (a : Act) (w : World), listed.size = ops.size → unl listed ≤ fuel →
      (∀ i o e, ops[i]? = some o → DL listed i = true → e ∈ o.after → Region.binds .any e = true → DL listed e.on = true) →
      Rep R ρ nt (SD (DL listed) 0 es st0) a w →
      (∀ s v, look (SD (DL listed) 0 es st0).slots s = some v → ∀ i ∈ v.ids, Al st0 es (DL listed) i) →
      (∀ id g, look (SD (DL listed) 0 es st0).gh id = some g → Al st0 es (DL listed) id ∧ ∀ i ∈ g.ids, Al st0 es (DL listed) i) →
      Ext R0 ρ0 st0.gh w0 st0.next R ρ (SD (DL listed) 0 es st0).gh w st1.next → wpAny E.P .any ops Q fuel listed a w := by
  have hedge : ∀ i o e, ops[i]? = some o → e ∈ o.after → Region.binds .any e = true → e.on < i := by
    intro i o e ho he hb
    unfold flowOK at hfl
    rw [Bool.and_eq_true] at hfl
    have := edgesOK_sound hfl.1 i o (by simpa using ho) e (by simpa using he) hb
    omega
  have hgo : flowGo (ancL ops.toList []) [] es = true := by unfold flowOK at hfl; rw [Bool.and_eq_true] at hfl; exact hfl.2
  have hlen := hch.len
  -- two operations, of which the one is not ahead of the other by the edges
  have hpair : ∀ x y ex ey, x < y → es[x]? = some ex → es[y]? = some ey → ¬ Anc ops.toList x y → pairOK ex ey = true := by
    intro x y ex ey hxy hx hy hn
    rcases flowGo_sound hgo x y ex ey hxy (by simpa using hx) (by simpa using hy) (Nat.zero_le _) with h | h
    · exfalso
      refine hn ?_
      cases hm : (ancL ops.toList [])[y]? with
      | none => simp [List.getD, hm] at h
      | some m => simp only [List.getD, hm, Option.getD_some] at h; exact ancL_sound ops.toList [] [] rfl rfl (by simp) y m x hm h
    · exact h
  intro fuel
  -- what is known at the end
  have hend : ∀ (listed : Array Bool) (R : Nat → Prop) (ρ : Env) (a : Act) (w : World), listed.size = ops.size → Region.ready .any ops listed = [] → Rep R ρ nt (SD (DL listed) 0 es st0) a w →
      Ext R0 ρ0 st0.gh w0 st0.next R ρ (SD (DL listed) 0 es st0).gh w st1.next → Q .normal a w := by
    intro listed R ρ a w hsz hr hrep hx
    have hall : ∀ i, i < ops.size → DL listed i = true := by
      intro i
      induction i using Nat.strongRecOn with
      | _ i ih =>
        intro hi
        cases hd : DL listed i with
        | true => rfl
        | false =>
          exfalso
          have : i ∈ Region.ready .any ops listed := mem_ready.2 ⟨getD_in (by omega) hd, ops[i], Array.getElem?_eq_getElem hi, fun e he hb => by
            have := hedge i _ e (Array.getElem?_eq_getElem hi) he hb
            exact ih e.on this (by omega)⟩
          rw [hr] at this; simp at this
    have hsl : ∀ s, look st1.slots s = look (SD (DL listed) 0 es st0).slots s := fun s => by
      rw [hch.last 0, SD_slots, SD_slots]
      exact lastA_same es 0 _ fun j e he hne => by
        have hj := (List.getElem?_eq_some_iff.1 he).1
        rw [hlen] at hj
        have := hall j (by simpa using hj)
        simp [this] at hne
    have hgl : ∀ s, look st1.gh s = look (SD (DL listed) 0 es st0).gh s := fun s => by
      rw [hch.last 0, SD_gh, SD_gh]
      exact lastA_same es 0 _ fun j e he hne => by
        have hj := (List.getElem?_eq_some_iff.1 he).1
        rw [hlen] at hj
        have := hall j (by simpa using hj)
        simp [this] at hne
    exact hQ R ρ a w ⟨hrep.size, hrep.defers, fun s v hs => hrep.slots s v (by rw [← hsl]; exact hs), hrep.mem.congr hgl⟩ (hx.congr hgl)
  -- one of those that are ready
  have hstep : ∀ (listed : Array Bool) (R : Nat → Prop) (ρ : Env) (a : Act) (w : World) (K : Act → World → Prop), listed.size = ops.size →
      (∀ i o e, ops[i]? = some o → DL listed i = true → e ∈ o.after → Region.binds .any e = true → DL listed e.on = true) → Rep R ρ nt (SD (DL listed) 0 es st0) a w →
      (∀ s v, look (SD (DL listed) 0 es st0).slots s = some v → ∀ i ∈ v.ids, Al st0 es (DL listed) i) →
      (∀ id g, look (SD (DL listed) 0 es st0).gh id = some g → Al st0 es (DL listed) id ∧ ∀ i ∈ g.ids, Al st0 es (DL listed) i) →
      Ext R0 ρ0 st0.gh w0 st0.next R ρ (SD (DL listed) 0 es st0).gh w st1.next → ∀ i ∈ Region.ready .any ops listed,
      (∀ R' ρ' a' w', Rep R' ρ' nt (SD (DL (listed.setIfInBounds i true)) 0 es st0) a' w' →
        (∀ i' o e, ops[i']? = some o → DL (listed.setIfInBounds i true) i' = true → e ∈ o.after → Region.binds .any e = true → DL (listed.setIfInBounds i true) e.on = true) →
        (∀ s v, look (SD (DL (listed.setIfInBounds i true)) 0 es st0).slots s = some v → ∀ j ∈ v.ids, Al st0 es (DL (listed.setIfInBounds i true)) j) →
        (∀ id g, look (SD (DL (listed.setIfInBounds i true)) 0 es st0).gh id = some g → Al st0 es (DL (listed.setIfInBounds i true)) id ∧ ∀ j ∈ g.ids, Al st0 es (DL (listed.setIfInBounds i true)) j) →
        Ext R0 ρ0 st0.gh w0 st0.next R' ρ' (SD (DL (listed.setIfInBounds i true)) 0 es st0).gh w' st1.next → K a' w') → wpOp E.P ops Q i K a w := by
    intro listed R ρ a w K hsz hcl hrep has hag hx i hi hK
    obtain ⟨hi0, o, ho, hpre⟩ := mem_ready.1 hi
    have hiD : DL listed i = false := getD_both hi0
    have hil : i < ops.size := (Array.getElem?_eq_some_iff.1 ho).1
    obtain ⟨e, he⟩ : ∃ e, es[i]? = some e := ⟨_, List.getElem?_eq_getElem (by rw [hlen]; simpa using hil)⟩
    obtain ⟨eo, hek, est⟩ := hch.get 0 i e he
    rw [Nat.zero_add] at est
    have heo : e.o = o := by
      have : ops.toList[i]? = some o := by simpa using ho
      rw [this] at eo; injection eo with eo; exact eo.symm
    -- those ahead of it are done; those behind it are not
    have hanc : ∀ {x y : Nat}, Anc ops.toList x y → (DL listed y = true ∨ y = i) → DL listed x = true := by
      intro x y h
      induction h with
      | base h1 h2 h3 =>
        rintro (h | rfl)
        · exact hcl _ _ _ (by simpa using h1) h (by simpa using h2) h3
        · rw [Array.getElem?_toList, ho] at h1; injection h1 with h1; subst h1
          exact hpre _ (by simpa using h2) h3
      | step h1 h2 h3 h4 ih =>
        rintro (h | rfl)
        · exact ih (.inl (hcl _ _ _ (by simpa using h1) h (by simpa using h2) h3))
        · rw [Array.getElem?_toList, ho] at h1; injection h1 with h1; subst h1
          exact ih (.inl (hpre _ (by simpa using h2) h3))
    have hbefore : ∀ x ex, x < i → es[x]? = some ex → DL listed x = false → pairOK ex e = true := fun x ex hx hex hD =>
      hpair x i ex e hx hex he fun h => by have := hanc h (.inr rfl); rw [hD] at this; cases this
    have hafter : ∀ y ey, i < y → es[y]? = some ey → DL listed y = true → pairOK e ey = true := fun y ey hy hey hD =>
      hpair i y e ey hy he hey fun h => by have := hanc h (.inl hD); rw [hiD] at this; cases this
    have hpk : ∀ {x y : Ent}, pairOK x y = true → (∀ t ∈ optL x.o.dst, t ∉ optL y.o.dst) ∧ (∀ t ∈ optL x.o.dst, t ∉ y.uses) ∧ (∀ t ∈ optL y.o.dst, t ∉ x.uses) ∧
        (∀ k ∈ keysOf x.d.upd, k ∉ keysOf y.dom) ∧ (∀ k ∈ keysOf y.d.upd, k ∉ keysOf x.dom) ∧ (∀ k ∈ keysOf x.d.upd, k ∉ keysOf y.d.upd) ∧
        (∀ j ∈ y.d.val.ids ++ mentU y.d.upd, j < x.st.next ∨ x.d.next ≤ j) := by
      intro x y h
      simp only [pairOK, Bool.and_eq_true] at h
      obtain ⟨⟨⟨⟨⟨⟨h1, h2⟩, h3⟩, h4⟩, h5⟩, h6⟩, h7⟩ := h
      refine ⟨disj_iff.1 h1, disj_iff.1 h2, disj_iff.1 h3, disj_iff.1 h4, disj_iff.1 h5, disj_iff.1 h6, fun j hj => ?_⟩
      have := List.all_eq_true.1 h7 j hj
      rw [Bool.or_eq_true] at this
      exact this.imp blt_iff.1 Nat.le_of_ble_eq_true
    -- what it uses is there
    have huse : ∀ t ∈ e.uses, look (SD (DL listed) 0 es st0).slots t = look e.st.slots t := by
      intro t ht
      rw [est, SD_slots, SD_slots]
      refine lastA_same es 0 _ fun j ej hj hne => ?_
      rw [Nat.zero_add] at hne
      simp only [actS]
      by_cases hji : j < i
      · simp only [hji, decide_true] at hne
        have hDj : DL listed j = false := by simpa using hne
        rw [if_neg]
        intro hd
        exact (hpk (hbefore j ej hji hj hDj)).2.1 t (by simp [optL, hd]) ht
      · simp only [hji, decide_false] at hne
        have hDj : DL listed j = true := by simpa using hne
        have hlt : i < j := by
          rcases Nat.lt_or_ge i j with h | h
          · exact h
          · have : j = i := by omega
            subst this; rw [hiD] at hDj; cases hDj
        rw [if_neg]
        intro hd
        exact (hpk (hafter j ej hlt hj hDj)).2.2.1 t (by simp [optL, hd]) ht
    have hdomS : ∀ id g, look e.dom id = some g → look (SD (DL listed) 0 es st0).gh id = some g := by
      intro id g hg
      have h1 := hek.dom id g hg
      rw [← h1, est, SD_gh, SD_gh]
      refine lastA_same es 0 _ fun j ej hj hne => ?_
      rw [Nat.zero_add] at hne
      simp only [actG]
      have hno : ∀ k, ¬ (k ∈ keysOf ej.d.upd) → look ej.d.upd k = none := fun k hk => by
        cases h : look ej.d.upd k with
        | none => rfl
        | some v => exact absurd (mem_keysOf h) hk
      by_cases hji : j < i
      · simp only [hji, decide_true] at hne
        have hDj : DL listed j = false := by simpa using hne
        exact hno id fun hk => (hpk (hbefore j ej hji hj hDj)).2.2.2.1 id hk (mem_keysOf hg)
      · simp only [hji, decide_false] at hne
        have hDj : DL listed j = true := by simpa using hne
        have hlt : i < j := by
          rcases Nat.lt_or_ge i j with h | h
          · exact h
          · have : j = i := by omega
            subst this; rw [hiD] at hDj; cases hDj
        exact hno id fun hk => (hpk (hafter j ej hlt hj hDj)).2.2.2.2.1 id hk (mem_keysOf hg)
    obtain ⟨rg1, rg2, rg3, rg4⟩ := hch.rng i e he
    have hbe := (hch.bd hb0).2 i e he
    have hle := hek.le
    -- what is in use lies outside the numbers of this one
    have hout : ∀ j, Al st0 es (DL listed) j → j < e.st.next ∨ e.d.next ≤ j := by
      rintro j (h | ⟨k, ek', hk, hD, h1, h2⟩)
      · exact .inl (by omega)
      · rcases Nat.lt_trichotomy k i with h | h | h
        · exact .inl (Nat.lt_of_lt_of_le h2 (rg4 k ek' h hk))
        · subst h; rw [hiD] at hD; cases hD
        · have := (hch.rng k ek' hk).2.2.2 i e h he; exact .inr (by omega)
    -- the new frame
    have hD' : ∀ j, DL (listed.setIfInBounds i true) j = if j = i then true else DL listed j := by
      intro j
      unfold DL
      by_cases h : j = i
      · subst h; rw [if_pos rfl]; simp [hsz, hil]
      · rw [if_neg h, getD_set_ne false (fun e => h e.symm)]
    have hAl : ∀ j, Al st0 es (DL listed) j → Al st0 es (DL (listed.setIfInBounds i true)) j := by
      rintro j (h | ⟨k, ek', hk, hD, h1, h2⟩)
      · exact .inl h
      · exact .inr ⟨k, ek', hk, by rw [hD']; by_cases h : k = i <;> simp [h, hD], h1, h2⟩
    have hAli : ∀ j, j < e.d.next → (e.st.next ≤ j ∨ j ∈ e.d.val.ids ++ mentU e.d.upd) → Al st0 es (DL (listed.setIfInBounds i true)) j := by
      intro j hj hor
      by_cases hlo : e.st.next ≤ j
      · exact .inr ⟨i, e, he, by rw [hD', if_pos rfl], hlo, hj⟩
      · have hment := hor.resolve_left hlo
        rcases rg3 j (by omega) with h | ⟨x, y, hx, hy, h1, h2⟩
        · exact .inl h
        · cases hDx : DL listed x with
          | true => exact .inr ⟨x, y, hy, by rw [hD', if_neg (by omega)]; exact hDx, h1, h2⟩
          | false =>
            have := (hpk (hbefore x y hx hy hDx)).2.2.2.2.2.2 j hment
            omega
    have hslots' : ∀ s, look (SD (DL (listed.setIfInBounds i true)) 0 es st0).slots s = if e.o.dst = some s then some e.d.val else look (SD (DL listed) 0 es st0).slots s := by
      intro s
      rw [SD_slots, SD_slots, lastA_add (D := DL listed) es 0 i e _ he (by rw [Nat.zero_add]; exact hiD) (by rw [Nat.zero_add, hD', if_pos rfl]) (fun j hj => by rw [Nat.zero_add, hD', if_neg hj])]
      · simp only [actS]; by_cases h : e.o.dst = some s <;> simp [h]
      · intro hact j ej hij hj hDj
        rw [Nat.zero_add] at hDj
        simp only [actS] at hact ⊢
        by_cases h : e.o.dst = some s
        · rw [if_neg]
          intro hd
          exact (hpk (hafter j ej hij hj hDj)).1 s (by simp [optL, h]) (by simp [optL, hd])
        · rw [if_neg h] at hact; exact absurd rfl hact
    have hgh' : ∀ id, look (SD (DL (listed.setIfInBounds i true)) 0 es st0).gh id = look (applyUpd e.d.upd (SD (DL listed) 0 es st0).gh) id := by
      intro id
      rw [look_applyUpd, SD_gh, SD_gh, lastA_add (D := DL listed) es 0 i e _ he (by rw [Nat.zero_add]; exact hiD) (by rw [Nat.zero_add, hD', if_pos rfl]) (fun j hj => by rw [Nat.zero_add, hD', if_neg hj])]
      · simp only [actG]; cases look e.d.upd id <;> rfl
      · intro hact j ej hij hj hDj
        rw [Nat.zero_add] at hDj
        simp only [actG] at hact ⊢
        cases h : look ej.d.upd id with
        | none => rfl
        | some v =>
          exfalso
          cases h' : look e.d.upd id with
          | none => exact hact h'
          | some v' => exact (hpk (hafter j ej hij hj hDj)).2.2.2.2.2.1 id (mem_keysOf h') (mem_keysOf h)
    have hcl' : ∀ i' o e, ops[i']? = some o → DL (listed.setIfInBounds i true) i' = true → e ∈ o.after → Region.binds .any e = true → DL (listed.setIfInBounds i true) e.on = true := by
      intro i' o' e' ho' hd' he' hb'
      rw [hD'] at hd' ⊢
      by_cases h2 : e'.on = i
      · rw [if_pos h2]
      · rw [if_neg h2]
        by_cases h : i' = i
        · subst h
          rw [ho] at ho'; injection ho' with ho'; subst ho'
          exact hpre e' he' hb'
        · rw [if_neg h] at hd'; exact hcl i' o' e' ho' hd' he' hb'
    have has' : ∀ s v, look (SD (DL (listed.setIfInBounds i true)) 0 es st0).slots s = some v → ∀ j ∈ v.ids, Al st0 es (DL (listed.setIfInBounds i true)) j := by
      intro s v hs j hj
      rw [hslots'] at hs
      by_cases h : e.o.dst = some s
      · rw [if_pos h] at hs; injection hs with hs; subst hs
        exact hAli j (hek.vlt j hj) (.inr (by simp [hj]))
      · rw [if_neg h] at hs; exact hAl j (has s v hs j hj)
    have hag' : ∀ id g, look (SD (DL (listed.setIfInBounds i true)) 0 es st0).gh id = some g → Al st0 es (DL (listed.setIfInBounds i true)) id ∧ ∀ j ∈ g.ids, Al st0 es (DL (listed.setIfInBounds i true)) j := by
      intro id g hg
      rw [hgh', look_applyUpd] at hg
      cases hu : look e.d.upd id with
      | none => rw [hu] at hg; have := hag id g hg; exact ⟨hAl _ this.1, fun j hj => hAl _ (this.2 j hj)⟩
      | some og =>
        rw [hu] at hg
        change og = some g at hg
        subst hg
        obtain ⟨u1, u2⟩ := hek.upd id _ hu
        obtain ⟨m1, m2⟩ := mem_mentU hu
        have hidlt : id < e.d.next := by
          rcases u1 with ⟨g0, h0⟩ | h0
          · exact Nat.lt_of_lt_of_le (hbe.gh id g0 (hek.dom id g0 h0)).1 hle
          · exact h0.2
        exact ⟨hAli id hidlt (.inr (by simp [m1])), fun j hj => hAli j (u2 g rfl j hj) (.inr (by simp [m2 g rfl j hj]))⟩
    -- is it wanted?
    have hwant : Region.wanted o (yielded ops a.tmps) = e.run := by
      have hg := hek.guard
      unfold GuardT at hg
      rw [heo] at hg
      unfold Region.wanted
      cases hgd : o.guard with
      | none => rw [hgd] at hg; rw [hg]
      | some q =>
        obtain ⟨j, want⟩ := q
        rw [hgd] at hg
        obtain ⟨t, v, hj, hv, hor⟩ := hg
        have ht : t ∈ e.uses := by rw [hek.uses, heo]; simp only [usesOf, hgd, hj]; simp
        have hs := hrep.slots t v (by rw [huse t ht]; exact hv)
        have hj' : (ops[j]?).bind (·.dst) = some t := by simpa using hj
        simp only
        rw [yielded_of (ρ := ρ) hj' hs]
        rcases hor with ⟨b, hvb, hr⟩ | ⟨hvu, hr⟩
        · rw [hr]
          rcases hvb with rfl | rfl <;> (simp only [Tv.den, SV.den]; cases b <;> cases want <;> rfl)
        · subst hvu; rw [hr]; rfl
    unfold wpOp
    rw [ho]
    simp only
    rw [hwant]
    cases hrun : e.run with
    | false =>
      obtain ⟨k1, k2, k3⟩ := hek.skipped hrun
      simp only [Bool.false_eq_true, if_false]
      have hgsame : ∀ id, look (SD (DL (listed.setIfInBounds i true)) 0 es st0).gh id = look (SD (DL listed) 0 es st0).gh id := fun id => by rw [hgh', k2]; rfl
      refine hK R ρ _ w ⟨by rw [Act.put_size]; exact hrep.size, by rw [Act.put_def]; exact hrep.defers, fun s v hs => ?_, hrep.mem.congr hgsame⟩ hcl' has' hag' (hx.congr hgsame)
      rw [hslots'] at hs
      rw [Act.put_get, ← heo]
      by_cases h : e.o.dst = some s
      · rw [if_pos h] at hs ⊢
        injection hs with hs; subst hs
        rw [k1, if_pos (by rw [hrep.size]; exact hek.dst s h)]; rfl
      · rw [if_neg h] at hs ⊢; exact hrep.slots s v hs
    | true =>
      simp only [if_true]
      left
      have hstepr := hek.ran hrun
      rw [heo] at hstepr
      have hsub := hdomS
      have hC : Ctx a R ρ e.dom e.st.next e.d.next w (evD e.uses e.dec e.st.slots) :=
        ⟨evD_val (fun s v hs hl => hrep.slots s v (by rw [huse s hs]; exact hl)) hek.dec, fun x v hv j hj => .inl (evD_ids (fun s v hs => hbe.slots s v hs) x v hv j hj), hrep.mem.without hsub,
          fun id g hg => ⟨.inl (hbe.gh id g (hek.dom id g hg)).1, fun j hj => .inl ((hbe.gh id g (hek.dom id g hg)).2 j hj)⟩⟩
      refine stepE_ok hE (hs0.env hsb fun id hid => hx.env id (.inl hid)) hC hstepr K Q fun R' ρ' w' hE' hG' => ?_
      obtain ⟨f1, f2⟩ := frame hsub hrep.mem (fun id g hg => ⟨hout id (hag id g hg).1, fun j hj => hout j ((hag id g hg).2 j hj)⟩) hE' hG'
      refine hK R' ρ' _ w' ⟨by rw [Act.put_size]; exact hrep.size, by rw [Act.put_def]; exact hrep.defers, fun s v hs => ?_, f1.congr hgh'⟩ hcl' has' hag' ((hx.trans' f2 rg1 rg2).congr hgh')
      rw [hslots'] at hs
      rw [Act.put_get, ← heo]
      by_cases h : e.o.dst = some s
      · rw [if_pos h] at hs ⊢
        injection hs with hs; subst hs
        rw [if_pos (by rw [hrep.size]; exact hek.dst s h)]
      · rw [if_neg h] at hs ⊢
        rw [hrep.slots s v hs]
        congr 1
        exact (Tv.den_same (p := fun j => j < e.st.next ∨ e.d.next ≤ j) (fun j hj => hE'.env j hj) (fun j hj => hout j (has s v hs j hj))).symm
  induction fuel with
  | zero =>
    intro listed R ρ a w hsz hu hcl hrep has hag hx
    have hr : Region.ready .any ops listed = [] := by
      cases hr : Region.ready .any ops listed with
      | nil => rfl
      | cons i r =>
        exfalso
        have hi : i ∈ Region.ready .any ops listed := by rw [hr]; simp
        have := unl_set (mem_ready.1 hi).1
        omega
    exact ⟨hr, hend listed R ρ a w hsz hr hrep hx⟩
  | succ fuel ih =>
    intro listed R ρ a w hsz hu hcl hrep has hag hx
    refine ⟨fun hr => hend listed R ρ a w hsz hr hrep hx, fun i hi => ?_⟩
    refine hstep listed R ρ a w _ hsz hcl hrep has hag hx i hi fun R' ρ' a' w' h1 h2 h3 h4 h5 => ?_
    have := unl_set (mem_ready.1 hi).1
    exact ih _ R' ρ' a' w' (by simpa using hsz) (by omega) h2 h1 h3 h4 h5

end Sx
