/- A symbolic executor for the model's code: a block at a known place, that may only be read. -/
import Derived.Test.YtofimljfdlnkgaaSx32
namespace Sx
open Go Go.RowKit

/-- a block at a known place, with known cells -/
def Pin (g : Nat) (cs : List Value) (R : Nat → Prop) (w : World) : Prop := R g ∧ ∃ T m, w.heap[g]? = some (.cells cs.toArray T m)

def PureOKW (P : Program) (g : Nat) (cs : List Value) (f : FuncId) (ts rs : List Ty) (pre : TDs ts → Prop) (F : TDs ts → TDs rs) : Prop :=
  ∀ R w xs args, (∀ b, R b → b < w.heap.size) → Pin g cs R w → ArgsR R w ts xs args → pre xs →
    Calls P f args.toArray w fun e w' => ∃ vs, e = .returned (retV vs) ∧ ArgsR (Rnew R w w') w' rs (F xs) vs ∧ Below w.heap.size w w'

theorem PureOK.pinned {P : Program} {g : Nat} {cs : List Value} {f : FuncId} {ts rs : List Ty} {pre : TDs ts → Prop} {F : TDs ts → TDs rs} (h : PureOK P f ts rs pre F) : PureOKW P g cs f ts rs pre F :=
  fun R w xs args hR _ ha hp => h R w xs args hR ha hp

def pinOf (g : Nat) (gh : Gh) : Gh → Option (List Value)
  | [] => none
  | (k, _) :: r =>
    match look gh k with
    | some (.pin b cs) => bif Nat.beq b g then some cs else pinOf g gh r
    | _ => pinOf g gh r

def pureSpW (g : Nat) (cs : List Value) (ts rs : List Ty) (pre : TDs ts → Prop) (F : TDs ts → TDs rs) : Spec := fun args gh next =>
  match pinOf g gh gh with
  | some c => match pureSp ts rs pre F args gh next with | some t => some (.req (c = cs) t) | none => none
  | none => none

def pureTreeW (g : Nat) (cs : List Value) (E : Ex) (loops : Nat → Option (St → Tree Out)) (n : Nat) (fn : Func) (body : Code) (ts rs : List Ty) (xs : TDs ts) : Tree (TDs rs) :=
  match expandR ts xs 0 with
  | none => .fail "arguments"
  | some (ps, gh, next) =>
    match argTvs ps with
    | none => .fail "arguments"
    | some args => (execFun E loops n fn body args ((next, .pin g cs) :: gh) (next + 1)).bind fun d => ofO "results no such data" ((partsOf d.val rs.length).bind fun vs => collectA (applyUpd d.upd ((next, .pin g cs) :: gh)) rs vs)

section
variable {P : Program} {R : Nat → Prop} {ρ : Env} {gh : Gh} {next : Nat} {w : World}

theorem pinOf_sound (hG : RepG R ρ gh w) {g : Nat} {c : List Value} : ∀ {l : Gh}, pinOf g gh l = some c → Pin g c R w
  | [], h => by cases h
  | (k, x) :: r, h => by
    simp only [pinOf] at h
    split at h
    · rename_i b cs hg
      cases hb : Nat.beq b g with
      | true =>
        rw [hb] at h
        injection h with h; subst h
        have := beq_iff.1 hb
        subst this
        exact hG.facts k _ hg
      | false => rw [hb] at h; exact pinOf_sound hG h
    · exact pinOf_sound hG h

theorem pureSpW_aux {g0 : Nat} {cs0 : List Value} {f : FuncId} {ts rs : List Ty} {pre : TDs ts → Prop} {F : TDs ts → TDs rs} (h : PureOKW P g0 cs0 f ts rs pre F) {args : List Tv} {t : Tree Delta} {d : Delta} (ht : pureSp ts rs pre F args gh next = some t) (hr : t.reach d)
    (hG : RepG R ρ gh w) (hids : ∀ v ∈ args, ∀ i ∈ v.ids, i < next ∨ d.next ≤ i) (hbd : ∀ id g, look gh id = some g → (id < next ∨ d.next ≤ id) ∧ ∀ i ∈ g.ids, i < next ∨ d.next ≤ i) (hpin : Pin g0 cs0 R w) : CallOK P f args R ρ gh next w d := by
  unfold pureSp at ht
  cases hc : collectA gh ts args with
  | none => rw [hc] at ht; cases ht
  | some xs =>
    rw [hc] at ht
    simp only at ht
    injection ht with ht
    subst ht
    obtain ⟨hpre, hr⟩ := hr
    cases he : expandR rs (F xs) next with
    | none => rw [he] at hr; exact hr.elim
    | some q =>
      obtain ⟨ps, g, n'⟩ := q
      rw [he] at hr
      simp only at hr
      cases hm : mkRes ps with
      | none => rw [hm] at hr; exact hr.elim
      | some v =>
        rw [hm] at hr
        have hargs := collectA_sound hG hc
        have hRp : ∀ b, Rplus R ρ gh b → b < w.heap.size := by
          rintro b (h | ⟨id, g, h1, h2⟩)
          · exact hG.rlt b h
          · exact (hG.olt id g b h1 h2).1
        cases hr
        unfold CallOK
        refine (h (Rplus R ρ gh) w xs (args.map (Tv.den ρ)) hRp ⟨.inl hpin.1, hpin.2⟩ hargs hpre).mono ?_
        rintro e w' ⟨vs, he', hres, hbelow⟩
        have hold : ∀ b, b < w.heap.size → w'.heap[b]? = w.heap[b]? := hbelow.block
        cases hf : flats rs with
        | true =>
          obtain ⟨e1, e2⟩ := expandR_flat hf he
          subst e1; subst e2
          obtain ⟨ρ', x1, x2, x3⟩ := expandR_sound (ρ := ρ) he hres
          have hps : ∀ p ∈ ps, ∀ i ∈ idsOf p.2, False := fun p hp i hi => by have := x3 p hp i hi; omega
          have hsame : ps.map (denPart ρ') = ps.map (denPart ρ) := List.map_congr_left fun p hp => by
            have : dens ρ' p.2 = dens ρ p.2 := dens_same (p := fun _ => False) (fun _ h => h.elim) (fun i hi => hps p hp i hi)
            obtain ⟨b, cs⟩ := p
            cases b <;> simp only [denPart] <;> simp only at this <;> rw [this]
          refine ⟨R, ρ, by rw [he', mkRes_den hm, x2, hsame], ?_⟩
          have hG' : RepG R ρ gh w' := ⟨fun id g hg => Gfact.mono (p := fun _ => True) (fun b hb => ⟨hb, hold b (hG.rlt b hb)⟩) (fun _ _ => rfl) trivial (fun _ _ => trivial) (fun b hb => hold b (hG.olt id g b hg hb).1) (hG.facts id g hg),
            fun b hb => Nat.lt_of_lt_of_le (hG.rlt b hb) hbelow.size, fun id g b hg hb => ⟨Nat.lt_of_lt_of_le (hG.olt id g b hg hb).1 hbelow.size, (hG.olt id g b hg hb).2⟩, hG.sep⟩
          exact ⟨⟨hbelow.size, hbelow.os, hbelow.tape, hbelow.output, fun b hb _ => hold b hb, fun _ _ => rfl, fun _ h => h, fun _ h => .inl h, fun _ h => .inl h⟩, hG'⟩
        | false =>
          obtain ⟨ρ', x1, x2, x3⟩ := expandR_sound (ρ := ρ) he hres
          refine ⟨Rnew (Rplus R ρ gh) w w', ρ', by rw [he', mkRes_den hm, x2], ?_⟩
          have hlook : ∀ k, look (applyUpd (updOf g ++ absorbO gh gh) gh) k = (look g k).elim ((look gh k).map Gb.abs) some := by
            intro k
            rw [look_applyUpd, look_append, look_updOf]
            cases look g k with
            | some x => rfl
            | none => exact absorbO_same gh k
          have hRn : ∀ b, R b → Rnew (Rplus R ρ gh) w w' b := fun b hb => .inl (.inl hb)
          have hnone : ∀ k b c, look (applyUpd (updOf g ++ absorbO gh gh) gh) k = some b → b.ownB ρ' k = some c → False := by
            intro k b c hb hc
            rw [hlook] at hb
            cases hg : look g k with
            | some x =>
              rw [hg] at hb; simp at hb; subst hb
              have := (x1.gh k x hg).2.2.1
              cases x <;> simp [Gb.isOwn] at this <;> simp [Gb.ownB] at hc
            | none =>
              rw [hg] at hb
              simp only [Option.elim] at hb
              cases hl : look gh k with
              | none => rw [hl] at hb; cases hb
              | some y => rw [hl] at hb; simp only [Option.map] at hb; injection hb with hb; subst hb; rw [Gb.abs_own] at hc; cases hc
          refine ⟨⟨hbelow.size, hbelow.os, hbelow.tape, hbelow.output, fun b hb _ => hold b hb, fun id hid => x1.same id hid, hRn, ?_, ?_⟩, ?_⟩
          · rintro b ((h | h) | h)
            · exact .inl h
            · exact .inr (.inl h)
            · exact .inr (.inr h.1)
          · rintro b ⟨k, gb, h1, h2⟩; exact (hnone k gb b h1 h2).elim
          · refine ⟨fun k b hb => ?_, ?_, fun k gb b h1 h2 => (hnone k gb b h1 h2).elim, fun k k' gb gb' b h1 h2 h3 h4 => (hnone k gb b h1 h3).elim⟩
            · rw [hlook] at hb
              cases hg : look g k with
              | some x => rw [hg] at hb; simp at hb; subst hb; exact (x1.gh k x hg).2.2.2
              | none =>
                rw [hg] at hb
                simp only [Option.elim] at hb
                cases hl : look gh k with
                | none => rw [hl] at hb; cases hb
                | some y =>
                  rw [hl] at hb; simp only [Option.map] at hb; injection hb with hb; subst hb
                  have h0 : Gfact (Rplus R ρ gh) w ρ k y.abs := Gfact.abs hG hl (fun b hb => .inl hb) (fun b hb => .inr ⟨k, y, hl, hb⟩)
                  refine Gfact.mono (fun b hb => ⟨.inl hb, hold b (hRp b hb)⟩) x1.same (hbd k y hl).1 (by rw [abs_ids]; exact (hbd k y hl).2) (fun b hb => ?_) h0
                  rw [Gb.abs_own] at hb; cases hb
            · rintro b (h | h)
              · exact Nat.lt_of_lt_of_le (hRp b h) hbelow.size
              · exact h.2

/-- how a function is entered -/

theorem pureSpW_ok {g0 : Nat} {cs0 : List Value} {f : FuncId} {ts rs : List Ty} {pre : TDs ts → Prop} {F : TDs ts → TDs rs} (h : PureOKW P g0 cs0 f ts rs pre F) : SpecOK P f (pureSpW g0 cs0 ts rs pre F) := by
  intro args gh next t d ht hr R ρ w hG hids hbd
  unfold pureSpW at ht
  split at ht
  · rename_i c0 hpin
    split at ht
    · rename_i t0 ht0
      injection ht with ht
      subst ht
      obtain ⟨e0, hr⟩ := hr
      subst e0
      have hpin := pinOf_sound hG hpin
      exact pureSpW_aux h ht0 hr hG hids hbd hpin
    · cases ht
  · cases ht
theorem pureW_of_tree {g0 : Nat} {cs0 : List Value} {E : Ex} (hE : E.Sound) {loops : Nat → Option (St → Tree Out)} {n : Nat} {f : FuncId} {fn : Func} {body : Code} (hf : E.P.funcs[f]? = some fn) (hbody : fn.body = some body)
    (hl : LoopsOK E.P fn.ntmps loops body 0) {ts rs : List Ty} {pre : TDs ts → Prop} {F : TDs ts → TDs rs} (h : ∀ xs, pre xs → (pureTreeW g0 cs0 E loops n fn body ts rs xs).all fun y => y = F xs) : PureOKW E.P g0 cs0 f ts rs pre F := by
  intro R w xs args hR hpin hargs hpre
  have hall := h xs hpre
  unfold pureTreeW at hall
  cases he : expandR ts xs 0 with
  | none => rw [he] at hall; exact hall.elim
  | some q =>
    obtain ⟨ps, gh, next⟩ := q
    rw [he] at hall
    simp only at hall
    cases hv : argTvs ps with
    | none => rw [hv] at hall; exact hall.elim
    | some vs =>
      rw [hv] at hall
      simp only at hall
      obtain ⟨ρ, x1, x2, x3⟩ := expandR_sound (ρ := fun _ => ⟨none, 0, 0⟩) he hargs
      obtain ⟨a1, a2⟩ := argTvs_den (ρ := ρ) hv
      have hlk : ∀ id g, look ((next, Gb.pin g0 cs0) :: gh) id = some g → (id = next ∧ g = .pin g0 cs0) ∨ look gh id = some g := fun id g hg => by
        rw [look_cons] at hg
        by_cases e : next = id
        · rw [if_pos e] at hg; injection hg with hg; exact .inl ⟨e.symm, hg.symm⟩
        · rw [if_neg e] at hg; exact .inr hg
      have hnoB : ∀ id g b, look ((next, Gb.pin g0 cs0) :: gh) id = some g → g.ownB ρ id = some b → False := fun id g b hg hb => by
        rcases hlk id g hg with ⟨_, e⟩ | hg
        · subst e; simp [Gb.ownB] at hb
        · have := (x1.gh id g hg).2.2.1
          cases g <;> simp [Gb.isOwn] at this <;> simp [Gb.ownB] at hb
      have hG : RepG R ρ ((next, Gb.pin g0 cs0) :: gh) w := by
        refine ⟨fun id g hg => ?_, hR, fun id g b hg hb => (hnoB id g b hg hb).elim, fun id id' g g' b hg hg' hb hb' => (hnoB id g b hg hb).elim⟩
        rcases hlk id g hg with ⟨_, e⟩ | hg
        · subst e; exact hpin
        · exact (x1.gh id g hg).2.2.2
      obtain ⟨y, hreach, hy⟩ := Tree.reach_of_all hall
      obtain ⟨d, h1, h2⟩ := Tree.reach_bind.1 hreach
      have h2 := ofO_reach h2
      have hcall := (execFun_sound hE hf hbody hl h1 hG (fun v hv i hi => by obtain ⟨p, hp, hpi⟩ := a2 v hv i hi; exact Nat.lt_succ_of_lt (x3 p hp i hpi).2) (fun id g hg => by
        rcases hlk id g hg with ⟨e1, e2⟩ | hg
        · subst e1; subst e2; exact ⟨Nat.lt_succ_self _, by simp [Gb.ids]⟩
        · exact ⟨Nat.lt_succ_of_lt (x1.gh id g hg).1.2, fun i hi => Nat.lt_succ_of_lt ((x1.gh id g hg).2.1 i hi).2⟩)).1
      unfold CallOK at hcall
      rw [a1, ← x2] at hcall
      refine hcall.mono ?_
      rintro e w' ⟨R', ρ', he', hE', hG'⟩
      cases hp : partsOf d.val rs.length with
      | none => rw [hp] at h2; cases h2
      | some us =>
        rw [hp] at h2
        simp only [Option.bind] at h2
        have hus : d.val.den ρ' = retV (us.map (Tv.den ρ')) ∧ us.length = rs.length := by
          have hlen : ∀ (rs : List Ty) (us : List Tv) (y : TDs rs), collectA (applyUpd d.upd ((next, Gb.pin g0 cs0) :: gh)) rs us = some y → us.length = rs.length := by
            intro rs
            induction rs with
            | nil => intro us y h; cases us with
              | nil => rfl
              | cons v r => simp [collectA] at h
            | cons t ts ih =>
              intro us y h
              cases us with
              | nil => simp [collectA] at h
              | cons v r =>
                simp only [collectA] at h
                cases hc : tvC t v with
                | none => rw [hc] at h; cases h
                | some cs =>
                  rw [hc] at h
                  simp only at h
                  cases hx : collect (applyUpd d.upd ((next, Gb.pin g0 cs0) :: gh)) t cs with
                  | none => rw [hx] at h; cases h
                  | some x =>
                    rw [hx] at h
                    simp only at h
                    cases hy : collectA (applyUpd d.upd ((next, Gb.pin g0 cs0) :: gh)) ts r with
                    | none => rw [hy] at h; cases h
                    | some y' => simp [ih r y' hy]
          have hl' := hlen rs us y h2
          refine ⟨?_, hl'⟩
          unfold partsOf at hp
          split at hp
          · rename_i vs' heqv
            cases hb : Nat.beq rs.length 1 with
            | true => rw [hb] at hp; cases hp
            | false =>
              rw [hb] at hp
              simp only [cond_false] at hp
              obtain ⟨i1, _⟩ := argTvs_den (ρ := ρ') hp
              rw [i1, heqv]
              simp only [Tv.den]
              have hn1 : vs'.length ≠ 1 := by
                have e := congrArg List.length i1
                simp only [List.length_map] at e
                have := beq_false_iff.1 hb
                omega
              match vs', hn1 with
              | [], _ => rfl
              | [p], h => exact absurd rfl h
              | p :: q :: r, _ => rfl
          · skip
            cases hb : Nat.beq rs.length 1 with
            | false => rw [hb] at hp; cases hp
            | true =>
              rw [hb] at hp
              simp only [cond_true] at hp
              injection hp with hp
              subst hp
              rfl
        refine ⟨us.map (Tv.den ρ'), by rw [he', hus.1], ?_, ⟨hE'.os, hE'.tape, hE'.output, hE'.size, fun b hb => hE'.keep b hb fun ⟨id, g, hg, ho⟩ => hnoB id g b hg ho⟩⟩
        · rw [← hy]
          have hno : ∀ b, ¬ OwnB ρ ((next, Gb.pin g0 cs0) :: gh) b := fun b ⟨id, g, hg, ho⟩ => hnoB id g b hg ho
          refine ArgsR.mono (fun b hb => ⟨?_, rfl⟩) (collectA_sound hG' h2)
          rcases hb with hb | hb
          · rcases hE'.newR b hb with h | h | h
            · exact .inl h
            · exact (hno b h).elim
            · exact .inr ⟨h, hG'.rlt b hb⟩
          · rcases hE'.newO b hb with h | h
            · exact (hno b h).elim
            · obtain ⟨id, g, hg, ho⟩ := hb
              exact .inr ⟨h, (hG'.olt id g b hg ho).1⟩

end

def fnTW (g : Nat) (cs : List Value) (E : Ex) (lps : List (Nat × (St → Tree Out))) (n : Nat) (fn : Func) (ts rs : List Ty) (xs : TDs ts) : Tree (TDs rs) :=
  pureTreeW g cs E (look lps) n fn (bodyOf fn) ts rs xs

theorem fn_pureW {g : Nat} {cs : List Value} {E : Ex} (hE : E.Sound) {f : FuncId} {fn : Func} (hf : E.P.funcs[f]? = some fn) (hbody : fn.body = some (bodyOf fn)) {lps : List (Nat × (St → Tree Out))} (hl : LpsOK E.P fn lps) {n : Nat} {ts rs : List Ty}
    {pre : TDs ts → Prop} {F : TDs ts → TDs rs} (h : ∀ xs, pre xs → (fnTW g cs E lps n fn ts rs xs).all fun y => y = F xs) : PureOKW E.P g cs f ts rs pre F :=
  pureW_of_tree hE hf hbody hl.loops h
attribute [irreducible] fnTW
end Sx
