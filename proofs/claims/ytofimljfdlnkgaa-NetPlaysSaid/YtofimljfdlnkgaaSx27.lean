/- A symbolic executor for the model's code: contracts whose results lie in new memory. -/
import Derived.Test.YtofimljfdlnkgaaSx26
namespace Sx
open Go Go.RowKit

def NewB (w w' : World) (b : Nat) : Prop := w.heap.size ≤ b ∧ b < w'.heap.size

def PureNewOK (P : Program) (f : FuncId) (ts rs : List Ty) (pre : TDs ts → Prop) (F : TDs ts → TDs rs) : Prop :=
  ∀ R w xs args, (∀ b, R b → b < w.heap.size) → ArgsR R w ts xs args → pre xs →
    Calls P f args.toArray w fun e w' => ∃ vs, e = .returned (retV vs) ∧ ArgsR (NewB w w') w' rs (F xs) vs ∧ Below w.heap.size w w'

theorem PureNewOK.pure {P : Program} {f : FuncId} {ts rs : List Ty} {pre : TDs ts → Prop} {F : TDs ts → TDs rs} (h : PureNewOK P f ts rs pre F) : PureOK P f ts rs pre F := by
  intro R w xs args h1 h2 h3
  refine (h R w xs args h1 h2 h3).mono ?_
  rintro e w' ⟨vs, he, hr, hb⟩
  exact ⟨vs, he, ArgsR.mono (fun b hb => ⟨.inr hb, rfl⟩) hr, hb⟩

def newSp (ts rs : List Ty) (pre : TDs ts → Prop) (F : TDs ts → TDs rs) : Spec := fun args gh next =>
  match collectA gh ts args with
  | none => none
  | some xs => some (.req (pre xs) (
    match expandR rs (F xs) next with
    | none => .fail "a result that is not told"
    | some (ps, g, n') =>
      match mkRes ps with
      | some v => .leaf ⟨v, updOf g, n'⟩
      | none => .fail "a result that is not told"))

theorem newSp_ok {P : Program} {f : FuncId} {ts rs : List Ty} {pre : TDs ts → Prop} {F : TDs ts → TDs rs} (h : PureNewOK P f ts rs pre F) : SpecOK P f (newSp ts rs pre F) := by
  intro args gh next t d ht hr R ρ w hG hids hbd
  unfold newSp at ht
  cases hc : collectA gh ts args with
  | none => rw [hc] at ht; cases ht
  | some xs =>
    rw [hc] at ht
    simp only at ht
    injection ht with ht
    subst ht
    obtain ⟨hpre, hr⟩ := hr
    cases he : expandR rs (F xs) next with
    | none => rw [he] at hr; exact hr.elim
    | some q =>
      obtain ⟨ps, g, n'⟩ := q
      rw [he] at hr
      simp only at hr
      cases hm : mkRes ps with
      | none => rw [hm] at hr; exact hr.elim
      | some v =>
        rw [hm] at hr
        have hargs := collectA_sound hG hc
        have hRp : ∀ b, Rplus R ρ gh b → b < w.heap.size := by
          rintro b (h | ⟨id, g, h1, h2⟩)
          · exact hG.rlt b h
          · exact (hG.olt id g b h1 h2).1
        cases hr
        unfold CallOK
        refine (h (Rplus R ρ gh) w xs (args.map (Tv.den ρ)) hRp hargs hpre).mono ?_
        rintro e w' ⟨vs, he', hres, hbelow⟩
        have hold : ∀ b, b < w.heap.size → w'.heap[b]? = w.heap[b]? := hbelow.block
        have hres' : ArgsR (fun b => R b ∨ NewB w w' b) w' rs (F xs) vs := ArgsR.mono (fun b hb => ⟨.inr hb, rfl⟩) hres
        obtain ⟨ρ', x1, x2, x3⟩ := expandR_sound (ρ := ρ) he hres'
        have hlook : ∀ k, look (applyUpd (updOf g) gh) k = (look g k).elim (look gh k) some := look_applyUpdOf g gh
        have hown : ∀ k gb b, look (applyUpd (updOf g) gh) k = some gb → gb.ownB ρ' k = some b → look gh k = some gb ∧ gb.ownB ρ k = some b := by
          intro k gb b hk hb
          rw [hlook] at hk
          cases hg : look g k with
          | some x =>
            rw [hg] at hk; simp at hk; subst hk
            have := (x1.gh k x hg).2.2.1
            cases x <;> simp [Gb.isOwn] at this <;> simp [Gb.ownB] at hb
          | none =>
            rw [hg] at hk
            simp only [Option.elim] at hk
            exact ⟨hk, by rw [← ownB_same (x1.same k (hbd k gb hk).1)]; exact hb⟩
        refine ⟨fun b => R b ∨ NewB w w' b, ρ', by rw [he', mkRes_den hm, x2], ?_⟩
        refine ⟨⟨hbelow.size, hbelow.os, hbelow.tape, hbelow.output, fun b hb _ => hold b hb, fun id hid => x1.same id hid, fun b hb => .inl hb, ?_, ?_⟩, ?_⟩
        · rintro b (h | h)
          · exact .inl h
          · exact .inr (.inr h.1)
        · rintro b ⟨k, gb, h1, h2⟩
          obtain ⟨h3, h4⟩ := hown k gb b h1 h2
          exact .inl ⟨k, gb, h3, h4⟩
        · refine ⟨fun k gb hk => ?_, ?_, fun k gb b h1 h2 => ?_, fun k k' gb gb' b h1 h2 h3 h4 => ?_⟩
          · rw [hlook] at hk
            cases hg : look g k with
            | some x => rw [hg] at hk; simp at hk; subst hk; exact (x1.gh k x hg).2.2.2
            | none =>
              rw [hg] at hk
              simp only [Option.elim] at hk
              exact Gfact.mono (fun b hb => ⟨.inl hb, hold b (hG.rlt b hb)⟩) x1.same (hbd k gb hk).1 (hbd k gb hk).2 (fun b hb => hold b (hG.olt k gb b hk hb).1) (hG.facts k gb hk)
          · rintro b (h | h)
            · exact Nat.lt_of_lt_of_le (hG.rlt b h) hbelow.size
            · exact h.2
          · obtain ⟨h3, h4⟩ := hown k gb b h1 h2
            have h5 := hG.olt k gb b h3 h4
            exact ⟨Nat.lt_of_lt_of_le h5.1 hbelow.size, fun h => h.elim h5.2 fun h => by have := h.1; omega⟩
          · obtain ⟨h5, h6⟩ := hown k gb b h1 h3
            obtain ⟨h7, h8⟩ := hown k' gb' b h2 h4
            exact hG.sep k k' gb gb' b h5 h7 h6 h8

/-- what one owns alone, rows of flat data -/
def ownRows (full : Gh) : Gh → Gh
  | [] => []
  | (k, _) :: r =>
    match look full k with
    | some (.own t xs) => match t.flat with | true => (k, .own t xs) :: ownRows full r | false => ownRows full r
    | _ => ownRows full r

theorem look_ownRows (full : Gh) : ∀ (gh : Gh) (k : Nat) (g : Gb), look (ownRows full gh) k = some g → look full k = some g ∧ ∃ t xs, g = .own t xs ∧ t.flat = true
  | [], k, g, h => by simp [ownRows, look] at h
  | (a, x) :: r, k, g, h => by
    have ih := look_ownRows full r k g
    simp only [ownRows] at h
    split at h
    · rename_i t xs hf
      split at h
      · rename_i hfl
        rw [look_cons] at h
        by_cases e : a = k
        · rw [if_pos e] at h; injection h with h; subst h; subst e; exact ⟨hf, t, xs, rfl, hfl⟩
        · rw [if_neg e] at h; exact ih h
      · exact ih h
    · exact ih h

/-- the results, read through what the call made -/
def newTree (E : Ex) (loops : Nat → Option (St → Tree Out)) (n : Nat) (fn : Func) (body : Code) (ts rs : List Ty) (xs : TDs ts) : Tree (TDs rs) :=
  match expandR ts xs 0 with
  | none => .fail "arguments"
  | some (ps, gh, next) =>
    match argTvs ps with
    | none => .fail "arguments"
    | some args => (execFun E loops n fn body args gh next).bind fun d => ofO "results no such data" ((partsOf d.val rs.length).bind fun vs => collectA (ownRows (applyUpd d.upd gh) (applyUpd d.upd gh)) rs vs)

section
theorem new_of_tree {E : Ex} (hE : E.Sound) {loops : Nat → Option (St → Tree Out)} {n : Nat} {f : FuncId} {fn : Func} {body : Code} (hf : E.P.funcs[f]? = some fn) (hbody : fn.body = some body)
    (hl : LoopsOK E.P fn.ntmps loops body 0) {ts rs : List Ty} {pre : TDs ts → Prop} {F : TDs ts → TDs rs} (h : ∀ xs, pre xs → (newTree E loops n fn body ts rs xs).all fun y => y = F xs) : PureNewOK E.P f ts rs pre F := by
  intro R w xs args hR hargs hpre
  have hall := h xs hpre
  unfold newTree at hall
  cases he : expandR ts xs 0 with
  | none => rw [he] at hall; exact hall.elim
  | some q =>
    obtain ⟨ps, gh, next⟩ := q
    rw [he] at hall
    simp only at hall
    cases hv : argTvs ps with
    | none => rw [hv] at hall; exact hall.elim
    | some vs =>
      rw [hv] at hall
      simp only at hall
      obtain ⟨ρ, x1, x2, x3⟩ := expandR_sound (ρ := fun _ => ⟨none, 0, 0⟩) he hargs
      obtain ⟨a1, a2⟩ := argTvs_den (ρ := ρ) hv
      have hG : RepG R ρ gh w := by
        refine ⟨fun id g hg => (x1.gh id g hg).2.2.2, hR, fun id g b hg hb => ?_, fun id id' g g' b hg hg' hb hb' => ?_⟩
        · have := (x1.gh id g hg).2.2.1
          cases g <;> simp [Gb.isOwn] at this <;> simp [Gb.ownB] at hb
        · have := (x1.gh id g hg).2.2.1
          cases g <;> simp [Gb.isOwn] at this <;> simp [Gb.ownB] at hb
      obtain ⟨y, hreach, hy⟩ := Tree.reach_of_all hall
      obtain ⟨d, h1, h2⟩ := Tree.reach_bind.1 hreach
      have h2 := ofO_reach h2
      have hcall := (execFun_sound hE hf hbody hl h1 hG (fun v hv i hi => by obtain ⟨p, hp, hpi⟩ := a2 v hv i hi; exact (x3 p hp i hpi).2) (fun id g hg => ⟨(x1.gh id g hg).1.2, fun i hi => ((x1.gh id g hg).2.1 i hi).2⟩)).1
      unfold CallOK at hcall
      rw [a1, ← x2] at hcall
      refine hcall.mono ?_
      rintro e w' ⟨R', ρ', he', hE', hG'⟩
      cases hp : partsOf d.val rs.length with
      | none => rw [hp] at h2; cases h2
      | some us =>
        rw [hp] at h2
        simp only [Option.bind] at h2
        have hus : d.val.den ρ' = retV (us.map (Tv.den ρ')) ∧ us.length = rs.length := by
          have hlen : ∀ (rs : List Ty) (us : List Tv) (y : TDs rs), collectA (ownRows (applyUpd d.upd gh) (applyUpd d.upd gh)) rs us = some y → us.length = rs.length := by
            intro rs
            induction rs with
            | nil => intro us y h; cases us with
              | nil => rfl
              | cons v r => simp [collectA] at h
            | cons t ts ih =>
              intro us y h
              cases us with
              | nil => simp [collectA] at h
              | cons v r =>
                simp only [collectA] at h
                cases hc : tvC t v with
                | none => rw [hc] at h; cases h
                | some cs =>
                  rw [hc] at h
                  simp only at h
                  cases hx : collect (ownRows (applyUpd d.upd gh) (applyUpd d.upd gh)) t cs with
                  | none => rw [hx] at h; cases h
                  | some x =>
                    rw [hx] at h
                    simp only at h
                    cases hy : collectA (ownRows (applyUpd d.upd gh) (applyUpd d.upd gh)) ts r with
                    | none => rw [hy] at h; cases h
                    | some y' => simp [ih r y' hy]
          have hl' := hlen rs us y h2
          refine ⟨?_, hl'⟩
          unfold partsOf at hp
          split at hp
          · rename_i vs' heqv
            cases hb : Nat.beq rs.length 1 with
            | true => rw [hb] at hp; cases hp
            | false =>
              rw [hb] at hp
              simp only [cond_false] at hp
              obtain ⟨i1, _⟩ := argTvs_den (ρ := ρ') hp
              rw [i1, heqv]
              simp only [Tv.den]
              have hn1 : vs'.length ≠ 1 := by
                have e := congrArg List.length i1
                simp only [List.length_map] at e
                have := beq_false_iff.1 hb
                omega
              match vs', hn1 with
              | [], _ => rfl
              | [p], h => exact absurd rfl h
              | p :: q :: r, _ => rfl
          · skip
            cases hb : Nat.beq rs.length 1 with
            | false => rw [hb] at hp; cases hp
            | true =>
              rw [hb] at hp
              simp only [cond_true] at hp
              injection hp with hp
              subst hp
              rfl
        refine ⟨us.map (Tv.den ρ'), by rw [he', hus.1], ?_, ⟨hE'.os, hE'.tape, hE'.output, hE'.size, fun b hb => hE'.keep b hb fun ⟨id, g, hg, ho⟩ => ?_⟩⟩
        · rw [← hy]
          have hno : ∀ b, ¬ OwnB ρ gh b := by
            rintro b ⟨id, g, hg, ho⟩
            have := (x1.gh id g hg).2.2.1
            cases g <;> simp [Gb.isOwn] at this <;> simp [Gb.ownB] at ho
          have hN : RepG (fun _ => False) ρ' (ownRows (applyUpd d.upd gh) (applyUpd d.upd gh)) w' := by
            refine ⟨fun id g hg => ?_, fun b h => h.elim, fun id g b hg ho => ?_, fun id id' g g' b h1 h2 h3 h4 => ?_⟩
            · obtain ⟨k1, tt, ys, rfl, k2⟩ := look_ownRows _ _ _ _ hg
              have k3 : OwnRow R' w' ρ' id tt ys := hG'.facts id _ k1
              obtain ⟨q1, q2, q3⟩ := k3
              refine ⟨q1, q2, ?_⟩
              rcases q3 with q3 | ⟨bb, o, cc, T, q4, q5, q6, q7⟩
              · exact .inl q3
              · refine .inr ⟨bb, o, cc, T, q4, q5, q6, fun i x hx => ?_⟩
                obtain ⟨c, c1, c2, c3⟩ := q7 i x hx
                exact ⟨c, c1, c2, ReadsC.flat tt x c k2 c3⟩
            · exact ⟨(hG'.olt id g b (look_ownRows _ _ _ _ hg).1 ho).1, fun h => h⟩
            · exact hG'.sep id id' g g' b (look_ownRows _ _ _ _ h1).1 (look_ownRows _ _ _ _ h2).1 h3 h4
          refine ArgsR.mono (fun b hb => ⟨?_, rfl⟩) (collectA_sound hN h2)
          rcases hb with hb | hb
          · exact hb.elim
          · obtain ⟨id, g, hg, ho⟩ := hb
            have hg := (look_ownRows _ _ _ _ hg).1
            rcases hE'.newO b ⟨id, g, hg, ho⟩ with h | h
            · exact (hno b h).elim
            · exact ⟨h, (hG'.olt id g b hg ho).1⟩
        · have := (x1.gh id g hg).2.2.1
          cases g <;> simp [Gb.isOwn] at this <;> simp [Gb.ownB] at ho
end

def fnN (E : Ex) (lps : List (Nat × (St → Tree Out))) (n : Nat) (fn : Func) (ts rs : List Ty) (xs : TDs ts) : Tree (TDs rs) :=
  newTree E (look lps) n fn (bodyOf fn) ts rs xs

theorem fn_new {E : Ex} (hE : E.Sound) {f : FuncId} {fn : Func} (hf : E.P.funcs[f]? = some fn) (hbody : fn.body = some (bodyOf fn)) {lps : List (Nat × (St → Tree Out))} (hl : LpsOK E.P fn lps) {n : Nat} {ts rs : List Ty}
    {pre : TDs ts → Prop} {F : TDs ts → TDs rs} (h : ∀ xs, pre xs → (fnN E lps n fn ts rs xs).all fun y => y = F xs) : PureNewOK E.P f ts rs pre F :=
  new_of_tree hE hf hbody hl.loops h

attribute [irreducible] fnN
end Sx
