/- A symbolic executor for the model's code: contracts of calls that change an object of one's own, used. -/
import Derived.Test.YtofimljfdlnkgaaSx37
namespace Sx
open Go Go.RowKit

def mutIn (ptr : Bool) (gh : Gh) (a0 : Tv) : Option (List SV × List Nat) :=
  match ptr with
  | true =>
    match a0 with
    | .one (.ptr id off) => bif Nat.beq off 0 then (match look gh id with | some (.blk cs) => some (cs, [id]) | _ => none) else none
    | _ => none
  | false => match a0 with | .one c => some ([c], []) | _ => none

def outP (ptr : Bool) (cs : List SV) (ps : List (Bool × List SV)) : List (Bool × List SV) := match ptr with | true => ps | false => (false, cs) :: ps

def mutSp (ptr : Bool) (o : OTy) (ts rs : List Ty) (pre : OD o × TDs ts → Prop) (F : OD o × TDs ts → OD o × TDs rs) : Spec := fun args gh next =>
  match args with
  | [] => none
  | a0 :: vs =>
    match mutIn ptr gh a0 with
    | none => none
    | some (cs, i0) =>
      bif once (applyUpd (gone gh (othersOf gh (i0 ++ rowIds o cs))) gh) && nodupB (i0 ++ rowIds o cs) then
        match collectM (applyUpd (gone gh (othersOf gh (i0 ++ rowIds o cs))) gh) o cs, collectA (calm (applyUpd (gone gh (othersOf gh (i0 ++ rowIds o cs))) gh)) ts vs with
        | some x, some xs => some (.req (pre (x, xs)) (
            match expandM o (F (x, xs)).1 next with
            | none => .fail "an object that is not told"
            | some (cs', g1, n1) =>
              match expandR rs (F (x, xs)).2 n1 with
              | none => .fail "a result that is not told"
              | some (ps, g2, n2) =>
                match mkRes (outP ptr cs' ps) with
                | some v => .leaf ⟨v, (i0.map fun i => (i, some (Gb.blk cs'))) ++ (updOf (g1 ++ g2) ++ ((rowIds o cs).map (fun i => (i, (none : Option Gb))) ++ (match o.flat && flats rs with | true => [] | false => gone gh (othersOf gh (i0 ++ rowIds o cs))))), n2⟩
                | none => .fail "a result that is not told"))
        | _, _ => none
      else none

theorem look_mapC {α : Type} (x : α) : ∀ (l : List Nat) (k : Nat), look (l.map fun i => (i, x)) k = if k ∈ l then some x else none
  | [], k => by simp [look]
  | a :: r, k => by
    rw [List.map_cons, look_cons, look_mapC x r k]
    by_cases h : a = k
    · subst h; simp
    · rw [if_neg h]
      have : (k ∈ a :: r) ↔ k ∈ r := by
        rw [List.mem_cons]
        exact ⟨fun e => e.elim (fun e => (h e.symm).elim) id, .inr⟩
      simp only [this]

theorem expandR_flat2 {rs : List Ty} (hf : flats rs = true) {R : Nat → Prop} {w : World} {xs : TDs rs} {vs : List Value} (h : ArgsR R w rs xs vs) : ∀ (R' : Nat → Prop) (w' : World), ArgsR R' w' rs xs vs := by
  intro R' w'
  induction rs generalizing vs with
  | nil => exact h
  | cons t ts ih =>
    obtain ⟨cs, r, e, h1, h2⟩ := h
    simp only [flats, List.all_cons, Bool.and_eq_true] at hf
    exact ⟨cs, r, e, ReadsC.flat t xs.1 cs hf.1 h1, ih hf.2 h2⟩

theorem mutSp_ok {ptr : Bool} {P : Program} {f : FuncId} {o : OTy} {ts rs : List Ty} {pre : OD o × TDs ts → Prop} {F : OD o × TDs ts → OD o × TDs rs} (h : MutOK ptr P f o ts rs pre F) : SpecOK P f (mutSp ptr o ts rs pre F) := by
  intro args gh next tr d ht hr R ρ w hG hids hbd
  unfold mutSp at ht
  cases args with
  | nil => cases ht
  | cons a0 vs =>
    simp only at ht
    cases hin : mutIn ptr gh a0 with
    | none => rw [hin] at ht; cases ht
    | some q =>
      obtain ⟨cs, i0⟩ := q
      rw [hin] at ht
      simp only at ht
      obtain ⟨keep, hkeep⟩ : ∃ keep, keep = i0 ++ rowIds o cs := ⟨_, rfl⟩
      rw [← hkeep] at ht
      obtain ⟨b1, b2, b3, R2, hG2, k1, k2, k3⟩ := RepG.but hG keep
      obtain ⟨gh2, hgh2⟩ : ∃ gh2, gh2 = applyUpd (gone gh (othersOf gh keep)) gh := ⟨_, rfl⟩
      rw [← hgh2] at ht b1 b2 b3 hG2 k3
      cases hon : once gh2 && nodupB keep with
      | false => rw [hon] at ht; cases ht
      | true =>
        rw [hon] at ht
        simp only [cond_true] at ht
        rw [Bool.and_eq_true] at hon
        obtain ⟨hon, hndk⟩ := hon
        have hndk := nodupB_sound hndk
        split at ht
        · rename_i x xs hx hxs
          injection ht with ht
          subst ht
          obtain ⟨hpre, hr⟩ := hr
          obtain ⟨hox, hrows⟩ := collectM_sound hG2 hon o cs x hx
          have hG2c : RepG R2 ρ (calm gh2) w := hG2.without fun i g h => (calm_look hon h).1
          have hargs : ArgsR R2 w ts xs (vs.map (Tv.den ρ)) := ArgsR.mono (fun b hb => ⟨calm_plus hG2 hon hb, rfl⟩) (collectA_sound hG2c hxs)
          -- the object, as it is handed over
          have hheld : ∃ b0, Held ptr w (dens ρ cs) (a0.den ρ) b0 ∧ RowsOwn gh2 keep ∧ blksOf ρ keep = b0 ++ blksOf ρ (rowIds o cs) ∧ (ptr = true → ∃ id b, i0 = [id] ∧ b0 = [b] ∧ (ρ id).addr = some ⟨b, 0, none⟩) ∧ (ptr = false → i0 = [] ∧ b0 = []) := by
            cases ptr with
            | true =>
              simp only [mutIn] at hin
              split at hin
              · rename_i id off
                cases hb : Nat.beq off 0 with
                | false => rw [hb] at hin; cases hin
                | true =>
                  rw [hb] at hin
                  simp only [cond_true] at hin
                  have hb := beq_iff.1 hb
                  subst hb
                  split at hin
                  · rename_i c hg
                    injection hin with hin; injection hin with e1 e2
                    subst e1; subst e2
                    obtain ⟨b, T, ha, hh⟩ := hG.facts _ _ hg
                    refine ⟨[b], ⟨b, T, by simp [Tv.den, SV.den, Env.at, ha], hh, rfl⟩, fun i hi => ?_, by rw [hkeep, blksOf_append]; simp [blksOf, ha, blkOf], fun _ => ⟨id, b, rfl, rfl, ha⟩, fun h => Bool.noConfusion h⟩
                    rw [hkeep] at hi
                    rcases List.mem_append.1 hi with hi | hi
                    · simp at hi; subst hi; exact ⟨_, by rw [b2 _ (by rw [hkeep]; simp)]; exact hg, rfl⟩
                    · exact hrows i hi
                  · cases hin
              · cases hin
            | false =>
              simp only [mutIn] at hin
              split at hin
              · rename_i c
                injection hin with hin; injection hin with e1 e2
                subst e1; subst e2
                exact ⟨[], ⟨rfl, rfl⟩, fun i hi => hrows i (by rw [hkeep] at hi; simpa using hi), by rw [hkeep]; rfl, fun h => Bool.noConfusion h, fun _ => ⟨rfl, rfl⟩⟩
              · cases hin
          obtain ⟨b0, hheld, hkrows, hkb, hp1, hp2⟩ := hheld
          obtain ⟨bs, hbs⟩ : ∃ bs, bs = blksOf ρ (rowIds o cs) := ⟨_, rfl⟩
          rw [← hbs] at hkb hox
          have hnd : (b0 ++ bs).Nodup := by rw [← hkb]; exact blks_nodup hG2 hkrows hndk
          have hkown : ∀ k ∈ b0 ++ bs, ∃ i ∈ keep, ∃ g, look gh2 i = some g ∧ g.ownB ρ i = some k := fun k hk => by
            rw [← hkb] at hk; exact rowsOwn_blk hG2 hkrows hk
          have hap : ∀ k ∈ b0 ++ bs, k < w.heap.size ∧ ¬ R2 k := fun k hk => by
            obtain ⟨i, _, g, hg, hgb⟩ := hkown k hk; exact hG2.olt i g k hg hgb
          have hkO : ∀ k ∈ b0 ++ bs, OwnB ρ gh k := fun k hk => by
            obtain ⟨i, _, g, hg, hgb⟩ := hkown k hk; exact k3 k ⟨i, g, hg, hgb⟩
          cases he1 : expandM o (F (x, xs)).1 next with
          | none => rw [he1] at hr; exact hr.elim
          | some q1 =>
            obtain ⟨cs', g1, n1⟩ := q1
            rw [he1] at hr
            simp only at hr
            cases he2 : expandR rs (F (x, xs)).2 n1 with
            | none => rw [he2] at hr; exact hr.elim
            | some q2 =>
              obtain ⟨ps, g2, n2⟩ := q2
              rw [he2] at hr
              simp only at hr
              cases hm : mkRes (outP ptr cs' ps) with
              | none => rw [hm] at hr; exact hr.elim
              | some v =>
                rw [hm] at hr
                cases hr
                unfold CallOK
                refine (h R2 w x xs (a0.den ρ) (vs.map (Tv.den ρ)) (dens ρ cs) b0 bs hG2.rlt hheld hox hnd hap hargs hpre).mono ?_
                rintro e w' ⟨R', v', us, cells', bs', hP⟩
                have hnd' : bs'.Nodup := (List.nodup_append.1 hP.nodup).2.1
                have hsame : ∀ b, R2 b → w'.heap[b]? = w.heap[b]? := fun b hb => hP.keep b (hG2.rlt b hb) fun hn => (hap b hn).2 hb
                have hkeepO : ∀ k g c, k ∉ keep → look gh k = some g → g.ownB ρ k = some c → c ∉ b0 ++ bs := fun k g c hk hg hc hn => by
                  obtain ⟨i, hi, g', hg', hgb'⟩ := hkown c hn
                  rw [b2 i hi] at hg'
                  have := hG.sep k i g g' c hg hg' hc hgb'
                  subst this; exact hk hi
                -- what else there is, behind the call
                obtain ⟨fl, hfl⟩ : ∃ fl, fl = (o.flat && flats rs) := ⟨_, rfl⟩
                obtain ⟨base, hbase⟩ : ∃ base : Gh, base = (match fl with | true => gh | false => gh2) := ⟨_, rfl⟩
                have hR3 : ∃ R3 : Nat → Prop, (∀ b, R b → R3 b) ∧ (∀ b, R3 b → b < w'.heap.size ∧ (R b ∨ OwnB ρ gh b ∨ w.heap.size ≤ b)) ∧ (∀ k ∈ b0 ++ bs', ¬ R3 k) ∧
                    OwnM R3 w' o (F (x, xs)).1 cells' bs' ∧ ArgsR R3 w' rs (F (x, xs)).2 us ∧ (∀ k g, look base k = some g → k ∉ keep → Gfact R3 w' ρ k g ∧
                      ((k < next ∨ n2 ≤ k) ∧ ∀ i ∈ g.ids, i < next ∨ n2 ≤ i) ∧ ∀ c, g.ownB ρ k = some c → look gh k = some g ∧ c ∉ b0 ++ bs ∧ ¬ R3 c) := by
                  cases fl with
                  | true =>
                    rw [eq_comm, Bool.and_eq_true] at hfl
                    subst hbase
                    refine ⟨R, fun _ h => h, fun b hb => ⟨Nat.lt_of_lt_of_le (hG.rlt b hb) hP.size, .inl hb⟩, fun k hk hR => (hP.apart k hk).2 (hP.sub k (k1 k hR)), OwnM.flat o _ _ _ hfl.1 hP.own (fun _ _ => rfl), expandR_flat2 hfl.2 hP.res R w', fun k g hg hk => ⟨?_, hbd k g hg, fun c hc => ⟨hg, hkeepO k g c hk hg hc, (hG.olt k g c hg hc).2⟩⟩⟩
                    refine Gfact.mono (p := fun _ => True) (fun b hb => ⟨hb, hsame b (k1 b hb)⟩) (fun _ _ => rfl) trivial (fun _ _ => trivial) (fun c hc => ?_) (hG.facts k g hg)
                    exact hP.keep c (hG.olt k g c hg hc).1 (hkeepO k g c hk hg hc)
                  | false =>
                    subst hbase
                    refine ⟨R', fun b hb => hP.sub b (k1 b hb), fun b hb => ⟨(hP.newR b hb).1, ?_⟩, fun k hk => (hP.apart k hk).2, hP.own, hP.res, fun k g hg hk => ?_⟩
                    · rcases (hP.newR b hb).2 with h1 | h1 | h1
                      · exact (k2 b h1).imp (fun h => h) .inl
                      · exact .inr (.inl (hkO b (List.mem_append.2 (.inr h1))))
                      · exact .inr (.inr h1)
                    · have hno := b3 k g hg hk
                      have hown0 : ∀ c, g.ownB ρ k = some c → False := fun c hc => by rw [isOwn_of hc] at hno; cases hno
                      refine ⟨Gfact.mono (p := fun _ => True) (fun b hb => ⟨hP.sub b hb, hsame b hb⟩) (fun _ _ => rfl) trivial (fun _ _ => trivial) (fun c hc => (hown0 c hc).elim) (hG2.facts k g hg), ?_, fun c hc => (hown0 c hc).elim⟩
                      rw [b1] at hg
                      cases h0 : look gh k with
                      | none => rw [h0] at hg; cases hg
                      | some g0 =>
                        rw [h0] at hg
                        simp only [Option.map] at hg
                        injection hg with hg
                        have := hbd k g0 h0
                        refine ⟨this.1, ?_⟩
                        rw [← hg]
                        cases memN k (othersOf gh keep)
                        · exact this.2
                        · simp only [cond_true]; rw [abs_ids]; exact this.2
                obtain ⟨R3, c1, c2, c3, c4, c5, c6⟩ := hR3
                obtain ⟨ρ1, x1⟩ := expandM_sound (R := R3) (w := w') o (F (x, xs)).1 next cs' g1 n1 ρ cells' bs' he1 c4 hnd'
                obtain ⟨ρ2, x2, x3, x4⟩ := expandR_sound (ρ := ρ1) he2 c5
                have l1 := x1.le
                have l2 := x2.le
                have hS : ∀ i, (i < next ∨ n2 ≤ i) → ρ2 i = ρ i := fun i hi => (x2.same i (hi.imp (fun h => by omega) fun h => h)).trans (x1.same i (hi.imp (fun h => h) fun h => by omega))
                have hd12 : dens ρ2 cs' = cells' := (dens_same x2.same fun i hi => .inl (x1.ids i hi).2).trans x1.vals.symm
                obtain ⟨s1, s2, s3⟩ := start_rep (fun b hb => (c2 b hb).1) x1 x2 (fun k hk => ⟨(hP.apart k (List.mem_append.2 (.inr hk))).1, c3 k (List.mem_append.2 (.inr hk))⟩)
                have hidb : ∀ i ∈ i0, (i < next ∨ n2 ≤ i) ∧ i ∈ keep := fun i hi => by
                  have hik : i ∈ keep := by rw [hkeep]; exact List.mem_append.2 (.inl hi)
                  obtain ⟨g, hg, _⟩ := hkrows i hik
                  rw [b2 i hik] at hg
                  exact ⟨(hbd i g hg).1, hik⟩
                -- the memory behind
                obtain ⟨G, hGd⟩ : ∃ G, G = applyUpd ((i0.map fun i => (i, some (Gb.blk cs'))) ++ (updOf (g1 ++ g2) ++ ((rowIds o cs).map (fun i => (i, (none : Option Gb))) ++ (match o.flat && flats rs with | true => [] | false => gone gh (othersOf gh keep))))) gh := ⟨_, rfl⟩
                have hlook : ∀ k, look G k = if k ∈ i0 then some (.blk cs') else (look (g1 ++ g2) k).elim (if k ∈ rowIds o cs then none else look base k) some := by
                  intro k
                  rw [hGd, look_applyUpd, look_append, look_append, look_append, look_mapC, look_updOf, look_mapC]
                  by_cases h1 : k ∈ i0
                  · rw [if_pos h1, if_pos h1]; rfl
                  · rw [if_neg h1, if_neg h1]
                    cases look (g1 ++ g2) k with
                    | some g => rfl
                    | none =>
                      simp only [Option.map, Option.elim]
                      by_cases h2 : k ∈ rowIds o cs
                      · rw [if_pos h2, if_pos h2]; rfl
                      · rw [if_neg h2, if_neg h2]
                        simp only
                        rw [← hfl]
                        cases fl with
                        | true => rw [hbase]; rfl
                        | false => rw [hbase, hgh2]; simp only [look_applyUpd]; cases look (gone gh (othersOf gh keep)) k <;> rfl
                have hcase : ∀ k g, look G k = some g → (k ∈ i0 ∧ g = .blk cs') ∨ (k ∉ i0 ∧ look (g1 ++ g2) k = some g) ∨ (k ∉ keep ∧ look base k = some g) := by
                  intro k g hg
                  rw [hlook] at hg
                  by_cases h1 : k ∈ i0
                  · rw [if_pos h1] at hg; injection hg with hg; exact .inl ⟨h1, hg.symm⟩
                  · rw [if_neg h1] at hg
                    cases hl : look (g1 ++ g2) k with
                    | some g' => rw [hl] at hg; injection hg with hg; subst hg; exact .inr (.inl ⟨h1, rfl⟩)
                    | none =>
                      rw [hl] at hg
                      simp only [Option.elim] at hg
                      by_cases h2 : k ∈ rowIds o cs
                      · rw [if_pos h2] at hg; cases hg
                      · rw [if_neg h2] at hg
                        exact .inr (.inr ⟨by rw [hkeep]; simp [h1, h2], hg⟩)
                have hblk : ∀ k ∈ i0, ∃ b T, b0 = [b] ∧ (ρ2 k).addr = some ⟨b, 0, none⟩ ∧ w'.heap[b]? = some (.cells (dens ρ2 cs').toArray T (0, 0)) ∧ i0 = [k] := by
                  intro k hk
                  have hheld' := hP.held
                  cases ptr with
                  | true =>
                    obtain ⟨id, b, e1, e2, ha⟩ := hp1 rfl
                    rw [e1] at hk; simp at hk; subst hk
                    obtain ⟨b', T, _, hh, e3⟩ := hheld'
                    rw [e2] at e3; injection e3 with e3; subst e3
                    exact ⟨b, T, e2, by rw [hS k (hidb k (by rw [e1]; simp)).1]; exact ha, by rw [hd12]; exact hh, e1⟩
                  | false => rw [(hp2 rfl).1] at hk; cases hk
                have hownG : ∀ k g c, look G k = some g → g.ownB ρ2 k = some c → (k ∈ i0 ∧ b0 = [c]) ∨ (k ∉ i0 ∧ look (g1 ++ g2) k = some g ∧ c ∈ bs') ∨ (k ∉ keep ∧ look gh k = some g ∧ g.ownB ρ k = some c ∧ c ∉ b0 ++ bs ∧ ¬ R3 c) := by
                  intro k g c hg hc
                  rcases hcase k g hg with ⟨h1, rfl⟩ | ⟨h1, h2⟩ | ⟨h1, h2⟩
                  · obtain ⟨b, T, e1, e2, _⟩ := hblk k h1
                    simp [Gb.ownB, e2] at hc; subst hc; exact .inl ⟨h1, e1⟩
                  · exact .inr (.inl ⟨h1, h2, s3 c ⟨k, g, h2, hc⟩⟩)
                  · obtain ⟨_, q2, q3⟩ := c6 k g h2 h1
                    rw [ownB_same (hS k q2.1)] at hc
                    exact .inr (.inr ⟨h1, (q3 c hc).1, hc, (q3 c hc).2⟩)
                have hd1 : ∀ c, c ∈ b0 → c ∉ bs' := fun c h1 h2 => (List.nodup_append.1 hP.nodup).2.2 c h1 c h2 rfl
                have hd2 : ∀ c, c ∈ bs' → c ∈ b0 ++ bs ∨ w.heap.size ≤ c := fun c hc => (hP.from_ c hc).imp (fun h => List.mem_append.2 (.inr h)) fun h => h
                have hRep : RepG R3 ρ2 G w' := by
                  refine ⟨fun k g hg => ?_, fun b hb => (c2 b hb).1, fun k g c hg hc => ?_, fun k k' g g' c hg hg' hc hc' => ?_⟩
                  · rcases hcase k g hg with ⟨h1, rfl⟩ | ⟨_, h2⟩ | ⟨h1, h2⟩
                    · obtain ⟨b, T, _, e2, e3, _⟩ := hblk k h1; exact ⟨b, T, e2, e3⟩
                    · exact s1.facts k g h2
                    · obtain ⟨q1, q2, _⟩ := c6 k g h2 h1
                      exact Gfact.mono (p := fun i => i < next ∨ n2 ≤ i) (fun _ hb => ⟨hb, rfl⟩) hS q2.1 q2.2 (fun _ _ => rfl) q1
                  · rcases hownG k g c hg hc with ⟨_, h2⟩ | ⟨_, _, h2⟩ | ⟨_, h2, h3, h4⟩
                    · have hm : c ∈ b0 ++ bs' := by rw [h2]; simp
                      exact ⟨(hP.apart c hm).1, c3 c hm⟩
                    · have hm : c ∈ b0 ++ bs' := List.mem_append.2 (.inr h2)
                      exact ⟨(hP.apart c hm).1, c3 c hm⟩
                    · exact ⟨Nat.lt_of_lt_of_le (hG.olt k g c h2 h3).1 hP.size, h4.2⟩
                  · rcases hownG k g c hg hc with ⟨h1, h2⟩ | ⟨_, h1, h2⟩ | ⟨_, h2, h3, h4, _⟩ <;> rcases hownG k' g' c hg' hc' with ⟨h1', h2'⟩ | ⟨_, h1', h2'⟩ | ⟨_, h2', h3', h4', _⟩
                    · obtain ⟨_, _, _, _, _, e⟩ := hblk k h1
                      rw [e] at h1'; simp at h1'; exact h1'.symm
                    · exact (hd1 c (by rw [h2]; simp) h2').elim
                    · exact (h4' (by rw [h2]; simp)).elim
                    · exact (hd1 c (by rw [h2']; simp) h2).elim
                    · exact s1.sep k k' g g' c h1 h1' hc hc'
                    · rcases hd2 c h2 with h5 | h5
                      · exact (h4' h5).elim
                      · have := (hG.olt k' g' c h2' h3').1; omega
                    · exact (h4 (by rw [h2']; simp)).elim
                    · rcases hd2 c h2' with h5 | h5
                      · exact (h4 h5).elim
                      · have := (hG.olt k g c h2 h3).1; omega
                    · exact hG.sep k k' g g' c h2 h2' h3 h3'
                have hExt : Ext R ρ gh w next R3 ρ2 G w' n2 := by
                  refine ⟨hP.size, hP.os, hP.tape, hP.output, fun c hc hn => hP.keep c hc fun hm => hn (hkO c hm), fun id hid => hS id hid, c1, fun b hb => (c2 b hb).2, ?_⟩
                  rintro c ⟨k, g, hg, hc⟩
                  rcases hownG k g c hg hc with ⟨_, h2⟩ | ⟨_, _, h2⟩ | ⟨_, h2, h3, _⟩
                  · exact .inl (hkO c (by rw [h2]; simp))
                  · exact (hd2 c h2).imp (hkO c) fun h => h
                  · exact .inl ⟨k, g, h2, h3⟩
                refine ⟨R3, ρ2, ?_, by simp only [← hGd]; exact hExt, by simp only [← hGd]; exact hRep⟩
                rw [hP.ret, mkRes_den hm]
                congr 2
                cases ptr with
                | true => exact x3
                | false =>
                  have hh := hP.held.1
                  rw [← hd12] at hh
                  simp only [outV, outP, List.map_cons, denPart, hh, x3, List.headD_cons]
        · cases ht

def fnM (ptr : Bool) (E : Ex) (lps : List (Nat × (St → Tree Out))) (n : Nat) (fn : Func) (o : OTy) (ts rs : List Ty) (x : OD o) (xs : TDs ts) : Tree (OD o × TDs rs) :=
  mutTree ptr E (look lps) n fn (bodyOf fn) o ts rs x xs

theorem fn_mut {ptr : Bool} {E : Ex} (hE : E.Sound) {f : FuncId} {fn : Func} (hf : E.P.funcs[f]? = some fn) (hbody : fn.body = some (bodyOf fn)) {lps : List (Nat × (St → Tree Out))} (hl : LpsOK E.P fn lps) {n : Nat} {o : OTy} {ts rs : List Ty}
    {pre : OD o × TDs ts → Prop} {F : OD o × TDs ts → OD o × TDs rs} (h : ∀ x xs, pre (x, xs) → (fnM ptr E lps n fn o ts rs x xs).all fun y => y = F (x, xs)) : MutOK ptr E.P f o ts rs pre F :=
  mut_of_tree hE hf hbody hl.loops h
attribute [irreducible] fnM

/-- rows of one's own may be parted -/
def mkExW (P : Program) (tab : List (Nat × Spec)) : Ex := { P := P, call := fun f args gh next => match look tab f with | some sp => sp args gh next | none => none, merge := true, wins := true }
theorem mkExW_sound {P : Program} {tab : List (Nat × Spec)} (h : TabOK P tab) : (mkExW P tab).Sound := mkExM_sound (P := P) (tab := tab) h
def mkExF (P : Program) (tab : List (Nat × Spec)) : Ex := { P := P, call := fun f args gh next => match look tab f with | some sp => sp args gh next | none => none, merge := true, wins := true, frz := true }
theorem mkExF_sound {P : Program} {tab : List (Nat × Spec)} (h : TabOK P tab) : (mkExF P tab).Sound := mkExM_sound (P := P) (tab := tab) h
end Sx
