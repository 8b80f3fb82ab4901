/- A symbolic executor for the model's code: a slice's literal, seen as a row of one's own, where a loop is entered. -/
import Derived.Test.YtofimljfdlnkgaaSx29
namespace Sx
open Go Go.RowKit

def promo (s : Nat) (t : Ty) (st : St) : Option St :=
  match look st.slots s with
  | some (.one v) =>
    match dstOf (st.gh.filter fun p => memN p.1 v.ids || !p.2.isOwn) t v with
    | some (d, xs) => some ⟨(s, .one (.row st.next)) :: erase s st.slots, (st.next, .own t xs) :: dropId d st.gh, st.next + 1⟩
    | none => none
  | _ => none

def promoB (s : Nat) (t : Ty) (st : St) : Option St := match once st.gh with | true => promo s t st | false => none

section
variable {R : Nat → Prop} {ρ : Env} {nt : Nat} {a : Act} {w : World} {st st' : St}

theorem promo_bd {s : Nat} {t : Ty} (h : promoB s t st = some st') (hb : Bd st) : Bd st' ∧ st.next ≤ st'.next := by
  unfold promoB at h
  split at h
  · unfold promo at h
    split at h
    · rename_i v hv
      split at h
      · rename_i d xs hd
        injection h with h; subst h
        refine ⟨⟨fun k v' hk i hi => ?_, fun id g hg => ?_⟩, Nat.le_succ _⟩
        · simp only at hk
          rw [look_cons, look_erase] at hk
          by_cases e : s = k
          · rw [if_pos e] at hk; injection hk with hk; subst hk; simp [Tv.ids, SV.ids] at hi; subst hi; exact Nat.lt_succ_self _
          · rw [if_neg e, if_neg e] at hk; exact Nat.lt_succ_of_lt (hb.slots k v' hk i hi)
        · simp only at hg
          rw [look_cons] at hg
          by_cases e : st.next = id
          · rw [if_pos e] at hg; injection hg with hg; subst hg; subst e; exact ⟨Nat.lt_succ_self _, by simp [Gb.ids]⟩
          · rw [if_neg e] at hg
            have hg := (dropId_sub hg).1
            exact ⟨Nat.lt_succ_of_lt (hb.gh id g hg).1, fun i hi => Nat.lt_succ_of_lt ((hb.gh id g hg).2 i hi)⟩
      · cases h
    · cases h
  · cases h

theorem promo_sound {s : Nat} {t : Ty} (h : promoB s t st = some st') (hb : Bd st) (hrep : Rep R ρ nt st a w) : ∃ ρ', Rep R ρ' nt st' a w ∧ Ext R ρ st.gh w st.next R ρ' st'.gh w st'.next := by
  unfold promoB at h
  split at h
  · rename_i ho
    unfold promo at h
    split at h
    · rename_i v hv
      split at h
      · rename_i d xs hd
        injection h with h; subst h
        let gp := st.gh.filter fun p => memN p.1 v.ids || !p.2.isOwn
        have hsub : ∀ id g, look gp id = some g → look st.gh id = some g ∧ (memN id v.ids || !g.isOwn) = true := fun id g hg =>
          look_filter _ (fun u v' hu hv' => by rw [once_mem ho hu hv']) hg
        have hGp : RepG R ρ gp w := hrep.mem.without fun i g h => (hsub i g h).1
        obtain ⟨A, sLen, sCap, e1, e2, e3, e4, e5⟩ := dstOf_sound hGp hd
        have hnoOwn : ∀ b, ¬ OwnB ρ (dropId d gp) b := by
          rintro b ⟨id, g, hg, hob⟩
          obtain ⟨h1, h2⟩ := dropId_sub hg
          obtain ⟨h3, h4⟩ := hsub id g h1
          have hown : g.isOwn = true := by cases g <;> simp [Gb.ownB] at hob <;> rfl
          rw [hown] at h4
          simp only [Bool.not_true, Bool.or_false] at h4
          have hmem := memN_iff.1 h4
          -- the value's number is what is taken away
          cases v <;> simp only [dstOf] at hd <;> try (cases hd; done)
          · simp [SV.ids] at hmem
          · rename_i i
            simp [SV.ids] at hmem
            subst hmem
            split at hd
            · rename_i t0 ys hl
              cases hc : castL t0 t ys with
              | none => rw [hc] at hd; cases hd
              | some zs => rw [hc] at hd; simp at hd; exact h2 hd.1.symm
            · cases hd
          · rename_i i off len cap
            simp [SV.ids] at hmem
            subst hmem
            cases hq : Nat.beq off 0 && Nat.beq len cap with
            | false => rw [hq] at hd; cases hd
            | true =>
              rw [hq] at hd
              simp only [cond_true] at hd
              split at hd
              · rename_i cs hl
                cases hq2 : Nat.beq cs.length (len * t.size) with
                | false => rw [hq2] at hd; cases hd
                | true =>
                  rw [hq2] at hd
                  simp only [cond_true] at hd
                  cases hc : collectN (collect (erase id gp) t) t.size len cs with
                  | none => rw [hc] at hd; cases hd
                  | some zs => rw [hc] at hd; simp at hd; exact h2 hd.1.symm
              · cases hd
          · rename_i i lo len sz
            simp [SV.ids] at hmem
            subst hmem
            cases hq : Nat.beq sz t.size with
            | false => rw [hq] at hd; cases hd
            | true =>
              rw [hq] at hd
              simp only [cond_true] at hd
              split at hd
              · rename_i t0 ys hl
                cases hc : castL t0 t ((ys.drop lo).take len) with
                | none => rw [hc] at hd; cases hd
                | some zs => rw [hc] at hd; simp at hd; exact h2 hd.1.symm
              · cases hd
        have hRp : ∀ b, Rplus R ρ (dropId d gp) b → R b := fun b hb => hb.elim (fun h => h) fun h => (hnoOwn b h).elim
        have hS := Env.set_same ρ st.next ⟨A, sLen, sCap⟩
        have hbd1 : ∀ id g, look (dropId d st.gh) id = some g → (id < st.next ∨ st.next + 1 ≤ id) ∧ ∀ i ∈ g.ids, i < st.next ∨ st.next + 1 ≤ i := fun id g hg =>
          ⟨.inl (hb.gh id g (dropId_sub hg).1).1, fun i hi => .inl ((hb.gh id g (dropId_sub hg).1).2 i hi)⟩
        have hG1 : RepG R ρ (dropId d st.gh) w := hrep.mem.without fun i g h => (dropId_sub h).1
        have hrow : OwnRow R w (ρ.set st.next ⟨A, sLen, sCap⟩) st.next t xs := by
          refine ⟨by rw [Env.set_at]; exact e2, by rw [Env.set_at, e2]; exact e3, ?_⟩
          rcases e5 with ⟨q1, q2, q3⟩ | ⟨b, off, cur, T, q1, q2, q3, q4, q5, q6, q7⟩
          · refine .inl ⟨by rw [Env.set_at]; exact q1, ?_, by rw [Env.set_at]; exact q3⟩
            exact List.eq_nil_of_length_eq_zero (by omega)
          · refine .inr ⟨b, off, cur, T, by rw [Env.set_at]; exact q1, q2, by rw [Env.set_at]; exact q6, fun i x hx => ?_⟩
            obtain ⟨c, c1, c2, c3⟩ := q7 i x hx
            exact ⟨c, c1, c2, ReadsC.mono (fun b hb => ⟨hRp b hb, rfl⟩) _ _ _ c3⟩
        have hdrop : ∀ b, OwnB ρ gp b → OwnB ρ st.gh b := fun b ⟨id, g, hg, hb⟩ => ⟨id, g, (hsub id g hg).1, hb⟩
        have hno1 : ∀ b, A = some ⟨b, (A.map (·.off)).getD 0, none⟩ → OwnB ρ gp b → ¬ OwnB ρ (dropId d st.gh) b := by
          rintro b hA ⟨id, g, hg, hob⟩ ⟨id', g', hg', hob'⟩
          obtain ⟨h1, h2⟩ := dropId_sub hg'
          have heq := hrep.mem.sep id id' g g' b (hsub id g hg).1 h1 hob hob'
          subst heq
          exact hnoOwn b ⟨id, g, by
            have hl : look (dropId d gp) id = look gp id := by
              cases d with
              | none => rfl
              | some k => simp only [dropId, look_erase]; rw [if_neg (fun e => h2 (congrArg some e))]
            rw [hl]; exact hg, hob⟩
        have hrepn := RepG.addOwn (w' := w) (t := t) (zs := xs) (S := ⟨A, sLen, sCap⟩) hG1 hbd1 (fun _ _ => rfl) (Nat.le_refl _) hrow (by
          intro a' ha'
          rcases e5 with ⟨q1, _, _⟩ | ⟨b, off, cur, T, q1, q2, q3, q4, q5, q6, q7⟩
          · rw [q1] at ha'; cases ha'
          · have ha2 : A = some a' := ha'
            rw [q1] at ha2; injection ha2 with ha2; subst ha2
            exact ⟨(Array.getElem?_eq_some_iff.1 q2).1, q4, hno1 b (by rw [q1]; rfl) q3⟩)
        have hlook : ∀ id, look ((st.next, Gb.own t xs) :: dropId d st.gh) id = look ((st.next, Gb.own t xs) :: erase st.next (dropId d st.gh)) id := by
          intro id
          rw [look_cons, look_cons, look_erase]
          by_cases e : st.next = id
          · rw [if_pos e, if_pos e]
          · rw [if_neg e, if_neg e, if_neg e]
        refine ⟨ρ.set st.next ⟨A, sLen, sCap⟩, ⟨hrep.size, hrep.defers, fun k v' hk => ?_, RepG.congr hlook hrepn⟩, ⟨Nat.le_refl _, rfl, rfl, rfl, fun _ _ _ => rfl, fun id hid => ?_, fun _ h => h, fun _ h => .inl h, fun b hb' => ?_⟩⟩
        · simp only at hk
          rw [look_cons, look_erase] at hk
          by_cases e : s = k
          · rw [if_pos e] at hk; injection hk with hk; subst hk; subst e
            rw [hrep.slots s _ hv]
            simp only [Tv.den, SV.den, Env.set_at]
            exact congrArg some e1
          · rw [if_neg e, if_neg e] at hk
            rw [Tv.den_same hS fun i hi => .inl (hb.slots k v' hk i hi)]
            exact hrep.slots k v' hk
        · exact hS id (hid.imp (fun h => h) fun h => h)
        · obtain ⟨id, g, hg, hob⟩ := hb'
          simp only at hg
          rw [look_cons] at hg
          by_cases e : st.next = id
          · rw [if_pos e] at hg; injection hg with hg; subst hg; subst e
            rcases e5 with ⟨q1, _, _⟩ | ⟨b', off, cur, T, q1, q2, q3, q4, q5, q6, q7⟩
            · simp [Gb.ownB, Env.set_at, q1] at hob
            · simp [Gb.ownB, Env.set_at, q1] at hob; subst hob; exact .inl (hdrop _ q3)
          · rw [if_neg e] at hg
            have h1 := (dropId_sub hg).1
            rw [ownB_same (hS id (.inl (hb.gh id g h1).1))] at hob
            exact .inl ⟨id, g, h1, hob⟩
      · cases h
    · cases h
  · cases h

def promos : List (Nat × Ty) → St → Option St
  | [], st => some st
  | (s, t) :: r, st => match promoB s t st with | some st' => promos r st' | none => none

theorem promos_ok {P : Program} {c : Code} {out : Out} : ∀ (l : List (Nat × Ty)) (st st' : St), promos l st = some st' → CodeOK P nt c st' out → CodeOK P nt c st out
  | [], st, st', h, hc => by simp only [promos] at h; injection h with h; subst h; exact hc
  | (s, t) :: r, st, st', h, hc => by
    simp only [promos] at h
    split at h
    · rename_i st1 h1
      have ih := promos_ok r st1 st' h hc
      intro hb
      obtain ⟨hb1, hle⟩ := promo_bd h1 hb
      obtain ⟨b2, n2, k2⟩ := ih hb1
      refine ⟨b2, Nat.le_trans hle n2, fun R ρ a w hrep => ?_⟩
      obtain ⟨ρ1, hr1, hx1⟩ := promo_sound h1 hb hrep
      refine wp_mono (k2 R ρ1 a w hr1) ?_
      rintro e a' w' ⟨he, R', ρ', hr', hx'⟩
      exact ⟨he, R', ρ', hr', hx1.trans hx' hle n2⟩
    · cases h
end

/-- a loop's contract behind such a look -/
def viaP (l : List (Nat × Ty)) (sp : St → Tree Out) : St → Tree Out := fun st =>
  match promos l st with
  | some st' => sp st'
  | none => .fail "no such literal"

theorem viaP_ok {P : Program} {nt : Nat} {c : Code} {l : List (Nat × Ty)} {sp : St → Tree Out} (h : ∀ st out, (sp st).reach out → CodeOK P nt c st out) : ∀ st out, (viaP l sp st).reach out → CodeOK P nt c st out := by
  intro st out hr
  unfold viaP at hr
  split at hr
  · rename_i st' hp
    exact promos_ok l st st' hp (h st' out hr)
  · exact hr.elim
end Sx
