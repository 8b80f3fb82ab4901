/- A symbolic executor for the model's code: where a loop is entered: blocks seen as blocks that hold data; what one owns, let go. -/
import Derived.Test.YtofimljfdlnkgaaSx38
namespace Sx
open Go Go.RowKit

/-- the block that a slot points to, as cells and a datum -/
def objAt (s n : Nat) (t : Ty) (st : St) : Option St :=
  match look st.slots s with
  | some (.one (.ptr id _)) =>
    match once st.gh with
    | true => some ⟨st.slots, mapG (fun k g => bif Nat.beq k id then toObj (calm st.gh) n t g else g) st.gh, st.next⟩
    | false => none
  | _ => none

/-- what a slot names, let go -/
def frzAt (s : Nat) (st : St) : Option St :=
  match look st.slots s with
  | some v => some ⟨st.slots, mapG (fun k g => bif memN k (reachN st.gh 6 v.ids) then g.abs else g) st.gh, st.next⟩
  | none => none

inductive Via where
  | obj (s n : Nat) (t : Ty)
  | frz (s : Nat)
  | row (s : Nat) (t : Ty)

def via1 : Via → St → Option St
  | .obj s n t, st => objAt s n t st
  | .frz s, st => frzAt s st
  | .row s t, st => promoB s t st

def vias : List Via → St → Option St
  | [], st => some st
  | v :: r, st => match via1 v st with | some st' => vias r st' | none => none

section
variable {R : Nat → Prop} {ρ : Env} {nt : Nat} {a : Act} {w : World} {st st' : St}

theorem toObj_ids (G : Gh) (n : Nat) (t : Ty) (g : Gb) : ∀ i ∈ (toObj G n t g).ids, i ∈ g.ids := by
  cases g with
  | blk cs =>
    simp only [toObj]
    cases Nat.beq cs.length (n + t.size) with
    | false => exact fun _ h => h
    | true =>
      simp only [cond_true]
      cases collect G t (cs.drop n) with
      | none => exact fun _ h => h
      | some y =>
        intro i hi
        simp only [Gb.ids, idsOf, List.mem_flatMap] at hi ⊢
        obtain ⟨c, hc, hi⟩ := hi
        exact ⟨c, List.mem_of_mem_take hc, hi⟩
  | _ => exact fun _ h => h

theorem via1_sound {v : Via} (h : via1 v st = some st') (hb : Bd st) : Bd st' ∧ st.next ≤ st'.next ∧ ∀ R ρ a w, Rep R ρ nt st a w → ∃ R' ρ', Rep R' ρ' nt st' a w ∧ Ext R ρ st.gh w st.next R' ρ' st'.gh w st'.next := by
  cases v with
  | obj s n t =>
    simp only [via1, objAt] at h
    split at h
    · rename_i id off hs
      split at h
      · rename_i ho
        injection h with h; subst h
        refine ⟨mapG_bd (fun k g i hi => ?_) hb, Nat.le_refl _, fun R ρ a w hrep => ?_⟩
        · cases hk : Nat.beq k id with
          | true => rw [hk] at hi; exact toObj_ids _ _ _ g i hi
          | false => rw [hk] at hi; exact hi
        · obtain ⟨g1, g2⟩ := RepG.objs hrep.mem ho n t (gh2 := mapG (fun k g => bif Nat.beq k id then toObj (calm st.gh) n t g else g) st.gh) (fun k => Nat.beq k id) (fun k => look_mapG _ _ k)
          exact ⟨R, ρ, ⟨hrep.size, hrep.defers, hrep.slots, g1⟩, ⟨Nat.le_refl _, rfl, rfl, rfl, fun _ _ _ => rfl, fun _ _ => rfl, fun _ h => h, fun _ h => .inl h, fun b hb => .inl (g2 b hb)⟩⟩
      · cases h
    · cases h
  | frz s =>
    simp only [via1, frzAt] at h
    split at h
    · rename_i v hs
      injection h with h; subst h
      refine ⟨mapG_bd (fun k g i hi => ?_) hb, Nat.le_refl _, fun R ρ a w hrep => ?_⟩
      · cases hk : memN k (reachN st.gh 6 v.ids) with
        | true => rw [hk] at hi; simp only [cond_true] at hi; rw [abs_ids] at hi; exact hi
        | false => rw [hk] at hi; exact hi
      · obtain ⟨R2, g1, k1, k2, k3⟩ := RepG.letgo hrep.mem (gh2 := mapG (fun k g => bif memN k (reachN st.gh 6 v.ids) then g.abs else g) st.gh) (fun k => memN k (reachN st.gh 6 v.ids)) (fun k => look_mapG _ _ k)
        exact ⟨R2, ρ, ⟨hrep.size, hrep.defers, hrep.slots, g1⟩, Ext.letgo k1 k2 k3⟩
    · cases h
  | row s t =>
    simp only [via1] at h
    obtain ⟨h1, h2⟩ := promo_bd h hb
    exact ⟨h1, h2, fun R ρ a w hrep => by
      obtain ⟨ρ', k1, k2⟩ := promo_sound h hb hrep
      exact ⟨R, ρ', k1, k2⟩⟩

theorem vias_ok {P : Program} {c : Code} {out : Out} : ∀ (l : List Via) (st st' : St), vias l st = some st' → CodeOK P nt c st' out → CodeOK P nt c st out
  | [], st, st', h, hc => by simp only [vias] at h; injection h with h; subst h; exact hc
  | v :: r, st, st', h, hc => by
    simp only [vias] at h
    split at h
    · rename_i st1 h1
      have ih := vias_ok r st1 st' h hc
      intro hb
      obtain ⟨hb1, hle, hs⟩ := via1_sound (nt := nt) h1 hb
      obtain ⟨b2, n2, k2⟩ := ih hb1
      refine ⟨b2, Nat.le_trans hle n2, fun R ρ a w hrep => ?_⟩
      obtain ⟨R1, ρ1, hr1, hx1⟩ := hs R ρ a w hrep
      refine wp_mono (k2 R1 ρ1 a w hr1) ?_
      rintro e a' w' ⟨he, R', ρ', hr', hx'⟩
      exact ⟨he, R', ρ', hr', hx1.trans hx' hle n2⟩
    · cases h
end

/-- a loop's contract behind such looks, at N blocks -/
def viaV (N : Nat) (l : List Via) (sp : St → Tree Out) : St → Tree Out := fun st =>
  match vias l st with
  | some st' => (match Nat.ble st'.next N with | true => sp ⟨st'.slots, st'.gh, N⟩ | false => .fail "too many blocks at a loop")
  | none => .fail "no such look"

theorem viaV_ok {P : Program} {nt N : Nat} {c : Code} {l : List Via} {sp : St → Tree Out} (h : ∀ st out, (sp st).reach out → CodeOK P nt c st out) : ∀ st out, (viaV N l sp st).reach out → CodeOK P nt c st out := by
  intro st out hr
  unfold viaV at hr
  split at hr
  · rename_i st' hp
    cases hb : Nat.ble st'.next N with
    | false => rw [hb] at hr; exact hr.elim
    | true => rw [hb] at hr; exact vias_ok l st st' hp (pad_ok (Nat.le_of_ble_eq_true hb) (h _ _ hr))
  · exact hr.elim

/-- an object's datum -/
def datO (st : St) (id : Nat) (t : Ty) : Option (TD t) :=
  match look st.gh id with
  | some (.obj _ t' x) => if h : t' = t then some (h ▸ x) else none
  | _ => none
/-- the cells ahead of it -/
def preG (st : St) (id : Nat) : Option (List SV) := match look st.gh id with | some (.obj cs _ _) => some cs | _ => none
def intO (st : St) (id k : Nat) : Option Int := svI ((preG st id).bind (·[k]?))
end Sx
