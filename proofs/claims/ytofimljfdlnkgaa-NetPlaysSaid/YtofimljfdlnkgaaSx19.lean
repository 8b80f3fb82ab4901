/- A symbolic executor for the model's code: code, functions. -/
import Derived.Test.YtofimljfdlnkgaaSx18
import Derived.Scope
namespace Sx
open Go Go.RowKit

structure Out where
  kind : Nat          -- 0 normal, 1 return, k + 2: out of block k
  st : St

def kindOf : Nat → Exit
  | 0 => .normal
  | 1 => .ret
  | k + 2 => .exit k

/-! ### the ways through a statement's tests, told as one -/
def mergeS (c : Bool) : SV → SV → Option SV
  | .cbool true, .cbool true => some (.cbool true)
  | .cbool false, .cbool false => some (.cbool false)
  | .cbool true, .cbool false => some (.bool c)
  | .cbool false, .cbool true => some (.bool (!c))
  | .cbool true, .bool y => some (.bool (c || y))
  | .cbool false, .bool y => some (.bool (!c && y))
  | .bool x, .cbool true => some (.bool (!c || x))
  | .bool x, .cbool false => some (.bool (c && x))
  | .bool x, .bool y => some (.bool (bif c then x else y))
  | .cint k a, .cint k' b | .cint k a, .int k' b | .int k a, .cint k' b | .int k a, .int k' b => if k = k' then some (.int k (bif c then a else b)) else none
  | .str a, .str b => some (.str (bif c then a else b))
  | .nilp, .nilp => some .nilp
  | .nils, .nils => some .nils
  | .nilf, .nilf => some .nilf
  | .ptr i o, .ptr i' o' => bif Nat.beq i i' && Nat.beq o o' then some (.ptr i o) else none
  | .row i, .row i' => bif Nat.beq i i' then some (.row i) else none
  | .fn f [] [], .fn f' [] [] => bif Nat.beq f f' then some (.fn f [] []) else none
  | _, _ => none

def mergeSs (c : Bool) : List SV → List SV → Option (List SV)
  | [], [] => some []
  | a :: as, b :: bs =>
    match mergeS c a b with
    | none => none
    | some x => match mergeSs c as bs with | none => none | some r => some (x :: r)
  | _, _ => none

def mergeTv (c : Bool) : Tv → Tv → Option Tv
  | .one a, .one b => (mergeS c a b).map .one
  | .agg a, .agg b => (mergeSs c a b).map .agg
  | _, _ => none

def fmL {β : Type} (f : Nat → Option β) : List Nat → List (Nat × β)
  | [] => []
  | k :: r => match f k with | some v => (k, v) :: fmL f r | none => fmL f r

def conjP : List Prop → Prop
  | [] => True
  | p :: r => match r with | [] => p | _ :: _ => p ∧ conjP r

def wrapP (b : Prop) : List Prop → List Prop
  | [] => []
  | p :: r => [b → conjP (p :: r)]

def mergeT (ks : List Nat) : Tree (St × Bool) → Option (List Prop × (Nat → Option Tv))
  | .leaf (s, q) => match q with | true => some ([], fun k => look s.slots k) | false => none
  | .req p t => match mergeT ks t with | some (ps, f) => some (p :: ps, f) | none => none
  | .fork c t e =>
    match mergeT ks t, mergeT ks e with
    | some (pa, a), some (pb, b) => some (wrapP (c = true) pa ++ wrapP (c = false) pb, fun k => match a k, b k with | some x, some y => mergeTv c x y | _, _ => none)
    | _, _ => none
  | _ => none

def hasFork {α : Type} : Tree α → Bool
  | .fork _ _ _ => true
  | .req _ t => hasFork t
  | _ => false

def quietE (es : List Ent) : Bool := es.all fun e => match e.d.upd with | [] => true | _ => false

def dstsOf : List Oper → List Nat
  | [] => []
  | o :: r => match o.dst with | some d => d :: dstsOf r | none => dstsOf r

def regionT (E : Ex) (nt : Nat) (ops : Array Oper) (draw : Bool) (st : St) : Tree (St × Bool) :=
  (runOps E nt ops.toList st.gh ops.toList [] st []).bind fun r =>
    match draw with
    | true => bif flowOK ops.toList r.2.reverse && E.P.follows .mixedOrders then .leaf (r.1, quietE r.2.reverse && Nat.beq r.1.next st.next) else .fail "a region whose order matters"
    | false => .leaf (r.1, quietE r.2.reverse && Nat.beq r.1.next st.next)

def dropKs (ks : List Nat) : List (Nat × Tv) → List (Nat × Tv)
  | [] => []
  | (k, v) :: r => bif memN k ks then dropKs ks r else (k, v) :: dropKs ks r

def mapG (f : Nat → Gb → Gb) : Gh → Gh
  | [] => []
  | (k, g) :: r => (k, f k g) :: mapG f r

theorem look_mapG (f : Nat → Gb → Gb) : ∀ (gh : Gh) (k : Nat), look (mapG f gh) k = (look gh k).map (f k)
  | [], k => rfl
  | (a, g) :: r, k => by
    rw [mapG, look_cons, look_cons, look_mapG f r k]
    by_cases h : a = k
    · subst h; rw [if_pos rfl, if_pos rfl]; rfl
    · rw [if_neg h, if_neg h]

def movedOf : List Oper → Nat → Nat
  | [], k => k
  | o :: r, k =>
    match o.dst, o.op with
    | some d, .move (.tmp s) => bif Nat.beq d k then s else movedOf r k
    | _, _ => movedOf r k
def basesOf (all : List Oper) : List Oper → List Nat
  | [] => []
  | o :: r => match o.op with | .slice _ (.tmp k) _ _ none => movedOf all k :: basesOf all r | _ => basesOf all r
def twice : List Nat → List Nat
  | [] => []
  | s :: r => bif memN s r then s :: twice r else twice r
def rowsAt (st : St) : List Nat → List Nat
  | [] => []
  | s :: r => match look st.slots s with | some (.one (.row id)) => id :: rowsAt st r | _ => rowsAt st r
/-- ahead of a region that draws its order: rows of which it takes two parts are let go -/
def preF (E : Ex) (ops : Array Oper) (draw : Bool) (st : St) : St :=
  match E.frz && draw with
  | true => let C := rowsAt st (twice (basesOf ops.toList ops.toList)); ⟨st.slots, mapG (fun k g => bif memN k C then g.abs else g) st.gh, st.next⟩
  | false => st

def execRegion (E : Ex) (nt : Nat) (ops : Array Oper) (draw : Bool) (st : St) : Tree St :=
  match E.merge with
  | false =>
    (runOps E nt ops.toList st.gh ops.toList [] st []).bind fun r =>
      match draw with
      | true => bif flowOK ops.toList r.2.reverse && E.P.follows .mixedOrders then .leaf r.1 else .fail "a region whose order matters"
      | false => .leaf r.1
  | true =>
    let t := regionT E nt ops draw st
    match hasFork t with
    | false => t.bind fun r => .leaf r.1
    | true =>
      let ks := dstsOf ops.toList
      match mergeT ks t with
      | none => t.bind fun r => .leaf r.1
      | some (ps, f) =>
        let sl := fmL f ks
        bif sl.all (fun p => ltAll st.next p.2.ids) then .req (conjP ps) (.leaf ⟨sl ++ dropKs ks st.slots, st.gh, st.next⟩) else t.bind fun r => .leaf r.1

def nloops : Code → Nat
  | .seq a b | .cond _ a b => nloops a + nloops b
  | .block _ c | .scope c => nloops c
  | .loop c => nloops c + 1
  | _ => 0

def loopAt : Code → Nat → Code
  | .seq a b, j | .cond _ a b, j => bif Nat.blt j (nloops a) then loopAt a j else loopAt b (j - nloops a)
  | .block _ c, j | .scope c, j => loopAt c j
  | .loop c, j => match j with | 0 => c | j + 1 => loopAt c j
  | _, _ => .skip

def iter : Nat → (St → Tree Out) → St → Tree Out
  | 0, _, _ => .fail "a loop without a contract"
  | n + 1, f, st => (f st).bind fun o => bif Nat.beq o.kind 0 then iter n f o.st else .leaf o

def execCode (E : Ex) (nt : Nat) (loops : Nat → Option (St → Tree Out)) (n : Nat) : Code → Nat → St → Tree Out
  | .skip, _, st => .leaf ⟨0, st⟩
  | .label _, _, st => .leaf ⟨0, st⟩
  | .region _ ops draw, _, st => (execRegion E nt ops draw (preF E ops draw st)).bind fun st' => .leaf ⟨0, st'⟩
  | .seq a b, i, st => (execCode E nt loops n a i st).bind fun o => bif Nat.beq o.kind 0 then execCode E nt loops n b (i + nloops a) o.st else .leaf o
  | .cond c a b, i, st =>
    match evO st.slots c with
    | some (.one (.cbool q)) => bif q then execCode E nt loops n a i st else execCode E nt loops n b (i + nloops a) st
    | some (.one (.bool q)) => .fork q (execCode E nt loops n a i st) (execCode E nt loops n b (i + nloops a) st)
    | _ => .fail "a test that is no bool"
  | .block id c, i, st => (execCode E nt loops n c i st).bind fun o => .leaf ⟨bif Nat.beq o.kind (id + 2) then 0 else o.kind, o.st⟩
  | .scope c, i, st => execCode E nt loops n c i st
  | .loop c, i, st =>
    match loops i with
    | some sp => sp st
    | none => iter n (execCode E nt loops n c (i + 1)) st
  | .exit id, _, st => .leaf ⟨id + 2, st⟩
  | .ret, _, st => .leaf ⟨1, st⟩
  | _, _, _ => .fail "code that is not covered"

def PostC (R : Nat → Prop) (ρ : Env) (nt : Nat) (st : St) (w : World) (out : Out) : Exit → Act → World → Prop := fun e a' w' =>
  e = kindOf out.kind ∧ ∃ R' ρ', Rep R' ρ' nt out.st a' w' ∧ Ext R ρ st.gh w st.next R' ρ' out.st.gh w' out.st.next

def CodeOK (P : Program) (nt : Nat) (c : Code) (st : St) (out : Out) : Prop :=
  Bd st → Bd out.st ∧ st.next ≤ out.st.next ∧ ∀ R ρ a w, Rep R ρ nt st a w → c.wp P (PostC R ρ nt st w out) a w

def LoopsOK (P : Program) (nt : Nat) (loops : Nat → Option (St → Tree Out)) (c : Code) (i0 : Nat) : Prop :=
  ∀ j, j < nloops c → ∀ sp, loops (i0 + j) = some sp → ∀ st out, (sp st).reach out → CodeOK P nt (.loop (loopAt c j)) st out

section
variable {E : Ex} {nt : Nat} {R : Nat → Prop} {ρ : Env} {a : Act} {w : World} {st : St}

theorem rowLen_lt {st : St} (hb : Bd st) (id : Nat) (q : Nat × Nat) (h : rowLen st.gh id = some q) : id < st.next := by
  unfold rowLen at h
  cases hg : look st.gh id with
  | none => rw [hg] at h; cases h
  | some g => exact (hb.gh id g hg).1

theorem shp_lt {st : St} (hb : Bd st) : ShpB st.gh st.next := ⟨rowLen_lt hb, fun id off h => by
  simp only [sureP] at h
  cases hg : look st.gh id with
  | none => rw [hg] at h; cases h
  | some g => exact (hb.gh id g hg).1⟩

theorem region0_sound (hE : E.Sound) {id : Nat} {ops : Array Oper} {draw : Bool} {st' : St} (h : ((runOps E nt ops.toList st.gh ops.toList [] st []).bind fun r => match draw with | true => bif flowOK ops.toList r.2.reverse && E.P.follows .mixedOrders then .leaf r.1 else .fail "a region whose order matters" | false => .leaf r.1).reach st') : CodeOK E.P nt (.region id ops draw) st ⟨0, st'⟩ := by
  intro hb
  obtain ⟨⟨st1, ents⟩, h1, h2⟩ := Tree.reach_bind.1 h
  obtain ⟨es, he, hch⟩ := runOps_chain ops.toList [] st [] h1 (by intro t b h; simp [look] at h)
  have hbd := (hch.bd hb).1
  have hle := hch.le
  have hst : st1 = st' := by
    cases draw with
    | false => cases h2; rfl
    | true =>
      simp only at h2
      cases hc : flowOK ops.toList ents.reverse && E.P.follows .mixedOrders with
      | false => rw [hc] at h2; exact h2.elim
      | true => rw [hc] at h2; cases h2; rfl
  subst hst
  refine ⟨hbd, hle, fun R ρ a w hrep => ?_⟩
  cases draw with
  | false =>
    refine wp_region ?_
    have := runOps_sound hE (ops := ops) (st0 := st) (w0 := w) (R0 := R) (ρ0 := ρ) hrep.mem.shp (shp_lt hb) (st1 := st1) (ents := ents) (PostC R ρ nt st w ⟨0, st1⟩) (fun R' ρ' a' w' h1 _ h3 _ => ⟨rfl, R', ρ', h1, h3⟩)
      ops.toList 0 [] st [] R ρ a w (fun j => by simp) h1 hrep hb (by intro t b h; simp [look] at h) .refl (Nat.le_refl _)
    rw [Array.length_toList] at this
    rw [List.range_eq_range']
    exact this
  | true =>
    simp only at h2
    cases hc : flowOK ops.toList ents.reverse && E.P.follows .mixedOrders with
    | false => rw [hc] at h2; exact h2.elim
    | true =>
      rw [Bool.and_eq_true] at hc
      have hes : ents.reverse = es := by rw [he]; simp
      rw [hes] at hc
      refine wp_region_any hc.2 ?_
      have hD : ∀ j, DL (Array.replicate ops.size false) j = false := fun j => getD_replicate_false ops.size j
      have hSD : SD (DL (Array.replicate ops.size false)) 0 es st = st := SD_ge es 0 st fun j _ => hD j
      have hrep' : Rep R ρ nt st a w.drew := ⟨hrep.size, hrep.defers, hrep.slots, ⟨fun id g hg => Gfact.mono (w := w) (w' := w.drew) (p := fun _ => True) (fun b hb => ⟨hb, rfl⟩) (fun _ _ => rfl) trivial (fun _ _ => trivial) (fun _ _ => rfl) (hrep.mem.facts id g hg), hrep.mem.rlt, hrep.mem.olt, hrep.mem.sep⟩⟩
      have hx : Ext R ρ st.gh w st.next R ρ st.gh w.drew st1.next := ⟨Nat.le_refl _, rfl, rfl, rfl, fun _ _ _ => rfl, fun _ _ => rfl, fun _ h => h, fun _ h => .inl h, fun _ h => .inl h⟩
      refine flow_sound hE (shp_lt hb) hch hc.1 hb (R0 := R) (ρ0 := ρ) hrep.mem.shp (w0 := w) (PostC R ρ nt st w ⟨0, st1⟩) (fun R' ρ' a' w' h1 h3 => ⟨rfl, R', ρ', h1, h3⟩) ops.size (Array.replicate ops.size false) R ρ a w.drew (by simp) ?_ ?_ ?_ ?_ ?_ ?_
      · unfold unl
        have := List.countP_le_length (p := fun i => !(Array.replicate ops.size false).getD i true) (l := List.range (Array.replicate ops.size false).size)
        simpa using this
      · intro i o e _ hd; rw [hD] at hd; cases hd
      · rw [hSD]; exact hrep'
      · rw [hSD]; intro s v hs i hi; exact .inl (hb.slots s v hs i hi)
      · rw [hSD]; intro id g hg; exact ⟨.inl (hb.gh id g hg).1, fun i hi => .inl ((hb.gh id g hg).2 i hi)⟩
      · rw [hSD]; exact hx

theorem look_fmL {β : Type} {f : Nat → Option β} : ∀ {ks : List Nat} {k : Nat} {v : β}, look (fmL f ks) k = some v → k ∈ ks ∧ f k = some v
  | [], k, v, h => by simp [fmL, look] at h
  | a :: r, k, v, h => by
    simp only [fmL] at h
    cases hf : f a with
    | none =>
      rw [hf] at h
      obtain ⟨h1, h2⟩ := look_fmL h
      exact ⟨List.mem_cons_of_mem _ h1, h2⟩
    | some x =>
      rw [hf] at h
      simp only [look_cons] at h
      by_cases e : a = k
      · rw [if_pos e] at h; injection h with h; subst h; subst e; exact ⟨List.mem_cons_self, hf⟩
      · rw [if_neg e] at h
        obtain ⟨h1, h2⟩ := look_fmL h
        exact ⟨List.mem_cons_of_mem _ h1, h2⟩

theorem look_dropKs {ks : List Nat} : ∀ {l : List (Nat × Tv)} {k : Nat} {v : Tv}, look (dropKs ks l) k = some v → k ∉ ks ∧ look l k = some v
  | [], k, v, h => by simp [dropKs, look] at h
  | (a, x) :: r, k, v, h => by
    simp only [dropKs] at h
    cases hm : memN a ks with
    | true =>
      rw [hm] at h
      obtain ⟨h1, h2⟩ := look_dropKs h
      refine ⟨h1, ?_⟩
      rw [look_cons, if_neg (fun e => h1 (by subst e; exact memN_iff.1 hm))]; exact h2
    | false =>
      rw [hm] at h
      simp only [cond_false, look_cons] at h
      by_cases e : a = k
      · rw [if_pos e] at h; injection h with h; subst h; subst e
        exact ⟨(fun hmem => by rw [memN_iff.2 hmem] at hm; cases hm), by rw [look_cons, if_pos rfl]⟩
      · rw [if_neg e] at h
        obtain ⟨h1, h2⟩ := look_dropKs h
        exact ⟨h1, by rw [look_cons, if_neg e]; exact h2⟩

theorem mergeS_den {c : Bool} {a b v : SV} (h : mergeS c a b = some v) : ∀ ρ : Env, (bif c then a else b).den ρ = v.den ρ := by
  intro ρ
  unfold mergeS at h
  split at h
  case h_14 => injection h with h; subst h; cases c <;> rfl
  case h_15 => injection h with h; subst h; cases c <;> rfl
  case h_16 => injection h with h; subst h; cases c <;> rfl
  case h_17 => injection h with h; subst h; cases c <;> rfl
  case h_18 =>
    rename_i i o i' o'
    cases hb : Nat.beq i i' && Nat.beq o o' with
    | false => rw [hb] at h; cases h
    | true =>
      rw [hb] at h; injection h with h; subst h
      rw [Bool.and_eq_true] at hb
      rw [beq_iff.1 hb.1, beq_iff.1 hb.2]; cases c <;> rfl
  case h_19 =>
    rename_i i i'
    cases hb : Nat.beq i i' with
    | false => rw [hb] at h; cases h
    | true => rw [hb] at h; injection h with h; subst h; rw [beq_iff.1 hb]; cases c <;> rfl
  case h_20 =>
    rename_i i i'
    cases hb : Nat.beq i i' with
    | false => rw [hb] at h; cases h
    | true => rw [hb] at h; injection h with h; subst h; rw [beq_iff.1 hb]; cases c <;> rfl
  case h_21 => cases h
  all_goals first
    | (injection h with h; subst h; cases c <;> simp [SV.den])
    | (split at h
       · rename_i e; injection h with h; subst h; subst e; cases c <;> rfl
       · cases h)

theorem mergeSs_den {c : Bool} : ∀ {a b v : List SV}, mergeSs c a b = some v → ∀ ρ : Env, dens ρ (bif c then a else b) = dens ρ v
  | [], [], v, h, ρ => by simp only [mergeSs] at h; injection h with h; subst h; cases c <;> rfl
  | x :: a, y :: b, v, h, ρ => by
    simp only [mergeSs] at h
    cases hx : mergeS c x y with
    | none => rw [hx] at h; cases h
    | some z =>
      rw [hx] at h
      simp only at h
      cases hr : mergeSs c a b with
      | none => rw [hr] at h; cases h
      | some r =>
        rw [hr] at h
        simp only at h
        injection h with h; subst h
        have h1 := mergeS_den hx ρ
        have h2 := mergeSs_den hr ρ
        cases c <;> simp only [cond_true, cond_false] at h1 h2 ⊢ <;> simp only [dens, List.map_cons, h1] <;> (congr 1)
  | [], _ :: _, _, h, _ => by simp [mergeSs] at h
  | _ :: _, [], _, h, _ => by simp [mergeSs] at h

theorem mergeTv_den {c : Bool} {a b v : Tv} (h : mergeTv c a b = some v) : ∀ ρ : Env, (bif c then a else b).den ρ = v.den ρ := by
  intro ρ
  unfold mergeTv at h
  split at h
  · rename_i x y
    cases hs : mergeS c x y with
    | none => rw [hs] at h; cases h
    | some z =>
      rw [hs] at h; simp only [Option.map] at h; injection h with h; subst h
      have := mergeS_den hs ρ
      cases c <;> exact this
  · rename_i x y
    cases hs : mergeSs c x y with
    | none => rw [hs] at h; cases h
    | some z =>
      rw [hs] at h; simp only [Option.map] at h; injection h with h; subst h
      have := mergeSs_den hs ρ
      cases c <;> simp only [cond_true, cond_false] at this ⊢ <;> simp only [Tv.den, this]
  · cases h

def AllP (l : List Prop) : Prop := ∀ p ∈ l, p
theorem conjP_all : ∀ {l : List Prop}, conjP l → AllP l
  | [], _ => fun p hp => by cases hp
  | [q], h => fun p hp => by rw [List.mem_singleton] at hp; subst hp; exact h
  | q :: q' :: r, h => fun p hp => by
    rcases List.mem_cons.1 hp with rfl | hp
    · exact h.1
    · exact conjP_all (l := q' :: r) h.2 p hp

theorem wrapP_all {b : Prop} {l : List Prop} (h : AllP (wrapP b l)) (hb : b) : AllP l := by
  cases l with
  | nil => intro p hp; cases hp
  | cons q r => exact conjP_all (h _ (List.mem_singleton.2 rfl) hb)

theorem mergeT_ok {ks : List Nat} : ∀ {t : Tree (St × Bool)} {ps : List Prop} {f : Nat → Option Tv}, mergeT ks t = some (ps, f) → AllP ps →
    ∃ s, t.reach (s, true) ∧ ∀ k v, f k = some v → ∃ v', look s.slots k = some v' ∧ ∀ ρ : Env, v'.den ρ = v.den ρ
  | .leaf (s, q), ps, f, h, _ => by
    simp only [mergeT] at h
    cases q with
    | false => cases h
    | true => injection h with h; injection h with h1 h2; subst h2; exact ⟨s, rfl, fun k v hk => ⟨v, hk, fun _ => rfl⟩⟩
  | .req p t, ps, f, h, hp => by
    simp only [mergeT] at h
    cases ht : mergeT ks t with
    | none => rw [ht] at h; cases h
    | some q =>
      obtain ⟨ps', f'⟩ := q
      rw [ht] at h
      injection h with h; injection h with h1 h2; subst h1; subst h2
      obtain ⟨s, h3, h4⟩ := mergeT_ok ht (fun p hq => hp p (List.mem_cons_of_mem _ hq))
      exact ⟨s, ⟨hp p List.mem_cons_self, h3⟩, h4⟩
  | .fork c t e, ps, f, h, hp => by
    simp only [mergeT] at h
    cases ht : mergeT ks t with
    | none => rw [ht] at h; cases h
    | some q =>
      obtain ⟨pa, a⟩ := q
      rw [ht] at h
      cases he : mergeT ks e with
      | none => rw [he] at h; cases h
      | some q =>
        obtain ⟨pb, b⟩ := q
        rw [he] at h
        injection h with h; injection h with h1 h2; subst h1; subst h2
        have key : ∀ (s : St) (g : Nat → Option Tv), (∀ k v, g k = some v → ∃ v', look s.slots k = some v' ∧ ∀ ρ : Env, v'.den ρ = v.den ρ) →
            (∀ k v, (match a k, b k with | some x, some y => mergeTv c x y | _, _ => none) = some v → ∃ u, g k = some u ∧ ∀ ρ : Env, u.den ρ = v.den ρ) →
            ∀ k v, (match a k, b k with | some x, some y => mergeTv c x y | _, _ => none) = some v → ∃ v', look s.slots k = some v' ∧ ∀ ρ : Env, v'.den ρ = v.den ρ := by
          intro s g h1 h2 k v hv
          obtain ⟨u, hu, hu'⟩ := h2 k v hv
          obtain ⟨v', hv', hd⟩ := h1 k u hu
          exact ⟨v', hv', fun ρ => (hd ρ).trans (hu' ρ)⟩
        have side : ∀ k v, (match a k, b k with | some x, some y => mergeTv c x y | _, _ => none) = some v → ∃ x y, a k = some x ∧ b k = some y ∧ ∀ ρ : Env, (bif c then x else y).den ρ = v.den ρ := by
          intro k v hv
          split at hv
          · rename_i x y hx hy; exact ⟨x, y, hx, hy, mergeTv_den hv⟩
          · cases hv
        cases hc : c with
        | true =>
          subst hc
          obtain ⟨s, h3, h4⟩ := mergeT_ok ht (wrapP_all (fun p hq => hp p (List.mem_append.2 (.inl hq))) rfl)
          exact ⟨s, .inl ⟨rfl, h3⟩, key s a h4 fun k v hv => by obtain ⟨x, y, hx, hy, hd⟩ := side k v hv; exact ⟨x, hx, hd⟩⟩
        | false =>
          subst hc
          obtain ⟨s, h3, h4⟩ := mergeT_ok he (wrapP_all (fun p hq => hp p (List.mem_append.2 (.inr hq))) rfl)
          exact ⟨s, .inr ⟨rfl, h3⟩, key s b h4 fun k v hv => by obtain ⟨x, y, hx, hy, hd⟩ := side k v hv; exact ⟨y, hy, hd⟩⟩
  | .fail _, _, _, h, _ => by simp [mergeT] at h
  | .lt _ _ _, _, _, h, _ => by simp [mergeT] at h

theorem mem_dstsOf : ∀ {l : List Oper} {o : Oper} {d : Nat}, o ∈ l → o.dst = some d → d ∈ dstsOf l
  | [], _, _, h, _ => by cases h
  | x :: l, o, d, h, hd => by
    rcases List.mem_cons.1 h with e | h
    · rw [dstsOf, ← e, hd]; exact List.mem_cons_self
    · have := mem_dstsOf h hd
      rw [dstsOf]
      cases x.dst with
      | none => exact this
      | some _ => exact List.mem_cons_of_mem _ this

theorem Chain.out {ops : List Oper} {sh : Gh} : ∀ {l : List Oper} {st st1 : St} {es : List Ent}, Chain E nt ops sh l st es st1 → (∀ k, k ∉ dstsOf l → look st1.slots k = look st.slots k) ∧ (quietE es = true → ∀ id, look st1.gh id = look st.gh id)
  | _, _, _, _, .nil => ⟨fun _ _ => rfl, fun _ _ => rfl⟩
  | _, _, _, _, .cons (o := o) (r := r) (st := st) (e := e) h1 h2 h3 h4 => by
    obtain ⟨a1, a2⟩ := h4.out
    refine ⟨fun k hk => ?_, fun hq id => ?_⟩
    · have hr : k ∉ dstsOf r := fun h => hk (by simp only [dstsOf]; cases o.dst <;> simp [h])
      rw [a1 k hr]
      simp only [applyE, look_putRaw]
      rw [if_neg]
      intro hd
      rw [h1] at hd
      exact hk (mem_dstsOf List.mem_cons_self hd)
    · simp only [quietE, List.all_cons, Bool.and_eq_true] at hq
      rw [a2 hq.2 id]
      simp only [applyE]
      have hu : e.d.upd = [] := by
        have := hq.1
        cases hh : e.d.upd with
        | nil => rfl
        | cons _ _ => rw [hh] at this; cases this
      rw [hu]; rfl

theorem regionT_sound (hE : E.Sound) {id : Nat} {ops : Array Oper} {draw : Bool} {s : St} {q : Bool} (h : (regionT E nt ops draw st).reach (s, q)) :
    CodeOK E.P nt (.region id ops draw) st ⟨0, s⟩ ∧ (∀ k, k ∉ dstsOf ops.toList → look s.slots k = look st.slots k) ∧ (q = true → (∀ id, look s.gh id = look st.gh id) ∧ s.next = st.next) := by
  unfold regionT at h
  obtain ⟨⟨st1, ents⟩, h1, h2⟩ := Tree.reach_bind.1 h
  obtain ⟨es, he, hch⟩ := runOps_chain ops.toList [] st [] h1 (by intro t b h; simp [look] at h)
  have hst : st1 = s ∧ (quietE ents.reverse && Nat.beq st1.next st.next) = q := by
    cases draw with
    | false => injection h2 with h2 h3; exact ⟨h2, h3⟩
    | true =>
      simp only at h2
      cases hc : flowOK ops.toList ents.reverse && E.P.follows .mixedOrders with
      | false => rw [hc] at h2; exact h2.elim
      | true => rw [hc] at h2; injection h2 with h2 h3; exact ⟨h2, h3⟩
  obtain ⟨hst, hq⟩ := hst
  subst hst
  have hes : ents.reverse = es := by rw [he]; simp
  refine ⟨region0_sound hE (Tree.reach_bind.2 ⟨_, h1, ?_⟩), hch.out.1, fun hqt => ?_⟩
  · cases draw with
    | false => rfl
    | true =>
      simp only at h2 ⊢
      cases hc : flowOK ops.toList ents.reverse && E.P.follows .mixedOrders with
      | false => rw [hc] at h2; exact h2.elim
      | true => rfl
  · rw [hqt, Bool.and_eq_true, hes] at hq
    exact ⟨hch.out.2 hq.1, beq_iff.1 hq.2⟩

theorem execRegion_sound (hE : E.Sound) {id : Nat} {ops : Array Oper} {draw : Bool} {st' : St} (h : (execRegion E nt ops draw st).reach st') : CodeOK E.P nt (.region id ops draw) st ⟨0, st'⟩ := by
  unfold execRegion at h
  cases hm : E.merge with
  | false => rw [hm] at h; exact region0_sound hE h
  | true =>
    rw [hm] at h
    have plain : ((regionT E nt ops draw st).bind fun r => Tree.leaf r.1).reach st' → CodeOK E.P nt (.region id ops draw) st ⟨0, st'⟩ := by
      intro h
      obtain ⟨⟨s, q⟩, h1, h2⟩ := Tree.reach_bind.1 h
      cases h2
      exact (regionT_sound hE h1).1
    simp only at h
    split at h
    · exact plain h
    · split at h
      · exact plain h
      · rename_i ps f hmt
        cases hb : (fmL f (dstsOf ops.toList)).all (fun p => ltAll st.next p.2.ids) with
        | false => rw [hb] at h; exact plain h
        | true =>
          rw [hb] at h
          obtain ⟨hps, hst⟩ := h
          cases hst
          obtain ⟨s, hr, hs⟩ := mergeT_ok hmt (conjP_all hps)
          obtain ⟨c1, c2, c3⟩ := regionT_sound (id := id) hE hr
          obtain ⟨c3, c4⟩ := c3 rfl
          have hval : ∀ k v, look (fmL f (dstsOf ops.toList) ++ dropKs (dstsOf ops.toList) st.slots) k = some v → ∃ v', look s.slots k = some v' ∧ ∀ ρ : Env, v'.den ρ = v.den ρ := by
            intro k v hk
            rw [look_append] at hk
            cases hf : look (fmL f (dstsOf ops.toList)) k with
            | some u =>
              rw [hf] at hk; simp at hk; subst hk
              exact hs k u (look_fmL hf).2
            | none =>
              rw [hf] at hk
              obtain ⟨h1, h2⟩ := look_dropKs hk
              exact ⟨v, by rw [c2 k h1]; exact h2, fun _ => rfl⟩
          intro hbd
          obtain ⟨b1, n1, k1⟩ := c1 hbd
          refine ⟨⟨fun k v hk i hi => ?_, hbd.gh⟩, Nat.le_refl _, fun R ρ a w hrep => wp_mono (k1 R ρ a w hrep) ?_⟩
          · simp only at hk
            rw [look_append] at hk
            cases hf : look (fmL f (dstsOf ops.toList)) k with
            | some u =>
              rw [hf] at hk; simp at hk; subst hk
              have hmem : ∀ (l : List (Nat × Tv)), look l k = some u → (k, u) ∈ l := by
                intro l
                induction l with
                | nil => intro h; simp [look] at h
                | cons p r ih =>
                  obtain ⟨x, y⟩ := p
                  intro h
                  rw [look_cons] at h
                  by_cases e : x = k
                  · rw [if_pos e] at h; injection h with h; subst h; subst e; exact List.mem_cons_self
                  · rw [if_neg e] at h; exact List.mem_cons_of_mem _ (ih h)
              exact ltAll_iff.1 (List.all_eq_true.1 hb _ (hmem _ hf)) i hi
            | none =>
              rw [hf] at hk
              exact hbd.slots k v (look_dropKs hk).2 i hi
          · rintro e a' w' ⟨he, R', ρ', hr', hx'⟩
            refine ⟨he, R', ρ', ⟨hr'.size, hr'.defers, fun k v hk => ?_, RepG.congr (fun id => (c3 id).symm) hr'.mem⟩, ?_⟩
            · obtain ⟨v', h1, h2⟩ := hval k v hk
              rw [hr'.slots k v' h1, h2 ρ']
            · have hx2 := Ext.congr (fun id => (c3 id).symm) hx'
              simp only at hx2
              rw [c4] at hx2
              exact hx2

theorem CodeOK.seq {c1 c2 : Code} {o1 o2 : Out} (h1 : CodeOK E.P nt c1 st o1) (hk : o1.kind = 0) (h2 : CodeOK E.P nt c2 o1.st o2) : CodeOK E.P nt (.seq c1 c2) st o2 := by
  intro hb
  obtain ⟨b1, l1, k1⟩ := h1 hb
  obtain ⟨b2, l2, k2⟩ := h2 b1
  refine ⟨b2, Nat.le_trans l1 l2, fun R ρ a w hrep => wp_seq (wp_mono (k1 R ρ a w hrep) ?_)⟩
  rintro e a' w' ⟨he, R', ρ', hr', hx'⟩
  rw [hk] at he
  subst he
  refine wp_mono (k2 R' ρ' a' w' hr') ?_
  rintro e a2 w2 ⟨he, R2, ρ2, hr2, hx2⟩
  exact ⟨he, R2, ρ2, hr2, hx'.trans hx2 l1 l2⟩

theorem CodeOK.seq_exit {c1 c2 : Code} {o1 : Out} (h1 : CodeOK E.P nt c1 st o1) (hk : o1.kind ≠ 0) : CodeOK E.P nt (.seq c1 c2) st o1 := by
  intro hb
  obtain ⟨b1, l1, k1⟩ := h1 hb
  refine ⟨b1, l1, fun R ρ a w hrep => wp_seq (wp_mono (k1 R ρ a w hrep) ?_)⟩
  rintro e a' w' ⟨he, rest⟩
  have : e ≠ .normal := by
    rw [he]
    cases hkk : o1.kind with
    | zero => exact absurd hkk hk
    | succ n => cases n <;> simp [kindOf]
  cases e with
  | normal => exact absurd rfl this
  | _ => exact ⟨he, rest⟩

theorem iter_sound {c : Code} {f : St → Tree Out} (hf : ∀ st out, (f st).reach out → CodeOK E.P nt c st out) : ∀ (n : Nat) (st : St) (out : Out), (iter n f st).reach out → CodeOK E.P nt (.loop c) st out := by
  -- the loop, unrolled
  intro n st out h hb
  have main : ∀ (n : Nat) (st : St) (out : Out), (iter n f st).reach out → Bd st → Bd out.st ∧ st.next ≤ out.st.next ∧
      ∀ R ρ a w, Rep R ρ nt st a w → ∀ (b : Frame) (k : List Item) (cs : List Frame), ∃ e a' w', PostC R ρ nt st w out e a' w' ∧ Arrives E.P (lone (b.at a (.code c :: .inLoop c :: k)) cs w) b k cs e a' w' := by
    intro n
    induction n with
    | zero => intro st out h; exact h.elim
    | succ n ih =>
      intro st out h hb
      obtain ⟨o, h1, h2⟩ := Tree.reach_bind.1 h
      obtain ⟨b1, l1, k1⟩ := hf st o h1 hb
      cases hk : Nat.beq o.kind 0 with
      | false =>
        rw [hk] at h2
        cases h2
        refine ⟨b1, l1, fun R ρ a w hrep b k cs => ?_⟩
        obtain ⟨e, a', w', hq, harr⟩ := k1 R ρ a w hrep b (.inLoop c :: k) cs
        refine ⟨e, a', w', hq, .pass (x := .inLoop c) rfl (fun _ _ => .inl ?_) harr⟩
        rw [hq.1]
        have := beq_false_iff.1 hk
        cases hkk : out.kind with
        | zero => exact absurd hkk this
        | succ n => cases n <;> simp [kindOf]
      | true =>
        rw [hk] at h2
        simp only [cond_true] at h2
        obtain ⟨b2, l2, k2⟩ := ih o.st out h2 b1
        refine ⟨b2, Nat.le_trans l1 l2, fun R ρ a w hrep b k cs => ?_⟩
        obtain ⟨e, a', w', hq, harr⟩ := k1 R ρ a w hrep b (.inLoop c :: k) cs
        obtain ⟨he, R', ρ', hr', hx'⟩ := hq
        rw [beq_iff.1 hk] at he
        subst he
        obtain ⟨e2, a2, w2, ⟨he2, R2, ρ2, hr2, hx2⟩, harr2⟩ := k2 R' ρ' a' w' hr' b k cs
        exact ⟨e2, a2, w2, ⟨he2, R2, ρ2, hr2, hx'.trans hx2 l1 l2⟩, .of_steps (Steps.trans harr (.one step_inLoop)) harr2⟩
  obtain ⟨b1, l1, k1⟩ := main n st out h hb
  refine ⟨b1, l1, fun R ρ a w hrep b k cs => ?_⟩
  obtain ⟨e, a', w', hq, harr⟩ := k1 R ρ a w hrep b k cs
  exact ⟨e, a', w', hq, .of_steps (.one step_loop) harr⟩

theorem evO_val {slots : List (Nat × Tv)} (hs : ∀ s v, look slots s = some v → a.tmps[s]? = some (v.den ρ)) : ∀ x v, evO slots x = some v → a.eval x = v.den ρ := by
  intro x v h
  cases x with
  | tmp t =>
    have := hs t v h
    simp only [Act.eval, Array.getD_eq_getD_getElem?, this]; rfl
  | const c => exact (cTv_sound ρ h).1.symm
  | global g => simp [evO] at h
  | func f => simp only [evO] at h; injection h with h; subst h; rfl

theorem mapG_bd {f : Nat → Gb → Gb} (hf : ∀ k g, ∀ i ∈ (f k g).ids, i ∈ g.ids) (hb : Bd st) : Bd ⟨st.slots, mapG f st.gh, st.next⟩ := by
  refine ⟨hb.slots, fun id g hg => ?_⟩
  simp only at hg
  rw [look_mapG] at hg
  cases h0 : look st.gh id with
  | none => rw [h0] at hg; cases hg
  | some g0 =>
    rw [h0] at hg
    simp only [Option.map] at hg
    injection hg with hg
    subst hg
    exact ⟨(hb.gh id g0 h0).1, fun i hi => (hb.gh id g0 h0).2 i (hf id g0 i hi)⟩

theorem preF_ok {ops : Array Oper} {draw : Bool} {c : Code} {P : Program} {out : Out} (h : CodeOK P nt c (preF E ops draw st) out) : CodeOK P nt c st out := by
  unfold preF at h
  split at h
  · intro hb
    have hb1 : Bd ⟨st.slots, mapG (fun k g => bif memN k (rowsAt st (twice (basesOf ops.toList ops.toList))) then g.abs else g) st.gh, st.next⟩ := mapG_bd (fun k g i hi => by
      cases hk : memN k (rowsAt st (twice (basesOf ops.toList ops.toList))) with
      | true => rw [hk] at hi; simp only [cond_true] at hi; rw [abs_ids] at hi; exact hi
      | false => rw [hk] at hi; exact hi) hb
    obtain ⟨b2, n2, k2⟩ := h hb1
    refine ⟨b2, n2, fun R ρ a w hrep => ?_⟩
    obtain ⟨R2, g1, k1, k3, k4⟩ := RepG.letgo hrep.mem (gh2 := mapG (fun k g => bif memN k (rowsAt st (twice (basesOf ops.toList ops.toList))) then g.abs else g) st.gh) (fun k => memN k (rowsAt st (twice (basesOf ops.toList ops.toList)))) (fun k => look_mapG _ _ k)
    refine wp_mono (k2 R2 ρ a w ⟨hrep.size, hrep.defers, hrep.slots, g1⟩) ?_
    rintro e a' w' ⟨he, R', ρ', hr', hx'⟩
    exact ⟨he, R', ρ', hr', (Ext.letgo k1 k3 k4).trans hx' (Nat.le_refl _) n2⟩
  · exact h

theorem execCode_sound (hE : E.Sound) {loops : Nat → Option (St → Tree Out)} {n : Nat} : ∀ (c : Code) (i : Nat) (st : St) (out : Out), LoopsOK E.P nt loops c i → (execCode E nt loops n c i st).reach out → CodeOK E.P nt c st out
  | .skip, i, st, out, hl, h => by
    cases h
    exact fun hb => ⟨hb, Nat.le_refl _, fun R ρ a w hrep => wp_skip ⟨rfl, R, ρ, hrep, .refl⟩⟩
  | .label l, i, st, out, hl, h => by
    cases h
    exact fun hb => ⟨hb, Nat.le_refl _, fun R ρ a w hrep => wp_label ⟨rfl, R, ρ, hrep, .refl⟩⟩
  | .region id ops draw, i, st, out, hl, h => by
    simp only [execCode] at h
    obtain ⟨st', h1, h2⟩ := Tree.reach_bind.1 h
    cases h2
    exact preF_ok (execRegion_sound hE h1)
  | .seq c1 c2, i, st, out, hl, h => by
    simp only [execCode] at h
    obtain ⟨o, h1, h2⟩ := Tree.reach_bind.1 h
    have l1 : LoopsOK E.P nt loops c1 i := fun j hj sp hsp => by
      have := hl j (by simp only [nloops]; omega) sp hsp
      simpa only [loopAt, blt_iff.2 hj, cond_true] using this
    have l2 : LoopsOK E.P nt loops c2 (i + nloops c1) := fun j hj sp hsp => by
      have := hl (nloops c1 + j) (by simp only [nloops]; omega) sp (by rw [← Nat.add_assoc]; exact hsp)
      have hb : Nat.blt (nloops c1 + j) (nloops c1) = false := by
        cases hc : Nat.blt (nloops c1 + j) (nloops c1) with
        | false => rfl
        | true => have := blt_iff.1 hc; omega
      simpa only [loopAt, hb, cond_false, Nat.add_sub_cancel_left] using this
    have c1ok := execCode_sound hE c1 i st o l1 h1
    cases hk : Nat.beq o.kind 0 with
    | true => rw [hk] at h2; exact c1ok.seq (beq_iff.1 hk) (execCode_sound hE c2 _ o.st out l2 h2)
    | false => rw [hk] at h2; cases h2; exact c1ok.seq_exit (beq_false_iff.1 hk)
  | .cond x c1 c2, i, st, out, hl, h => by
    simp only [execCode] at h
    have l1 : LoopsOK E.P nt loops c1 i := fun j hj sp hsp => by
      have := hl j (by simp only [nloops]; omega) sp hsp
      simpa only [loopAt, blt_iff.2 hj, cond_true] using this
    have l2 : LoopsOK E.P nt loops c2 (i + nloops c1) := fun j hj sp hsp => by
      have := hl (nloops c1 + j) (by simp only [nloops]; omega) sp (by rw [← Nat.add_assoc]; exact hsp)
      have hb : Nat.blt (nloops c1 + j) (nloops c1) = false := by
        cases hc : Nat.blt (nloops c1 + j) (nloops c1) with
        | false => rfl
        | true => have := blt_iff.1 hc; omega
      simpa only [loopAt, hb, cond_false, Nat.add_sub_cancel_left] using this
    have yes : ∀ v, evO st.slots x = some v → (∀ ρ : Env, v.den ρ = .bool true) → CodeOK E.P nt c1 st out → CodeOK E.P nt (.cond x c1 c2) st out := fun v hv hd hc hb => by
      obtain ⟨b1, n1, k1⟩ := hc hb
      exact ⟨b1, n1, fun R ρ a w hrep => wp_cond_true (by rw [evO_val hrep.slots x v hv, hd]) (k1 R ρ a w hrep)⟩
    have no : ∀ v, evO st.slots x = some v → (∀ ρ : Env, v.den ρ = .bool false) → CodeOK E.P nt c2 st out → CodeOK E.P nt (.cond x c1 c2) st out := fun v hv hd hc hb => by
      obtain ⟨b1, n1, k1⟩ := hc hb
      exact ⟨b1, n1, fun R ρ a w hrep => wp_cond_false (by rw [evO_val hrep.slots x v hv, hd]) (k1 R ρ a w hrep)⟩
    split at h
    · rename_i q hv
      cases q with
      | true => exact yes _ hv (fun _ => rfl) (execCode_sound hE c1 i st out l1 h)
      | false => exact no _ hv (fun _ => rfl) (execCode_sound hE c2 _ st out l2 h)
    · rename_i q hv
      rcases h with ⟨rfl, h⟩ | ⟨rfl, h⟩
      · exact yes _ hv (fun _ => rfl) (execCode_sound hE c1 i st out l1 h)
      · exact no _ hv (fun _ => rfl) (execCode_sound hE c2 _ st out l2 h)
    · exact h.elim
  | .block id c, i, st, out, hl, h => by
    simp only [execCode] at h
    obtain ⟨o, h1, h2⟩ := Tree.reach_bind.1 h
    cases h2
    have hc := execCode_sound hE c i st o (fun j hj sp hsp => by simpa only [loopAt] using hl j (by simpa only [nloops] using hj) sp hsp) h1
    intro hb
    obtain ⟨b1, n1, k1⟩ := hc hb
    refine ⟨b1, n1, fun R ρ a w hrep => wp_block (wp_mono (k1 R ρ a w hrep) ?_)⟩
    rintro e a' w' ⟨he, rest⟩
    subst he
    cases hk : o.kind with
    | zero => rw [show Nat.beq 0 (id + 2) = false from beq_false_iff.2 (by omega)]; exact ⟨rfl, rest⟩
    | succ m =>
      cases m with
      | zero => rw [show Nat.beq (0 + 1) (id + 2) = false from beq_false_iff.2 (by omega)]; exact ⟨rfl, rest⟩
      | succ m =>
        by_cases hm : m = id
        · subst hm
          rw [show Nat.beq (m + 1 + 1) (m + 2) = true from beq_iff.2 rfl]
          simp only [kindOf, Exit.inBlock, if_true, cond_true]
          exact ⟨rfl, rest⟩
        · rw [show Nat.beq (m + 1 + 1) (id + 2) = false from beq_false_iff.2 (by omega)]
          simp only [kindOf, Exit.inBlock, if_neg hm, cond_false]
          exact ⟨rfl, rest⟩
  | .scope c, i, st, out, hl, h => by
    simp only [execCode] at h
    have hc := execCode_sound hE c i st out (fun j hj sp hsp => by simpa only [loopAt] using hl j (by simpa only [nloops] using hj) sp hsp) h
    intro hb
    obtain ⟨b1, n1, k1⟩ := hc hb
    refine ⟨b1, n1, fun R ρ a w hrep => wp_scope_straight (wp_mono (k1 R ρ a w hrep) ?_)⟩
    rintro e a' w' ⟨he, rest⟩
    cases e with
    | goto l => cases hk : out.kind with
      | zero => rw [hk] at he; cases he
      | succ m => cases m <;> (rw [hk] at he; cases he)
    | _ => exact ⟨he, rest⟩
  | .loop c, i, st, out, hl, h => by
    simp only [execCode] at h
    cases hs : loops i with
    | some sp =>
      rw [hs] at h
      have := hl 0 (by simp [nloops]) sp (by simpa using hs) st out h
      simpa only [loopAt] using this
    | none =>
      rw [hs] at h
      refine iter_sound (fun st out h => execCode_sound hE c (i + 1) st out (fun j hj sp hsp => ?_) h) n st out h
      have := hl (j + 1) (by simp only [nloops]; omega) sp (by rw [← hsp]; congr 1; omega)
      simpa only [loopAt] using this
  | .exit id, i, st, out, hl, h => by
    cases h
    exact fun hb => ⟨hb, Nat.le_refl _, fun R ρ a w hrep => wp_exit ⟨rfl, R, ρ, hrep, .refl⟩⟩
  | .ret, i, st, out, hl, h => by
    cases h
    exact fun hb => ⟨hb, Nat.le_refl _, fun R ρ a w hrep => wp_ret ⟨rfl, R, ρ, hrep, .refl⟩⟩
  | .rangeFunc .., _, _, _, _, h => h.elim
  | .goto _, _, _, _, _, h => h.elim
  | .refuse _, _, _, _, _, h => h.elim

/-! ### functions -/
def slotsOf : Nat → List Tv → List (Nat × Tv)
  | _, [] => []
  | i, v :: r => (i, v) :: slotsOf (i + 1) r

def resS (P : Program) (st : St) : List ResultVar → Option (List (Bool × List SV))
  | [] => some []
  | .tmp t :: r =>
    match look st.slots t with
    | some (.one v) => (resS P st r).map ((false, [v]) :: ·)
    | some (.agg cs) => (resS P st r).map ((true, cs) :: ·)
    | _ => none
  | .cell a t :: r =>
    match look st.slots a, sizeT P t with
    | some (.one (.ptr id off)), some n =>
      match blkAt st.gh id off n with
      | some cs => bif isAggT P t || Nat.beq n 1 then (resS P st r).map ((isAggT P t, cs) :: ·) else none
      | none => none
    | _, _ => none

def mkRes : List (Bool × List SV) → Option Tv
  | [(true, cs)] => some (.agg cs)
  | [(false, [c])] => some (.one c)
  | [_] => none
  | l => some (.tup l)

def ownKeys : Gh → List Nat
  | [] => []
  | (k, g) :: r => bif g.isOwn then k :: ownKeys r else ownKeys r

def newOnes (lo : Nat) (ids : List Nat) (gh : Gh) : List (Nat × Option Gb) :=
  match gh with
  | [] => []
  | (k, g) :: r => bif Nat.ble lo k && memN k ids then (k, some g) :: newOnes lo ids r else newOnes lo ids r

def retUpd (gh0 : Gh) (lo : Nat) (st : St) (v : Tv) : List (Nat × Option Gb) :=
  let ks := ownKeys gh0
  (ks.map fun k => (k, look st.gh k)) ++ newOnes lo (reachN st.gh 8 (v.ids ++ ks)) st.gh

def execFun (E : Ex) (loops : Nat → Option (St → Tree Out)) (n : Nat) (fn : Func) (body : Code) (args : List Tv) (gh : Gh) (next : Nat) : Tree Delta :=
  bif Nat.ble args.length fn.ntmps then
    (execCode E fn.ntmps loops n body 0 ⟨slotsOf 0 args, gh, next⟩).bind fun out =>
      bif Nat.ble out.kind 1 then
        match (resS E.P out.st fn.results.toList).bind mkRes with
        | some v => .leaf ⟨v, retUpd gh next out.st v, out.st.next⟩
        | none => .fail "results"
      else .fail "no return"
  else .fail "too many arguments"

theorem look_slotsOf : ∀ (args : List Tv) (i s : Nat) (v : Tv), look (slotsOf i args) s = some v → ∃ k, s = i + k ∧ args[k]? = some v
  | [], i, s, v, h => by simp [slotsOf, look] at h
  | x :: r, i, s, v, h => by
    simp only [slotsOf, look_cons] at h
    by_cases e : i = s
    · rw [if_pos e] at h; injection h with h; subst h; exact ⟨0, e.symm, rfl⟩
    · rw [if_neg e] at h
      obtain ⟨k, h1, h2⟩ := look_slotsOf r (i + 1) s v h
      exact ⟨k + 1, by omega, by simpa using h2⟩

def resOne (tmps : Array Value) : ResultVar → Sem Value
  | .tmp t => pure (tmps.getD t undef)
  | .cell x t => do loadVar t (← asAddr (tmps.getD x undef))

theorem results_eq (fn : Func) (tmps : Array Value) : results fn tmps = (do
    let vs ← fn.results.mapM (resOne tmps)
    pure (if h : vs.size = 1 then vs[0] else .tuple vs)) := by
  have : (fun x : ResultVar => match x with
      | .tmp t => (pure (tmps.getD t undef) : Sem Value)
      | .cell a t => do loadVar t (← asAddr (tmps.getD a undef))) = resOne tmps := by funext x; cases x <;> rfl
  rw [← this]
  rfl

theorem resS_sound (hrep : Rep R ρ nt st a w) : ∀ {rs : List ResultVar} {ps : List (Bool × List SV)}, resS E.P st rs = some ps →
    (rs.mapM (resOne a.tmps)).run E.P w = .ok (ps.map (denPart ρ)) w ∧ (∀ p ∈ ps, p.1 = false → ∃ c, p.2 = [c])
  | [], ps, h => by simp only [resS] at h; injection h with h; subst h; exact ⟨by simp, by simp⟩
  | .tmp t :: r, ps, h => by
    simp only [resS] at h
    split at h
    · rename_i v hv
      cases hr : resS E.P st r with
      | none => rw [hr] at h; cases h
      | some q =>
        rw [hr] at h
        simp only [Option.map] at h
        injection h with h; subst h
        obtain ⟨i1, i2⟩ := resS_sound hrep hr
        refine ⟨?_, fun p hp hpf => ?_⟩
        · have hgd : a.tmps.getD t undef = (Tv.one v).den ρ := by rw [Array.getD_eq_getD_getElem?, hrep.slots t _ hv, Option.getD_some]
          simp only [List.mapM_cons, resOne, Sem.run_bind, Sem.run_pure, Result.andThen_ok, hgd, i1]
          rfl
        · rcases List.mem_cons.1 hp with rfl | hp
          · exact ⟨v, rfl⟩
          · exact i2 p hp hpf
    · rename_i cs hv
      cases hr : resS E.P st r with
      | none => rw [hr] at h; cases h
      | some q =>
        rw [hr] at h
        simp only [Option.map] at h
        injection h with h; subst h
        obtain ⟨i1, i2⟩ := resS_sound hrep hr
        refine ⟨?_, fun p hp hpf => ?_⟩
        · have hgd : a.tmps.getD t undef = (Tv.agg cs).den ρ := by rw [Array.getD_eq_getD_getElem?, hrep.slots t _ hv, Option.getD_some]
          simp only [List.mapM_cons, resOne, Sem.run_bind, Sem.run_pure, Result.andThen_ok, hgd, i1]
          rfl
        · rcases List.mem_cons.1 hp with rfl | hp
          · cases hpf
          · exact i2 p hp hpf
    · cases h
  | .cell x t :: r, ps, h => by
    simp only [resS] at h
    split at h
    · rename_i id off n hv hs
      split at h
      · rename_i cs hk
        cases hb : isAggT E.P t || Nat.beq n 1 with
        | false => rw [hb] at h; cases h
        | true =>
          rw [hb] at h
          simp only [cond_true] at h
          cases hr : resS E.P st r with
          | none => rw [hr] at h; cases h
          | some q =>
            rw [hr] at h
            simp only [Option.map] at h
            injection h with h; subst h
            obtain ⟨i1, i2⟩ := resS_sound hrep hr
            obtain ⟨b, o, ha, _, hl, hc⟩ := blkAt_sound hrep.mem hk
            have h1 : isAggT E.P t = false → cs.length = 1 := fun hf => by
              rw [hf] at hb; rw [hl]; simpa using beq_iff.1 (by simpa using hb)
            refine ⟨?_, fun p hp hpf => ?_⟩
            · have hgd : a.tmps.getD x undef = (Tv.one (.ptr id off)).den ρ := by rw [Array.getD_eq_getD_getElem?, hrep.slots x _ hv, Option.getD_some]
              have hl' := run_loadVar (P := E.P) (w := w) (t := t) (b := b) (o := o + off) (cs := dens ρ cs) (by rw [dens_length, hl]; exact hs) hc (fun hf => by rw [dens_length]; exact h1 hf)
              have had : (asAddr (a.tmps.getD x undef)).run E.P w = .ok ⟨b, o + off, none⟩ w := by rw [hgd]; simp only [Tv.den, SV.den, Env.at, ha, Option.map_some, asAddr, Sem.run_pure]
              simp only [List.mapM_cons, resOne, Sem.run_bind, Sem.run_pure, Result.andThen_ok, i1, had, hl']
              congr 1
              cases hg : isAggT E.P t <;> simp [denPart]
            · rcases List.mem_cons.1 hp with rfl | hp
              · have := h1 hpf
                match cs, this with
                | [c], _ => exact ⟨c, rfl⟩
              · exact i2 p hp hpf
      · cases h
    · cases h

theorem results_sound {fn : Func} (hrep : Rep R ρ nt st a w) {v : Tv} (h : (resS E.P st fn.results.toList).bind mkRes = some v) : (results fn a.tmps).run E.P w = .ok (v.den ρ) w := by
  cases hr : resS E.P st fn.results.toList with
  | none => rw [hr] at h; cases h
  | some ps =>
    rw [hr] at h
    simp only [Option.bind] at h
    obtain ⟨h1, h2⟩ := resS_sound hrep hr
    rw [results_eq]
    simp only [Array.mapM_eq_mapM_toList, Sem.run_bind, Sem.run_map, h1, Result.andThen_ok, Sem.run_pure]
    congr 1
    match ps, h, h2 with
    | [], h, _ => simp only [mkRes] at h; injection h with h; subst h; rfl
    | [(true, cs)], h, _ => simp only [mkRes] at h; injection h with h; subst h; simp [denPart, Tv.den]
    | [(false, cs)], h, h2 =>
      obtain ⟨c, hc⟩ := h2 _ (List.mem_singleton.2 rfl) rfl
      simp only at hc
      subst hc
      simp only [mkRes] at h; injection h with h; subst h
      simp [denPart, Tv.den, dens]
    | p :: q :: r, h, _ =>
      have : v = .tup (p :: q :: r) := by
        unfold mkRes at h
        split at h
        · rename_i e; injection e with _ e; cases e
        · rename_i e; injection e with _ e; cases e
        · rename_i e; injection e with _ e; cases e
        · injection h with h; exact h.symm
      subst this
      simp [Tv.den]

theorem look_newOnes {lo : Nat} {ids : List Nat} : ∀ {gh : Gh} {k : Nat} {og : Option Gb}, look (newOnes lo ids gh) k = some og → lo ≤ k ∧ og = look gh k
  | [], k, og, h => by simp [newOnes, look] at h
  | (a, g) :: r, k, og, h => by
    simp only [newOnes] at h
    cases hb : Nat.ble lo a && memN a ids with
    | true =>
      rw [hb] at h
      simp only [cond_true, look_cons] at h
      rw [Bool.and_eq_true] at hb
      by_cases e : a = k
      · rw [if_pos e] at h; injection h with h; subst h; subst e
        exact ⟨Nat.le_of_ble_eq_true hb.1, by rw [look_cons, if_pos rfl]⟩
      · rw [if_neg e] at h
        obtain ⟨h1, h2⟩ := look_newOnes h
        exact ⟨h1, by rw [look_cons, if_neg e]; exact h2⟩
    | false =>
      rw [hb] at h
      simp only [cond_false] at h
      obtain ⟨h1, h2⟩ := look_newOnes h
      refine ⟨h1, ?_⟩
      rw [look_cons]
      by_cases e : a = k
      · -- the number is among them or it isn't: the first entry decides
        exfalso
        subst e
        rw [Bool.and_eq_false_iff] at hb
        rcases hb with hb | hb
        · have := Nat.ble_eq_true_of_le h1; rw [hb] at this; cases this
        · have hmem : ∀ (l : Gh) og, look (newOnes lo ids l) a = some og → memN a ids = true := by
            intro l
            induction l with
            | nil => intro og h; simp [newOnes, look] at h
            | cons p l ih =>
              intro og h
              obtain ⟨x, y⟩ := p
              simp only [newOnes] at h
              cases hb' : Nat.ble lo x && memN x ids with
              | true =>
                rw [hb'] at h
                simp only [cond_true, look_cons] at h
                by_cases e : x = a
                · subst e; rw [Bool.and_eq_true] at hb'; exact hb'.2
                · rw [if_neg e] at h; exact ih og h
              | false => rw [hb'] at h; exact ih og h
          rw [hmem r og h] at hb; cases hb
      · rw [if_neg e]; exact h2

theorem look_map {α : Type} (f : Nat → α) : ∀ (ks : List Nat) (k : Nat), look (ks.map fun k => (k, f k)) k = if k ∈ ks then some (f k) else none
  | [], k => by simp [look]
  | x :: r, k => by
    rw [List.map_cons, look_cons, look_map f r k]
    by_cases e : x = k
    · subst e; simp
    · rw [if_neg e]
      by_cases hm : k ∈ r
      · rw [if_pos hm, if_pos (List.mem_cons_of_mem _ hm)]
      · rw [if_neg hm, if_neg]
        intro h; rcases List.mem_cons.1 h with h | h
        · exact e h.symm
        · exact hm h

theorem mem_ownKeys : ∀ {gh : Gh} {k : Nat} {g : Gb}, look gh k = some g → g.isOwn = true → k ∈ ownKeys gh
  | (a, x) :: r, k, g, h, ho => by
    rw [look_cons] at h
    simp only [ownKeys]
    by_cases e : a = k
    · rw [if_pos e] at h; injection h with h; subst h; subst e; rw [ho]; simp
    · rw [if_neg e] at h
      have := mem_ownKeys h ho
      cases x.isOwn <;> simp [this]
  | [], k, g, h, _ => by simp [look] at h

/-- A FUNCTION. -/
theorem execFun_sound (hE : E.Sound) {loops : Nat → Option (St → Tree Out)} {n : Nat} {f : FuncId} {fn : Func} {body : Code} (hf : E.P.funcs[f]? = some fn) (hbody : fn.body = some body)
    (hl : LoopsOK E.P fn.ntmps loops body 0) {args : List Tv} {gh : Gh} {next : Nat} {d : Delta} (h : (execFun E loops n fn body args gh next).reach d)
    (hG : RepG R ρ gh w) (hids : ∀ v ∈ args, ∀ i ∈ v.ids, i < next) (hbd : ∀ id g, look gh id = some g → id < next ∧ ∀ i ∈ g.ids, i < next) :
    CallOK E.P f args R ρ gh next w d ∧ next ≤ d.next := by
  unfold execFun at h
  cases hb : Nat.ble args.length fn.ntmps with
  | false => rw [hb] at h; exact h.elim
  | true =>
    rw [hb] at h
    simp only [cond_true] at h
    have hlen := Nat.le_of_ble_eq_true hb
    obtain ⟨out, h1, h2⟩ := Tree.reach_bind.1 h
    cases hk : Nat.ble out.kind 1 with
    | false => rw [hk] at h2; exact h2.elim
    | true =>
      rw [hk] at h2
      simp only [cond_true] at h2
      have hk1 := Nat.le_of_ble_eq_true hk
      cases hres : (resS E.P out.st fn.results.toList).bind mkRes with
      | none => rw [hres] at h2; exact h2.elim
      | some v =>
        rw [hres] at h2
        cases h2
        have hb0 : Bd ⟨slotsOf 0 args, gh, next⟩ := ⟨fun s v hs i hi => by
          obtain ⟨k, _, h2⟩ := look_slotsOf args 0 s v hs
          exact hids v (List.mem_of_getElem? h2) i hi, hbd⟩
        obtain ⟨b1, l1, k1⟩ := execCode_sound hE body 0 ⟨slotsOf 0 args, gh, next⟩ out hl h1 hb0
        refine ⟨?_, l1⟩
        unfold CallOK
        obtain ⟨argv, hargv⟩ : ∃ argv, argv = (args.map (Tv.den ρ)).toArray := ⟨_, rfl⟩
        have hrep : Rep R ρ fn.ntmps ⟨slotsOf 0 args, gh, next⟩ { tmps := (args.map (Tv.den ρ)).toArray ++ Array.replicate (fn.ntmps - (args.map (Tv.den ρ)).toArray.size) undef, defers := [] } w := by
          refine ⟨by simp; omega, rfl, fun s v hs => ?_, hG⟩
          obtain ⟨k, h1, h2⟩ := look_slotsOf args 0 s v hs
          rw [Nat.zero_add] at h1
          subst h1
          have hlt := (List.getElem?_eq_some_iff.1 h2).1
          rw [Array.getElem?_append_left (by simpa using hlt)]
          simp [h2]
        refine calls_of_wp hf hbody (wp_mono (k1 R ρ _ w hrep) ?_)
        rintro e a' w' ⟨he, R', ρ', hr', hx'⟩
        have hpost : a'.defers = [] ∧ ∃ v', (results fn a'.tmps).run E.P w' = .ok v' w' ∧ ∃ R'' ρ'', Ending.returned v' = .returned (v.den ρ'') ∧ Ext R ρ gh w next R'' ρ'' (applyUpd (retUpd gh next out.st v) gh) w' out.st.next ∧
            RepG R'' ρ'' (applyUpd (retUpd gh next out.st v) gh) w' := by
          refine ⟨hr'.defers, v.den ρ', results_sound hr' hres, R', ρ', rfl, ?_⟩
          -- what the update tells
          have hcase : ∀ id g, look (applyUpd (retUpd gh next out.st v) gh) id = some g → look out.st.gh id = some g ∨ (look gh id = some g ∧ g.isOwn = false) := by
            intro id g hg
            rw [look_applyUpd] at hg
            unfold retUpd at hg
            rw [look_append, look_map] at hg
            by_cases hm : id ∈ ownKeys gh
            · rw [if_pos hm] at hg; exact .inl hg
            · rw [if_neg hm] at hg
              simp only [Option.elim] at hg
              cases hn : look (newOnes next (reachN out.st.gh 8 (v.ids ++ ownKeys gh)) out.st.gh) id with
              | some og =>
                rw [hn] at hg
                obtain ⟨_, h2⟩ := look_newOnes hn
                change og = some g at hg
                rw [← h2, hg]; exact .inl rfl
              | none =>
                rw [hn] at hg
                right
                refine ⟨hg, ?_⟩
                cases ho : g.isOwn with
                | false => rfl
                | true => exact absurd (mem_ownKeys hg ho) hm
          have hnotown : ∀ {g : Gb} {id b : Nat} {ρ : Env}, g.isOwn = false → g.ownB ρ id = some b → False := by
            intro g id b ρ h1 h2; cases g <;> simp [Gb.isOwn] at h1 <;> simp [Gb.ownB] at h2
          have hRk : ∀ b, R b → R' b ∧ w'.heap[b]? = w.heap[b]? := fun b hb => ⟨hx'.sub b hb, hx'.keep b (hG.rlt b hb) fun ⟨id, g, hg, ho⟩ => (hG.olt id g b hg ho).2 hb⟩
          have hown : ∀ id g b, look (applyUpd (retUpd gh next out.st v) gh) id = some g → g.ownB ρ' id = some b → look out.st.gh id = some g := by
            intro id g b hg ho
            rcases hcase id g hg with h | ⟨_, h⟩
            · exact h
            · exact (hnotown h ho).elim
          refine ⟨⟨hx'.size, hx'.os, hx'.tape, hx'.output, hx'.keep, hx'.env, hx'.sub, hx'.newR, fun b ⟨id, g, hg, ho⟩ => hx'.newO b ⟨id, g, hown id g b hg ho, ho⟩⟩, ?_⟩
          refine ⟨fun id g hg => ?_, hr'.mem.rlt, fun id g b hg ho => hr'.mem.olt id g b (hown id g b hg ho) ho, fun id id' g g' b h1 h2 h3 h4 => hr'.mem.sep id id' g g' b (hown id g b h1 h3) (hown id' g' b h2 h4) h3 h4⟩
          rcases hcase id g hg with h | ⟨h, hno⟩
          · exact hr'.mem.facts id g h
          · exact Gfact.mono (p := fun i => i < next) hRk (fun i hi => hx'.env i (.inl hi)) (hbd id g h).1 (hbd id g h).2 (fun b hb => (hnotown hno hb).elim) (hG.facts id g h)
        rcases Nat.lt_or_ge out.kind 1 with h0 | h0
        · have : out.kind = 0 := by omega
          rw [this] at he; subst he; exact hpost
        · have : out.kind = 1 := by omega
          rw [this] at he; subst he; exact hpost
end
end Sx
