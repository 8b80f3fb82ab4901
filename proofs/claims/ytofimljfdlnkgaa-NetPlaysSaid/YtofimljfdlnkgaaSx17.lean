/- A symbolic executor for the model's code: a region that draws its order: whatever the order, it comes to what the order of the text comes to. -/
import Derived.Test.YtofimljfdlnkgaaSx16
namespace Sx
open Go Go.RowKit

/-! ### who must come ahead of whom -/
def predMask (acc : List Nat) : List Edge → Nat
  | [] => 0
  | e :: r => bif Region.binds .any e then (2 ^ e.on ||| acc.getD e.on 0) ||| predMask acc r else predMask acc r

def ancL : List Oper → List Nat → List Nat
  | [], acc => acc
  | o :: r, acc => ancL r (acc ++ [predMask acc o.after.toList])

inductive Anc (ops : List Oper) : Nat → Nat → Prop
  | base {i : Nat} {o : Oper} {e : Edge} : ops[i]? = some o → e ∈ o.after.toList → Region.binds .any e = true → Anc ops e.on i
  | step {i j : Nat} {o : Oper} {e : Edge} : ops[i]? = some o → e ∈ o.after.toList → Region.binds .any e = true → Anc ops j e.on → Anc ops j i

theorem predMask_sound {ops : List Oper} {acc : List Nat} (hacc : ∀ i m j, acc[i]? = some m → m.testBit j = true → Anc ops j i) {i : Nat} {o : Oper} (ho : ops[i]? = some o) :
    ∀ (l : List Edge), (∀ e ∈ l, e ∈ o.after.toList) → ∀ j, (predMask acc l).testBit j = true → Anc ops j i
  | [], _, j, h => by simp [predMask] at h
  | e :: r, hl, j, h => by
    simp only [predMask] at h
    have hr := predMask_sound hacc ho r (fun x hx => hl x (List.mem_cons_of_mem _ hx)) j
    cases hb : Region.binds .any e with
    | false => rw [hb] at h; exact hr h
    | true =>
      rw [hb] at h
      simp only [cond_true, Nat.testBit_or, Bool.or_eq_true] at h
      rcases h with (h | h) | h
      · rw [Nat.testBit_two_pow] at h
        have : e.on = j := by simpa using h
        subst this
        exact .base ho (hl e (List.mem_cons_self)) hb
      · cases ha : acc[e.on]? with
        | none => simp [List.getD, ha] at h
        | some m => simp only [List.getD, ha, Option.getD_some] at h; exact .step ho (hl e (List.mem_cons_self)) hb (hacc _ m j ha h)
      · exact hr h

theorem ancL_sound {ops : List Oper} : ∀ (l pre : List Oper) (acc : List Nat), pre ++ l = ops → acc.length = pre.length → (∀ i m j, acc[i]? = some m → m.testBit j = true → Anc ops j i) →
    ∀ i m j, (ancL l acc)[i]? = some m → m.testBit j = true → Anc ops j i
  | [], pre, acc, _, _, hacc => hacc
  | o :: l, pre, acc, he, hl, hacc => by
    simp only [ancL]
    refine ancL_sound l (pre ++ [o]) _ (by simpa using he) (by simp [hl]) ?_
    intro i m j hi hm
    by_cases hlt : i < acc.length
    · rw [List.getElem?_append_left hlt] at hi; exact hacc i m j hi hm
    · rw [List.getElem?_append_right (by omega)] at hi
      have h0 : i - acc.length = 0 := by
        rcases Nat.eq_zero_or_pos (i - acc.length) with h | h
        · exact h
        · rw [List.getElem?_eq_none (by simp; omega)] at hi; cases hi
      rw [h0] at hi
      simp at hi
      subst hi
      have hie : i = pre.length := by omega
      have ho : ops[i]? = some o := by rw [← he, hie]; simp
      exact predMask_sound hacc ho _ (fun e he => he) j hm

/-! ### what two operations have to do with one another -/
def disj (a b : List Nat) : Bool := a.all fun i => !memN i b
theorem disj_iff {a b : List Nat} : disj a b = true ↔ ∀ i ∈ a, i ∉ b := by
  simp only [disj, List.all_eq_true, Bool.not_eq_true']
  constructor
  · intro h i hi hb; have := h i hi; rw [memN_iff.2 hb] at this; cases this
  · intro h i hi
    cases hm : memN i b with
    | false => rfl
    | true => exact absurd (memN_iff.1 hm) (h i hi)

def keysOf {α : Type} (l : List (Nat × α)) : List Nat := l.map (·.1)

def mentU : List (Nat × Option Gb) → List Nat
  | [] => []
  | (k, some g) :: r => k :: (g.ids ++ mentU r)
  | (k, none) :: r => k :: mentU r

def optL (d : Option Nat) : List Nat := match d with | some x => [x] | none => []

def outOf (lo hi : Nat) (l : List Nat) : Bool := l.all fun i => Nat.blt i lo || Nat.ble hi i

def pairOK (x y : Ent) : Bool :=
  disj (optL x.o.dst) (optL y.o.dst) && disj (optL x.o.dst) y.uses && disj (optL y.o.dst) x.uses &&
  disj (keysOf x.d.upd) (keysOf y.dom) && disj (keysOf y.d.upd) (keysOf x.dom) && disj (keysOf x.d.upd) (keysOf y.d.upd) &&
  outOf x.st.next x.d.next (y.d.val.ids ++ mentU y.d.upd)

def earlierOK (y : Ent) (m : Nat) : List Ent → Nat → Bool
  | [], _ => true
  | x :: r, i => (m.testBit i || pairOK x y) && earlierOK y m r (i + 1)

def flowGo (masks : List Nat) (done : List Ent) : List Ent → Bool
  | [] => true
  | y :: r => earlierOK y (masks.getD done.length 0) done 0 && flowGo masks (done ++ [y]) r

def edgesOK : Nat → List Oper → Bool
  | _, [] => true
  | i, o :: r => (o.after.toList.all fun e => !Region.binds .any e || Nat.blt e.on i) && edgesOK (i + 1) r

def flowOK (ops : List Oper) (es : List Ent) : Bool := edgesOK 0 ops && flowGo (ancL ops []) [] es

theorem earlierOK_sound {y : Ent} {m : Nat} : ∀ {l : List Ent} {k : Nat}, earlierOK y m l k = true → ∀ i x, l[i]? = some x → m.testBit (k + i) = true ∨ pairOK x y = true
  | z :: r, k, h, i, x, hx => by
    simp only [earlierOK, Bool.and_eq_true, Bool.or_eq_true] at h
    cases i with
    | zero => simp at hx; subst hx; exact h.1
    | succ i =>
      rw [List.getElem?_cons_succ] at hx
      have := earlierOK_sound h.2 i x hx
      rwa [show k + 1 + i = k + (i + 1) by omega] at this
  | [], k, h, i, x, hx => by simp at hx

theorem flowGo_sound {masks : List Nat} : ∀ {l done : List Ent}, flowGo masks done l = true → ∀ i j x y, i < j → (done ++ l)[i]? = some x → (done ++ l)[j]? = some y → done.length ≤ j → (masks.getD j 0).testBit i = true ∨ pairOK x y = true
  | [], done, h, i, j, x, y, hij, hx, hy, hl => by
    rw [List.append_nil] at hy
    rw [List.getElem?_eq_none hl] at hy; cases hy
  | z :: r, done, h, i, j, x, y, hij, hx, hy, hl => by
    simp only [flowGo, Bool.and_eq_true] at h
    by_cases he : j = done.length
    · subst he
      rw [List.getElem?_append_right (Nat.le_refl _)] at hy
      simp at hy; subst hy
      rw [List.getElem?_append_left hij] at hx
      have := earlierOK_sound h.1 i x hx
      rwa [Nat.zero_add] at this
    · have e : done ++ z :: r = (done ++ [z]) ++ r := by simp
      rw [e] at hx hy
      exact flowGo_sound h.2 i j x y hij hx hy (by simp; omega)

theorem edgesOK_sound : ∀ {l : List Oper} {k : Nat}, edgesOK k l = true → ∀ i o, l[i]? = some o → ∀ e ∈ o.after.toList, Region.binds .any e = true → e.on < k + i
  | z :: r, k, h, i, o, ho, e, he, hb => by
    simp only [edgesOK, Bool.and_eq_true] at h
    cases i with
    | zero =>
      simp at ho; subst ho
      have := List.all_eq_true.1 h.1 e he
      rw [hb] at this
      simp only [Bool.not_true, Bool.false_or] at this
      exact blt_iff.1 this
    | succ i =>
      rw [List.getElem?_cons_succ] at ho
      have := edgesOK_sound h.2 i o ho e he hb
      omega
  | [], k, h, i, o, ho, e, he, hb => by simp at ho

/-! ### the way through the region, its records in order -/
def GuardT (ops : List Oper) (o : Oper) (slots : List (Nat × Tv)) (run : Bool) : Prop :=
  match o.guard with
  | none => run = true
  | some (j, want) => ∃ t v, (ops[j]?).bind (·.dst) = some t ∧ look slots t = some v ∧ ((∃ b, (v = .one (.cbool b) ∨ v = .one (.bool b)) ∧ run = (b == want)) ∨ (v = .undef ∧ run = false))

structure EntOK (E : Ex) (nt : Nat) (ops : List Oper) (sh : Gh) (e : Ent) : Prop where
  guard : GuardT ops e.o e.st.slots e.run
  uses : e.uses = usesOf ops e.o
  dec : DecOK e.dec e.st.slots
  dst : ∀ d, e.o.dst = some d → d < nt
  le : e.st.next ≤ e.d.next
  dom : ∀ id g, look e.dom id = some g → look e.st.gh id = some g
  vlt : ∀ i ∈ e.d.val.ids, i < e.d.next
  upd : ∀ id og, look e.d.upd id = some og → ((∃ g, look e.dom id = some g) ∨ (e.st.next ≤ id ∧ id < e.d.next)) ∧ (∀ g, og = some g → ∀ i ∈ g.ids, i < e.d.next)
  ran : e.run = true → (stepE E sh e.o (evD e.uses e.dec e.st.slots) e.dom e.st.next).reach e.d
  skipped : e.run = false → e.d.val = .undef ∧ e.d.upd = [] ∧ e.d.next = e.st.next

def putRaw (slots : List (Nat × Tv)) (dst : Option Nat) (v : Tv) : List (Nat × Tv) :=
  match dst with
  | none => slots
  | some d => (d, v) :: erase d slots

theorem look_putRaw (slots : List (Nat × Tv)) (dst : Option Nat) (v : Tv) (s : Nat) : look (putRaw slots dst v) s = if dst = some s then some v else look slots s := by
  cases dst with
  | none => simp [putRaw]
  | some d => simp only [putRaw, look_cons, look_erase]; by_cases e : d = s <;> simp [e]

theorem putSlot_raw {nt : Nat} {slots slots' : List (Nat × Tv)} {dst : Option Nat} {v : Tv} (h : putSlot nt slots dst v = some slots') : slots' = putRaw slots dst v := by
  unfold putSlot at h
  cases dst with
  | none => simp only at h; injection h with h; exact h.symm
  | some d =>
    simp only at h
    cases hb : Nat.blt d nt with
    | false => rw [hb] at h; cases h
    | true => rw [hb] at h; injection h with h; exact h.symm

def applyE (e : Ent) (s : St) : St := ⟨putRaw s.slots e.o.dst e.d.val, applyUpd e.d.upd s.gh, e.d.next⟩

inductive Chain (E : Ex) (nt : Nat) (ops : List Oper) (sh : Gh) : List Oper → St → List Ent → St → Prop
  | nil {st : St} : Chain E nt ops sh [] st [] st
  | cons {o : Oper} {r : List Oper} {st : St} {e : Ent} {es : List Ent} {st1 : St} : e.o = o → e.st = st → EntOK E nt ops sh e → Chain E nt ops sh r (applyE e st) es st1 → Chain E nt ops sh (o :: r) st (e :: es) st1

section
variable {E : Ex} {nt : Nat}

theorem runOps_chain {ops : List Oper} {sh : Gh} {st1 : St} {ents : List Ent} : ∀ (l : List Oper) (dec : List (Nat × Bool)) (st : St) (acc : List Ent), (runOps E nt ops sh l dec st acc).reach (st1, ents) → DecOK dec st.slots →
    ∃ es, ents = es.reverse ++ acc ∧ Chain E nt ops sh l st es st1
  | [], dec, st, acc, h, _ => by cases h; exact ⟨[], rfl, .nil⟩
  | o :: l, dec, st, acc, h, hd => by
    have go : ∀ dec', DecOK dec' st.slots → GuardT ops o st.slots true → ((doOp E nt ops sh o dec' st).bind fun q => runOps E nt ops sh l (undec o.dst dec') q.2.2 (⟨o, true, usesOf ops o, dec', st, q.2.1, q.1⟩ :: acc)).reach (st1, ents) →
        ∃ es, ents = es.reverse ++ acc ∧ Chain E nt ops sh (o :: l) st es st1 := by
      intro dec' hd' hg h
      obtain ⟨q, h1, h2⟩ := Tree.reach_bind.1 h
      unfold doOp at h1
      obtain ⟨d, h3, h4⟩ := Tree.reach_bind.1 h1
      cases hp : putSlot nt st.slots o.dst d.val with
      | none => rw [hp] at h4; exact h4.elim
      | some slots =>
        rw [hp] at h4
        simp only at h4
        obtain ⟨dom, hdom⟩ : ∃ dom : Gh, dom = domOf E.P sh o (evD (usesOf ops o) dec' st.slots) st := ⟨_, rfl⟩
        rw [← hdom] at h3 h4
        cases hc : Nat.ble st.next d.next && ltAll d.next d.val.ids && updLt d.next dom st.next d.upd with
        | false => rw [hc] at h4; exact h4.elim
        | true =>
          rw [hc] at h4
          cases h4
          simp only [Bool.and_eq_true] at hc
          obtain ⟨es, he, hch⟩ := runOps_chain l _ _ _ h2 (hd'.undec hp)
          refine ⟨⟨o, true, usesOf ops o, dec', st, dom, d⟩ :: es, by simp [he], .cons rfl rfl ⟨hg, rfl, hd', fun d' hd'' => ?_, Nat.le_of_ble_eq_true hc.1.1, fun id g hgl => ?_, ltAll_iff.1 hc.1.2, updLt_sound hc.2, fun _ => h3, by simp⟩ ?_⟩
          · simp only at hd''; rw [hd''] at hp; exact putSlot_lt hp
          · simp only at hgl
            rw [hdom] at hgl
            exact domOf_sub hgl
          · have e : applyE ⟨o, true, usesOf ops o, dec', st, dom, d⟩ st = ⟨slots, applyUpd d.upd st.gh, d.next⟩ := by simp only [applyE]; rw [putSlot_raw hp]
            rw [e]; exact hch
    have skip : ∀ dec', DecOK dec' st.slots → GuardT ops o st.slots false → ((skipOp nt o st).bind fun st' => runOps E nt ops sh l (undec o.dst dec') st' (⟨o, false, usesOf ops o, dec', st, [], ⟨.undef, [], st.next⟩⟩ :: acc)).reach (st1, ents) →
        ∃ es, ents = es.reverse ++ acc ∧ Chain E nt ops sh (o :: l) st es st1 := by
      intro dec' hd' hg h
      obtain ⟨st', h1, h2⟩ := Tree.reach_bind.1 h
      unfold skipOp at h1
      cases hp : putSlot nt st.slots o.dst .undef with
      | none => rw [hp] at h1; exact h1.elim
      | some slots =>
        rw [hp] at h1
        cases h1
        obtain ⟨es, he, hch⟩ := runOps_chain l _ _ _ h2 (hd'.undec hp)
        refine ⟨⟨o, false, usesOf ops o, dec', st, [], ⟨.undef, [], st.next⟩⟩ :: es, by simp [he], .cons rfl rfl ⟨hg, rfl, hd', fun d' hd'' => ?_, Nat.le_refl _, fun id g hgl => by simp [look] at hgl, by simp [Tv.ids], by simp [look], by simp, fun _ => ⟨rfl, rfl, rfl⟩⟩ ?_⟩
        · simp only at hd''; rw [hd''] at hp; exact putSlot_lt hp
        · have e : applyE ⟨o, false, usesOf ops o, dec', st, [], ⟨.undef, [], st.next⟩⟩ st = ⟨slots, st.gh, st.next⟩ := by simp only [applyE, applyUpd]; rw [putSlot_raw hp]
          rw [e]; exact hch
    unfold runOps at h
    simp only at h
    cases hgd : o.guard with
    | none => rw [hgd] at h; exact go dec hd (by simp [GuardT, hgd]) h
    | some g =>
      obtain ⟨j, want⟩ := g
      rw [hgd] at h
      simp only at h
      cases hj : (ops[j]?).bind (·.dst) with
      | none => rw [hj] at h; exact h.elim
      | some t =>
        rw [hj] at h
        simp only at h
        have choose : ∀ (dec' : List (Nat × Bool)) (b : Bool), DecOK dec' st.slots → (∃ v, look st.slots t = some v ∧ (v = .one (.cbool b) ∨ v = .one (.bool b))) →
            (bif b == want then ((doOp E nt ops sh o dec' st).bind fun q => runOps E nt ops sh l (undec o.dst dec') q.2.2 (⟨o, true, usesOf ops o, dec', st, q.2.1, q.1⟩ :: acc))
              else ((skipOp nt o st).bind fun st' => runOps E nt ops sh l (undec o.dst dec') st' (⟨o, false, usesOf ops o, dec', st, [], ⟨.undef, [], st.next⟩⟩ :: acc))).reach (st1, ents) →
            ∃ es, ents = es.reverse ++ acc ∧ Chain E nt ops sh (o :: l) st es st1 := by
          rintro dec' b hd' ⟨v, hv, hvb⟩ h
          have hG : GuardT ops o st.slots (b == want) := by
            unfold GuardT; rw [hgd]; exact ⟨t, v, hj, hv, .inl ⟨b, hvb, rfl⟩⟩
          cases hbw : b == want with
          | true => rw [hbw] at h hG; exact go dec' hd' hG h
          | false => rw [hbw] at h hG; exact skip dec' hd' hG h
        cases hdt : look dec t with
        | some b => rw [hdt] at h; exact choose dec b hd ⟨_, hd t b hdt, .inr rfl⟩ h
        | none =>
          rw [hdt] at h
          simp only at h
          cases hst : look st.slots t with
          | none => rw [hst] at h; exact h.elim
          | some v =>
            rw [hst] at h
            cases v with
            | agg _ => exact h.elim
            | tup _ => exact h.elim
            | undef => exact skip dec hd (by unfold GuardT; rw [hgd]; exact ⟨t, _, hj, hst, .inr ⟨rfl, rfl⟩⟩) h
            | one s =>
              cases s <;> try (exact h.elim)
              · rename_i b; exact choose dec b hd ⟨_, hst, .inl rfl⟩ h
              · rename_i c
                have hdd : ∀ b, c = b → DecOK ((t, b) :: dec) st.slots := by
                  rintro b rfl t' b' hl
                  rw [look_cons] at hl
                  by_cases e : t = t'
                  · subst e; rw [if_pos rfl] at hl; injection hl with hl; subst hl; exact hst
                  · rw [if_neg e] at hl; exact hd t' b' hl
                rcases h with ⟨hc, h⟩ | ⟨hc, h⟩
                · exact choose _ true (hdd true hc) ⟨_, hst, .inr (by rw [hc])⟩ h
                · exact choose _ false (hdd false hc) ⟨_, hst, .inr (by rw [hc])⟩ h

/-! ### what was done, of whatever was done -/
def SD (D : Nat → Bool) : Nat → List Ent → St → St
  | _, [], s => s
  | k, e :: r, s => SD D (k + 1) r (bif D k then applyE e s else s)

def lastA {V : Type} (act : Ent → Option (Option V)) (D : Nat → Bool) : Nat → List Ent → Option V → Option V
  | _, [], b => b
  | k, e :: r, b => lastA act D (k + 1) r (bif D k then (act e).getD b else b)

def actS (t : Nat) (e : Ent) : Option (Option Tv) := if e.o.dst = some t then some (some e.d.val) else none
def actG (id : Nat) (e : Ent) : Option (Option Gb) := look e.d.upd id

theorem SD_slots (t : Nat) (D : Nat → Bool) : ∀ (es : List Ent) (k : Nat) (s : St), look (SD D k es s).slots t = lastA (actS t) D k es (look s.slots t)
  | [], k, s => rfl
  | e :: r, k, s => by
    simp only [SD, lastA]
    rw [SD_slots t D r (k + 1)]
    congr 1
    cases D k with
    | false => rfl
    | true => simp only [cond_true, applyE, look_putRaw, actS]; by_cases h : e.o.dst = some t <;> simp [h]

theorem SD_gh (id : Nat) (D : Nat → Bool) : ∀ (es : List Ent) (k : Nat) (s : St), look (SD D k es s).gh id = lastA (actG id) D k es (look s.gh id)
  | [], k, s => rfl
  | e :: r, k, s => by
    simp only [SD, lastA]
    rw [SD_gh id D r (k + 1)]
    congr 1
    cases D k with
    | false => rfl
    | true => simp only [cond_true, applyE, look_applyUpd, actG]; cases look e.d.upd id <;> rfl

theorem lastA_same {V : Type} {act : Ent → Option (Option V)} {D D' : Nat → Bool} : ∀ (es : List Ent) (k : Nat) (b : Option V), (∀ j e, es[j]? = some e → D (k + j) ≠ D' (k + j) → act e = none) → lastA act D k es b = lastA act D' k es b
  | [], k, b, _ => rfl
  | e :: r, k, b, h => by
    simp only [lastA]
    have h0 := h 0 e rfl
    have hr : ∀ b, lastA act D (k + 1) r b = lastA act D' (k + 1) r b := fun b => lastA_same r (k + 1) b fun j e' he hne => h (j + 1) e' (by simpa using he) (by rwa [show k + (j + 1) = k + 1 + j by omega])
    rw [hr]
    congr 1
    rw [Nat.add_zero] at h0
    cases hD : D k <;> cases hD' : D' k <;> simp only [cond_true, cond_false]
    · rw [h0 (by rw [hD, hD']; simp)]; rfl
    · rw [h0 (by rw [hD, hD']; simp)]; rfl

theorem lastA_add {V : Type} {act : Ent → Option (Option V)} {D D' : Nat → Bool} : ∀ (es : List Ent) (k i : Nat) (e : Ent) (b : Option V), es[i]? = some e → D (k + i) = false → D' (k + i) = true → (∀ j, j ≠ i → D' (k + j) = D (k + j)) →
    (act e ≠ none → ∀ j e', i < j → es[j]? = some e' → D (k + j) = true → act e' = none) → lastA act D' k es b = (act e).getD (lastA act D k es b)
  | x :: r, k, 0, e, b, he, hD, hD', hne, ha => by
    simp at he; subst he
    simp only [Nat.add_zero] at hD hD'
    simp only [lastA, hD, hD', cond_true, cond_false]
    have hr : ∀ b, lastA act D' (k + 1) r b = lastA act D (k + 1) r b := fun b => lastA_same r (k + 1) b fun j e' he' hn => by
      have := hne (j + 1) (by omega)
      rw [show k + (j + 1) = k + 1 + j by omega] at this
      exact absurd this hn
    rw [hr]
    cases hx : act x with
    | none => rfl
    | some v =>
      simp only [Option.getD_some]
      have hno : ∀ j e', r[j]? = some e' → D (k + 1 + j) = true → act e' = none := fun j e' he' hd =>
        ha (by rw [hx]; simp) (j + 1) e' (by omega) (by simpa using he') (by rwa [show k + (j + 1) = k + 1 + j by omega])
      have hconst : ∀ (es : List Ent) (k : Nat) (c : Option V), (∀ j e', es[j]? = some e' → D (k + j) = true → act e' = none) → lastA act D k es c = c := by
        intro es
        induction es with
        | nil => intro k c _; rfl
        | cons y ys ih =>
          intro k c hh
          simp only [lastA]
          rw [ih (k + 1) _ fun j e' he' hd => hh (j + 1) e' (by simpa using he') (by rwa [show k + (j + 1) = k + 1 + j by omega])]
          cases hDk : D k with
          | false => rfl
          | true => rw [hh 0 y rfl (by simpa using hDk)]; rfl
      rw [hconst r (k + 1) v hno]
  | x :: r, k, i + 1, e, b, he, hD, hD', hne, ha => by
    rw [List.getElem?_cons_succ] at he
    simp only [lastA]
    have h0 := hne 0 (by omega)
    rw [Nat.add_zero] at h0
    rw [h0]
    exact lastA_add r (k + 1) i e _ he (by rwa [show k + 1 + i = k + (i + 1) by omega]) (by rwa [show k + 1 + i = k + (i + 1) by omega])
      (fun j hj => by have := hne (j + 1) (by omega); rwa [show k + (j + 1) = k + 1 + j by omega] at this)
      (fun hx j e' hij he' hd => ha hx (j + 1) e' (by omega) (by simpa using he') (by rwa [show k + (j + 1) = k + 1 + j by omega]))
  | [], k, i, e, b, he, _, _, _, _ => by simp at he

theorem RepG.congr {R : Nat → Prop} {ρ : Env} {g1 g2 : Gh} {w : World} (h : ∀ id, look g2 id = look g1 id) (hG : RepG R ρ g1 w) : RepG R ρ g2 w :=
  ⟨fun id g hg => hG.facts id g (by rwa [← h]), hG.rlt, fun id g b hg => hG.olt id g b (by rwa [← h]), fun id id' g g' b h1 h2 => hG.sep id id' g g' b (by rwa [← h]) (by rwa [← h])⟩

theorem OwnB_congr {ρ : Env} {g1 g2 : Gh} (h : ∀ id, look g2 id = look g1 id) {b : Nat} (hb : OwnB ρ g2 b) : OwnB ρ g1 b := by
  obtain ⟨id, g, h1, h2⟩ := hb; exact ⟨id, g, by rwa [← h], h2⟩

theorem Ext.congr {R R' : Nat → Prop} {ρ ρ' : Env} {g g1 g2 : Gh} {w w' : World} {n n' : Nat} (h : ∀ id, look g2 id = look g1 id) (hE : Ext R ρ g w n R' ρ' g1 w' n') : Ext R ρ g w n R' ρ' g2 w' n' :=
  ⟨hE.size, hE.os, hE.tape, hE.output, hE.keep, hE.env, hE.sub, hE.newR, fun b hb => hE.newO b (OwnB_congr h hb)⟩

/-- in one frame of numbers -/
theorem Ext.trans' {R R1 R2 : Nat → Prop} {ρ ρ1 ρ2 : Env} {gh gh1 gh2 : Gh} {w w1 w2 : World} {n n' lo hi : Nat}
    (h : Ext R ρ gh w n R1 ρ1 gh1 w1 n') (k : Ext R1 ρ1 gh1 w1 lo R2 ρ2 gh2 w2 hi) (h1 : n ≤ lo) (h2 : hi ≤ n') : Ext R ρ gh w n R2 ρ2 gh2 w2 n' where
  size := Nat.le_trans h.size k.size
  os := k.os.trans h.os
  tape := k.tape.trans h.tape
  output := k.output.trans h.output
  keep b hb hn := by
    rw [k.keep b (Nat.lt_of_lt_of_le hb h.size) (fun ho => (h.newO b ho).elim hn (fun hl => absurd hb (by omega))), h.keep b hb hn]
  env id hid := (k.env id (hid.imp (fun h' => by omega) fun h' => by omega)).trans (h.env id hid)
  sub b hb := k.sub b (h.sub b hb)
  newR b hb := by
    rcases k.newR b hb with h' | h' | h'
    · exact h.newR b h'
    · exact .inr (h.newO b h')
    · exact .inr (.inr (Nat.le_trans h.size h'))
  newO b hb := by
    rcases k.newO b hb with h' | h'
    · exact h.newO b h'
    · exact .inr (Nat.le_trans h.size h')
end
end Sx
