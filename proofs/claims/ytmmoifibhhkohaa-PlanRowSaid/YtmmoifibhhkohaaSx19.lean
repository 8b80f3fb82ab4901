/- A symbolic executor for the model's code: code, functions. -/
import Derived.Test.YtmmoifibhhkohaaSx18
import Derived.Scope
namespace Sx
open Go Go.RowKit

structure Out where
  kind : Nat          -- 0 normal, 1 return, k + 2: out of block k
  st : St

def kindOf : Nat → Exit
  | 0 => .normal
  | 1 => .ret
  | k + 2 => .exit k

def execRegion (E : Ex) (nt : Nat) (ops : Array Oper) (draw : Bool) (st : St) : Tree St :=
  (runOps E nt ops.toList ops.toList [] st []).bind fun r =>
    match draw with
    | true => bif flowOK ops.toList r.2.reverse && E.P.follows .mixedOrders then .leaf r.1 else .fail "a region whose order matters"
    | false => .leaf r.1

def nloops : Code → Nat
  | .seq a b | .cond _ a b => nloops a + nloops b
  | .block _ c | .scope c => nloops c
  | .loop c => nloops c + 1
  | _ => 0

def loopAt : Code → Nat → Code
  | .seq a b, j | .cond _ a b, j => bif Nat.blt j (nloops a) then loopAt a j else loopAt b (j - nloops a)
  | .block _ c, j | .scope c, j => loopAt c j
  | .loop c, j => match j with | 0 => c | j + 1 => loopAt c j
  | _, _ => .skip

def iter : Nat → (St → Tree Out) → St → Tree Out
  | 0, _, _ => .fail "a loop without a contract"
  | n + 1, f, st => (f st).bind fun o => bif Nat.beq o.kind 0 then iter n f o.st else .leaf o

def execCode (E : Ex) (nt : Nat) (loops : Nat → Option (St → Tree Out)) (n : Nat) : Code → Nat → St → Tree Out
  | .skip, _, st => .leaf ⟨0, st⟩
  | .label _, _, st => .leaf ⟨0, st⟩
  | .region _ ops draw, _, st => (execRegion E nt ops draw st).bind fun st' => .leaf ⟨0, st'⟩
  | .seq a b, i, st => (execCode E nt loops n a i st).bind fun o => bif Nat.beq o.kind 0 then execCode E nt loops n b (i + nloops a) o.st else .leaf o
  | .cond c a b, i, st =>
    match evO st.slots c with
    | some (.one (.cbool q)) => bif q then execCode E nt loops n a i st else execCode E nt loops n b (i + nloops a) st
    | some (.one (.bool q)) => .fork q (execCode E nt loops n a i st) (execCode E nt loops n b (i + nloops a) st)
    | _ => .fail "a test that is no bool"
  | .block id c, i, st => (execCode E nt loops n c i st).bind fun o => .leaf ⟨bif Nat.beq o.kind (id + 2) then 0 else o.kind, o.st⟩
  | .scope c, i, st => execCode E nt loops n c i st
  | .loop c, i, st =>
    match loops i with
    | some sp => sp st
    | none => iter n (execCode E nt loops n c (i + 1)) st
  | .exit id, _, st => .leaf ⟨id + 2, st⟩
  | .ret, _, st => .leaf ⟨1, st⟩
  | _, _, _ => .fail "code that is not covered"

def PostC (R : Nat → Prop) (ρ : Env) (nt : Nat) (st : St) (w : World) (out : Out) : Exit → Act → World → Prop := fun e a' w' =>
  e = kindOf out.kind ∧ ∃ R' ρ', Rep R' ρ' nt out.st a' w' ∧ Ext R ρ st.gh w st.next R' ρ' out.st.gh w' out.st.next

def CodeOK (P : Program) (nt : Nat) (c : Code) (st : St) (out : Out) : Prop :=
  Bd st → Bd out.st ∧ st.next ≤ out.st.next ∧ ∀ R ρ a w, Rep R ρ nt st a w → c.wp P (PostC R ρ nt st w out) a w

def LoopsOK (P : Program) (nt : Nat) (loops : Nat → Option (St → Tree Out)) (c : Code) (i0 : Nat) : Prop :=
  ∀ j, j < nloops c → ∀ sp, loops (i0 + j) = some sp → ∀ st out, (sp st).reach out → CodeOK P nt (.loop (loopAt c j)) st out

section
variable {E : Ex} {nt : Nat} {R : Nat → Prop} {ρ : Env} {a : Act} {w : World} {st : St}

theorem execRegion_sound (hE : E.Sound) {id : Nat} {ops : Array Oper} {draw : Bool} {st' : St} (h : (execRegion E nt ops draw st).reach st') : CodeOK E.P nt (.region id ops draw) st ⟨0, st'⟩ := by
  intro hb
  unfold execRegion at h
  obtain ⟨⟨st1, ents⟩, h1, h2⟩ := Tree.reach_bind.1 h
  obtain ⟨es, he, hch⟩ := runOps_chain ops.toList [] st [] h1 (by intro t b h; simp [look] at h)
  have hbd := (hch.bd hb).1
  have hle := hch.le
  have hst : st1 = st' := by
    cases draw with
    | false => cases h2; rfl
    | true =>
      simp only at h2
      cases hc : flowOK ops.toList ents.reverse && E.P.follows .mixedOrders with
      | false => rw [hc] at h2; exact h2.elim
      | true => rw [hc] at h2; cases h2; rfl
  subst hst
  refine ⟨hbd, hle, fun R ρ a w hrep => ?_⟩
  cases draw with
  | false =>
    refine wp_region ?_
    have := runOps_sound hE (ops := ops) (st0 := st) (w0 := w) (R0 := R) (ρ0 := ρ) (st1 := st1) (ents := ents) (PostC R ρ nt st w ⟨0, st1⟩) (fun R' ρ' a' w' h1 _ h3 _ => ⟨rfl, R', ρ', h1, h3⟩)
      ops.toList 0 [] st [] R ρ a w (fun j => by simp) h1 hrep hb (by intro t b h; simp [look] at h) .refl (Nat.le_refl _)
    rw [Array.length_toList] at this
    rw [List.range_eq_range']
    exact this
  | true =>
    simp only at h2
    cases hc : flowOK ops.toList ents.reverse && E.P.follows .mixedOrders with
    | false => rw [hc] at h2; exact h2.elim
    | true =>
      rw [Bool.and_eq_true] at hc
      have hes : ents.reverse = es := by rw [he]; simp
      rw [hes] at hc
      refine wp_region_any hc.2 ?_
      have hD : ∀ j, DL (Array.replicate ops.size false) j = false := fun j => getD_replicate_false ops.size j
      have hSD : SD (DL (Array.replicate ops.size false)) 0 es st = st := SD_ge es 0 st fun j _ => hD j
      have hrep' : Rep R ρ nt st a w.drew := ⟨hrep.size, hrep.defers, hrep.slots, ⟨fun id g hg => Gfact.mono (w := w) (w' := w.drew) (p := fun _ => True) (fun b hb => ⟨hb, rfl⟩) (fun _ _ => rfl) trivial (fun _ _ => trivial) (fun _ _ => rfl) (hrep.mem.facts id g hg), hrep.mem.rlt, hrep.mem.olt, hrep.mem.sep⟩⟩
      have hx : Ext R ρ st.gh w st.next R ρ st.gh w.drew st1.next := ⟨Nat.le_refl _, rfl, rfl, rfl, fun _ _ _ => rfl, fun _ _ => rfl, fun _ h => h, fun _ h => .inl h, fun _ h => .inl h⟩
      refine flow_sound hE hch hc.1 hb (R0 := R) (ρ0 := ρ) (w0 := w) (PostC R ρ nt st w ⟨0, st1⟩) (fun R' ρ' a' w' h1 h3 => ⟨rfl, R', ρ', h1, h3⟩) ops.size (Array.replicate ops.size false) R ρ a w.drew (by simp) ?_ ?_ ?_ ?_ ?_ ?_
      · unfold unl
        have := List.countP_le_length (p := fun i => !(Array.replicate ops.size false).getD i true) (l := List.range (Array.replicate ops.size false).size)
        simpa using this
      · intro i o e _ hd; rw [hD] at hd; cases hd
      · rw [hSD]; exact hrep'
      · rw [hSD]; intro s v hs i hi; exact .inl (hb.slots s v hs i hi)
      · rw [hSD]; intro id g hg; exact ⟨.inl (hb.gh id g hg).1, fun i hi => .inl ((hb.gh id g hg).2 i hi)⟩
      · rw [hSD]; exact hx

theorem CodeOK.seq {c1 c2 : Code} {o1 o2 : Out} (h1 : CodeOK E.P nt c1 st o1) (hk : o1.kind = 0) (h2 : CodeOK E.P nt c2 o1.st o2) : CodeOK E.P nt (.seq c1 c2) st o2 := by
  intro hb
  obtain ⟨b1, l1, k1⟩ := h1 hb
  obtain ⟨b2, l2, k2⟩ := h2 b1
  refine ⟨b2, Nat.le_trans l1 l2, fun R ρ a w hrep => wp_seq (wp_mono (k1 R ρ a w hrep) ?_)⟩
  rintro e a' w' ⟨he, R', ρ', hr', hx'⟩
  rw [hk] at he
  subst he
  refine wp_mono (k2 R' ρ' a' w' hr') ?_
  rintro e a2 w2 ⟨he, R2, ρ2, hr2, hx2⟩
  exact ⟨he, R2, ρ2, hr2, hx'.trans hx2 l1 l2⟩

theorem CodeOK.seq_exit {c1 c2 : Code} {o1 : Out} (h1 : CodeOK E.P nt c1 st o1) (hk : o1.kind ≠ 0) : CodeOK E.P nt (.seq c1 c2) st o1 := by
  intro hb
  obtain ⟨b1, l1, k1⟩ := h1 hb
  refine ⟨b1, l1, fun R ρ a w hrep => wp_seq (wp_mono (k1 R ρ a w hrep) ?_)⟩
  rintro e a' w' ⟨he, rest⟩
  have : e ≠ .normal := by
    rw [he]
    cases hkk : o1.kind with
    | zero => exact absurd hkk hk
    | succ n => cases n <;> simp [kindOf]
  cases e with
  | normal => exact absurd rfl this
  | _ => exact ⟨he, rest⟩

theorem iter_sound {c : Code} {f : St → Tree Out} (hf : ∀ st out, (f st).reach out → CodeOK E.P nt c st out) : ∀ (n : Nat) (st : St) (out : Out), (iter n f st).reach out → CodeOK E.P nt (.loop c) st out := by
  -- the loop, unrolled
  intro n st out h hb
  have main : ∀ (n : Nat) (st : St) (out : Out), (iter n f st).reach out → Bd st → Bd out.st ∧ st.next ≤ out.st.next ∧
      ∀ R ρ a w, Rep R ρ nt st a w → ∀ (b : Frame) (k : List Item) (cs : List Frame), ∃ e a' w', PostC R ρ nt st w out e a' w' ∧ Arrives E.P (lone (b.at a (.code c :: .inLoop c :: k)) cs w) b k cs e a' w' := by
    intro n
    induction n with
    | zero => intro st out h; exact h.elim
    | succ n ih =>
      intro st out h hb
      obtain ⟨o, h1, h2⟩ := Tree.reach_bind.1 h
      obtain ⟨b1, l1, k1⟩ := hf st o h1 hb
      cases hk : Nat.beq o.kind 0 with
      | false =>
        rw [hk] at h2
        cases h2
        refine ⟨b1, l1, fun R ρ a w hrep b k cs => ?_⟩
        obtain ⟨e, a', w', hq, harr⟩ := k1 R ρ a w hrep b (.inLoop c :: k) cs
        refine ⟨e, a', w', hq, .pass (x := .inLoop c) rfl (fun _ _ => .inl ?_) harr⟩
        rw [hq.1]
        have := beq_false_iff.1 hk
        cases hkk : out.kind with
        | zero => exact absurd hkk this
        | succ n => cases n <;> simp [kindOf]
      | true =>
        rw [hk] at h2
        simp only [cond_true] at h2
        obtain ⟨b2, l2, k2⟩ := ih o.st out h2 b1
        refine ⟨b2, Nat.le_trans l1 l2, fun R ρ a w hrep b k cs => ?_⟩
        obtain ⟨e, a', w', hq, harr⟩ := k1 R ρ a w hrep b (.inLoop c :: k) cs
        obtain ⟨he, R', ρ', hr', hx'⟩ := hq
        rw [beq_iff.1 hk] at he
        subst he
        obtain ⟨e2, a2, w2, ⟨he2, R2, ρ2, hr2, hx2⟩, harr2⟩ := k2 R' ρ' a' w' hr' b k cs
        exact ⟨e2, a2, w2, ⟨he2, R2, ρ2, hr2, hx'.trans hx2 l1 l2⟩, .of_steps (Steps.trans harr (.one step_inLoop)) harr2⟩
  obtain ⟨b1, l1, k1⟩ := main n st out h hb
  refine ⟨b1, l1, fun R ρ a w hrep b k cs => ?_⟩
  obtain ⟨e, a', w', hq, harr⟩ := k1 R ρ a w hrep b k cs
  exact ⟨e, a', w', hq, .of_steps (.one step_loop) harr⟩

theorem evO_val {slots : List (Nat × Tv)} (hs : ∀ s v, look slots s = some v → a.tmps[s]? = some (v.den ρ)) : ∀ x v, evO slots x = some v → a.eval x = v.den ρ := by
  intro x v h
  cases x with
  | tmp t =>
    have := hs t v h
    simp only [Act.eval, Array.getD_eq_getD_getElem?, this]; rfl
  | const c => exact (cTv_sound ρ h).1.symm
  | global g => simp [evO] at h
  | func f => simp only [evO] at h; injection h with h; subst h; rfl

theorem execCode_sound (hE : E.Sound) {loops : Nat → Option (St → Tree Out)} {n : Nat} : ∀ (c : Code) (i : Nat) (st : St) (out : Out), LoopsOK E.P nt loops c i → (execCode E nt loops n c i st).reach out → CodeOK E.P nt c st out
  | .skip, i, st, out, hl, h => by
    cases h
    exact fun hb => ⟨hb, Nat.le_refl _, fun R ρ a w hrep => wp_skip ⟨rfl, R, ρ, hrep, .refl⟩⟩
  | .label l, i, st, out, hl, h => by
    cases h
    exact fun hb => ⟨hb, Nat.le_refl _, fun R ρ a w hrep => wp_label ⟨rfl, R, ρ, hrep, .refl⟩⟩
  | .region id ops draw, i, st, out, hl, h => by
    simp only [execCode] at h
    obtain ⟨st', h1, h2⟩ := Tree.reach_bind.1 h
    cases h2
    exact execRegion_sound hE h1
  | .seq c1 c2, i, st, out, hl, h => by
    simp only [execCode] at h
    obtain ⟨o, h1, h2⟩ := Tree.reach_bind.1 h
    have l1 : LoopsOK E.P nt loops c1 i := fun j hj sp hsp => by
      have := hl j (by simp only [nloops]; omega) sp hsp
      simpa only [loopAt, blt_iff.2 hj, cond_true] using this
    have l2 : LoopsOK E.P nt loops c2 (i + nloops c1) := fun j hj sp hsp => by
      have := hl (nloops c1 + j) (by simp only [nloops]; omega) sp (by rw [← Nat.add_assoc]; exact hsp)
      have hb : Nat.blt (nloops c1 + j) (nloops c1) = false := by
        cases hc : Nat.blt (nloops c1 + j) (nloops c1) with
        | false => rfl
        | true => have := blt_iff.1 hc; omega
      simpa only [loopAt, hb, cond_false, Nat.add_sub_cancel_left] using this
    have c1ok := execCode_sound hE c1 i st o l1 h1
    cases hk : Nat.beq o.kind 0 with
    | true => rw [hk] at h2; exact c1ok.seq (beq_iff.1 hk) (execCode_sound hE c2 _ o.st out l2 h2)
    | false => rw [hk] at h2; cases h2; exact c1ok.seq_exit (beq_false_iff.1 hk)
  | .cond x c1 c2, i, st, out, hl, h => by
    simp only [execCode] at h
    have l1 : LoopsOK E.P nt loops c1 i := fun j hj sp hsp => by
      have := hl j (by simp only [nloops]; omega) sp hsp
      simpa only [loopAt, blt_iff.2 hj, cond_true] using this
    have l2 : LoopsOK E.P nt loops c2 (i + nloops c1) := fun j hj sp hsp => by
      have := hl (nloops c1 + j) (by simp only [nloops]; omega) sp (by rw [← Nat.add_assoc]; exact hsp)
      have hb : Nat.blt (nloops c1 + j) (nloops c1) = false := by
        cases hc : Nat.blt (nloops c1 + j) (nloops c1) with
        | false => rfl
        | true => have := blt_iff.1 hc; omega
      simpa only [loopAt, hb, cond_false, Nat.add_sub_cancel_left] using this
    have yes : ∀ v, evO st.slots x = some v → (∀ ρ : Env, v.den ρ = .bool true) → CodeOK E.P nt c1 st out → CodeOK E.P nt (.cond x c1 c2) st out := fun v hv hd hc hb => by
      obtain ⟨b1, n1, k1⟩ := hc hb
      exact ⟨b1, n1, fun R ρ a w hrep => wp_cond_true (by rw [evO_val hrep.slots x v hv, hd]) (k1 R ρ a w hrep)⟩
    have no : ∀ v, evO st.slots x = some v → (∀ ρ : Env, v.den ρ = .bool false) → CodeOK E.P nt c2 st out → CodeOK E.P nt (.cond x c1 c2) st out := fun v hv hd hc hb => by
      obtain ⟨b1, n1, k1⟩ := hc hb
      exact ⟨b1, n1, fun R ρ a w hrep => wp_cond_false (by rw [evO_val hrep.slots x v hv, hd]) (k1 R ρ a w hrep)⟩
    split at h
    · rename_i q hv
      cases q with
      | true => exact yes _ hv (fun _ => rfl) (execCode_sound hE c1 i st out l1 h)
      | false => exact no _ hv (fun _ => rfl) (execCode_sound hE c2 _ st out l2 h)
    · rename_i q hv
      rcases h with ⟨rfl, h⟩ | ⟨rfl, h⟩
      · exact yes _ hv (fun _ => rfl) (execCode_sound hE c1 i st out l1 h)
      · exact no _ hv (fun _ => rfl) (execCode_sound hE c2 _ st out l2 h)
    · exact h.elim
  | .block id c, i, st, out, hl, h => by
    simp only [execCode] at h
    obtain ⟨o, h1, h2⟩ := Tree.reach_bind.1 h
    cases h2
    have hc := execCode_sound hE c i st o (fun j hj sp hsp => by simpa only [loopAt] using hl j (by simpa only [nloops] using hj) sp hsp) h1
    intro hb
    obtain ⟨b1, n1, k1⟩ := hc hb
    refine ⟨b1, n1, fun R ρ a w hrep => wp_block (wp_mono (k1 R ρ a w hrep) ?_)⟩
    rintro e a' w' ⟨he, rest⟩
    subst he
    cases hk : o.kind with
    | zero => rw [show Nat.beq 0 (id + 2) = false from beq_false_iff.2 (by omega)]; exact ⟨rfl, rest⟩
    | succ m =>
      cases m with
      | zero => rw [show Nat.beq (0 + 1) (id + 2) = false from beq_false_iff.2 (by omega)]; exact ⟨rfl, rest⟩
      | succ m =>
        by_cases hm : m = id
        · subst hm
          rw [show Nat.beq (m + 1 + 1) (m + 2) = true from beq_iff.2 rfl]
          simp only [kindOf, Exit.inBlock, if_true, cond_true]
          exact ⟨rfl, rest⟩
        · rw [show Nat.beq (m + 1 + 1) (id + 2) = false from beq_false_iff.2 (by omega)]
          simp only [kindOf, Exit.inBlock, if_neg hm, cond_false]
          exact ⟨rfl, rest⟩
  | .scope c, i, st, out, hl, h => by
    simp only [execCode] at h
    have hc := execCode_sound hE c i st out (fun j hj sp hsp => by simpa only [loopAt] using hl j (by simpa only [nloops] using hj) sp hsp) h
    intro hb
    obtain ⟨b1, n1, k1⟩ := hc hb
    refine ⟨b1, n1, fun R ρ a w hrep => wp_scope_straight (wp_mono (k1 R ρ a w hrep) ?_)⟩
    rintro e a' w' ⟨he, rest⟩
    cases e with
    | goto l => cases hk : out.kind with
      | zero => rw [hk] at he; cases he
      | succ m => cases m <;> (rw [hk] at he; cases he)
    | _ => exact ⟨he, rest⟩
  | .loop c, i, st, out, hl, h => by
    simp only [execCode] at h
    cases hs : loops i with
    | some sp =>
      rw [hs] at h
      have := hl 0 (by simp [nloops]) sp (by simpa using hs) st out h
      simpa only [loopAt] using this
    | none =>
      rw [hs] at h
      refine iter_sound (fun st out h => execCode_sound hE c (i + 1) st out (fun j hj sp hsp => ?_) h) n st out h
      have := hl (j + 1) (by simp only [nloops]; omega) sp (by rw [← hsp]; congr 1; omega)
      simpa only [loopAt] using this
  | .exit id, i, st, out, hl, h => by
    cases h
    exact fun hb => ⟨hb, Nat.le_refl _, fun R ρ a w hrep => wp_exit ⟨rfl, R, ρ, hrep, .refl⟩⟩
  | .ret, i, st, out, hl, h => by
    cases h
    exact fun hb => ⟨hb, Nat.le_refl _, fun R ρ a w hrep => wp_ret ⟨rfl, R, ρ, hrep, .refl⟩⟩
  | .rangeFunc .., _, _, _, _, h => h.elim
  | .goto _, _, _, _, _, h => h.elim
  | .refuse _, _, _, _, _, h => h.elim

/-! ### functions -/
def slotsOf : Nat → List Tv → List (Nat × Tv)
  | _, [] => []
  | i, v :: r => (i, v) :: slotsOf (i + 1) r

def resS (P : Program) (st : St) : List ResultVar → Option (List (Bool × List SV))
  | [] => some []
  | .tmp t :: r =>
    match look st.slots t with
    | some (.one v) => (resS P st r).map ((false, [v]) :: ·)
    | some (.agg cs) => (resS P st r).map ((true, cs) :: ·)
    | _ => none
  | .cell a t :: r =>
    match look st.slots a, sizeT P t with
    | some (.one (.ptr id off)), some n =>
      match blkAt st.gh id off n with
      | some cs => bif isAggT P t || Nat.beq n 1 then (resS P st r).map ((isAggT P t, cs) :: ·) else none
      | none => none
    | _, _ => none

def mkRes : List (Bool × List SV) → Option Tv
  | [(true, cs)] => some (.agg cs)
  | [(false, [c])] => some (.one c)
  | [_] => none
  | l => some (.tup l)

def ownKeys : Gh → List Nat
  | [] => []
  | (k, g) :: r => bif g.isOwn then k :: ownKeys r else ownKeys r

def newOnes (lo : Nat) (ids : List Nat) (gh : Gh) : List (Nat × Option Gb) :=
  match gh with
  | [] => []
  | (k, g) :: r => bif Nat.ble lo k && memN k ids then (k, some g) :: newOnes lo ids r else newOnes lo ids r

def retUpd (gh0 : Gh) (lo : Nat) (st : St) (v : Tv) : List (Nat × Option Gb) :=
  let ks := ownKeys gh0
  (ks.map fun k => (k, look st.gh k)) ++ newOnes lo (reachN st.gh 8 (v.ids ++ ks)) st.gh

def execFun (E : Ex) (loops : Nat → Option (St → Tree Out)) (n : Nat) (fn : Func) (body : Code) (args : List Tv) (gh : Gh) (next : Nat) : Tree Delta :=
  bif Nat.ble args.length fn.ntmps then
    (execCode E fn.ntmps loops n body 0 ⟨slotsOf 0 args, gh, next⟩).bind fun out =>
      bif Nat.ble out.kind 1 then
        match (resS E.P out.st fn.results.toList).bind mkRes with
        | some v => .leaf ⟨v, retUpd gh next out.st v, out.st.next⟩
        | none => .fail "results"
      else .fail "no return"
  else .fail "too many arguments"

theorem look_slotsOf : ∀ (args : List Tv) (i s : Nat) (v : Tv), look (slotsOf i args) s = some v → ∃ k, s = i + k ∧ args[k]? = some v
  | [], i, s, v, h => by simp [slotsOf, look] at h
  | x :: r, i, s, v, h => by
    simp only [slotsOf, look_cons] at h
    by_cases e : i = s
    · rw [if_pos e] at h; injection h with h; subst h; exact ⟨0, e.symm, rfl⟩
    · rw [if_neg e] at h
      obtain ⟨k, h1, h2⟩ := look_slotsOf r (i + 1) s v h
      exact ⟨k + 1, by omega, by simpa using h2⟩

def resOne (tmps : Array Value) : ResultVar → Sem Value
  | .tmp t => pure (tmps.getD t undef)
  | .cell x t => do loadVar t (← asAddr (tmps.getD x undef))

theorem results_eq (fn : Func) (tmps : Array Value) : results fn tmps = (do
    let vs ← fn.results.mapM (resOne tmps)
    pure (if h : vs.size = 1 then vs[0] else .tuple vs)) := by
  have : (fun x : ResultVar => match x with
      | .tmp t => (pure (tmps.getD t undef) : Sem Value)
      | .cell a t => do loadVar t (← asAddr (tmps.getD a undef))) = resOne tmps := by funext x; cases x <;> rfl
  rw [← this]
  rfl

theorem resS_sound (hrep : Rep R ρ nt st a w) : ∀ {rs : List ResultVar} {ps : List (Bool × List SV)}, resS E.P st rs = some ps →
    (rs.mapM (resOne a.tmps)).run E.P w = .ok (ps.map (denPart ρ)) w ∧ (∀ p ∈ ps, p.1 = false → ∃ c, p.2 = [c])
  | [], ps, h => by simp only [resS] at h; injection h with h; subst h; exact ⟨by simp, by simp⟩
  | .tmp t :: r, ps, h => by
    simp only [resS] at h
    split at h
    · rename_i v hv
      cases hr : resS E.P st r with
      | none => rw [hr] at h; cases h
      | some q =>
        rw [hr] at h
        simp only [Option.map] at h
        injection h with h; subst h
        obtain ⟨i1, i2⟩ := resS_sound hrep hr
        refine ⟨?_, fun p hp hpf => ?_⟩
        · have hgd : a.tmps.getD t undef = (Tv.one v).den ρ := by rw [Array.getD_eq_getD_getElem?, hrep.slots t _ hv, Option.getD_some]
          simp only [List.mapM_cons, resOne, Sem.run_bind, Sem.run_pure, Result.andThen_ok, hgd, i1]
          rfl
        · rcases List.mem_cons.1 hp with rfl | hp
          · exact ⟨v, rfl⟩
          · exact i2 p hp hpf
    · rename_i cs hv
      cases hr : resS E.P st r with
      | none => rw [hr] at h; cases h
      | some q =>
        rw [hr] at h
        simp only [Option.map] at h
        injection h with h; subst h
        obtain ⟨i1, i2⟩ := resS_sound hrep hr
        refine ⟨?_, fun p hp hpf => ?_⟩
        · have hgd : a.tmps.getD t undef = (Tv.agg cs).den ρ := by rw [Array.getD_eq_getD_getElem?, hrep.slots t _ hv, Option.getD_some]
          simp only [List.mapM_cons, resOne, Sem.run_bind, Sem.run_pure, Result.andThen_ok, hgd, i1]
          rfl
        · rcases List.mem_cons.1 hp with rfl | hp
          · cases hpf
          · exact i2 p hp hpf
    · cases h
  | .cell x t :: r, ps, h => by
    simp only [resS] at h
    split at h
    · rename_i id off n hv hs
      split at h
      · rename_i cs hk
        cases hb : isAggT E.P t || Nat.beq n 1 with
        | false => rw [hb] at h; cases h
        | true =>
          rw [hb] at h
          simp only [cond_true] at h
          cases hr : resS E.P st r with
          | none => rw [hr] at h; cases h
          | some q =>
            rw [hr] at h
            simp only [Option.map] at h
            injection h with h; subst h
            obtain ⟨i1, i2⟩ := resS_sound hrep hr
            obtain ⟨b, o, ha, _, hl, hc⟩ := blkAt_sound hrep.mem hk
            have h1 : isAggT E.P t = false → cs.length = 1 := fun hf => by
              rw [hf] at hb; rw [hl]; simpa using beq_iff.1 (by simpa using hb)
            refine ⟨?_, fun p hp hpf => ?_⟩
            · have hgd : a.tmps.getD x undef = (Tv.one (.ptr id off)).den ρ := by rw [Array.getD_eq_getD_getElem?, hrep.slots x _ hv, Option.getD_some]
              have hl' := run_loadVar (P := E.P) (w := w) (t := t) (b := b) (o := o + off) (cs := dens ρ cs) (by rw [dens_length, hl]; exact hs) hc (fun hf => by rw [dens_length]; exact h1 hf)
              have had : (asAddr (a.tmps.getD x undef)).run E.P w = .ok ⟨b, o + off, none⟩ w := by rw [hgd]; simp only [Tv.den, SV.den, Env.at, ha, Option.map_some, asAddr, Sem.run_pure]
              simp only [List.mapM_cons, resOne, Sem.run_bind, Sem.run_pure, Result.andThen_ok, i1, had, hl']
              congr 1
              cases hg : isAggT E.P t <;> simp [denPart]
            · rcases List.mem_cons.1 hp with rfl | hp
              · have := h1 hpf
                match cs, this with
                | [c], _ => exact ⟨c, rfl⟩
              · exact i2 p hp hpf
      · cases h
    · cases h

theorem results_sound {fn : Func} (hrep : Rep R ρ nt st a w) {v : Tv} (h : (resS E.P st fn.results.toList).bind mkRes = some v) : (results fn a.tmps).run E.P w = .ok (v.den ρ) w := by
  cases hr : resS E.P st fn.results.toList with
  | none => rw [hr] at h; cases h
  | some ps =>
    rw [hr] at h
    simp only [Option.bind] at h
    obtain ⟨h1, h2⟩ := resS_sound hrep hr
    rw [results_eq]
    simp only [Array.mapM_eq_mapM_toList, Sem.run_bind, Sem.run_map, h1, Result.andThen_ok, Sem.run_pure]
    congr 1
    match ps, h, h2 with
    | [], h, _ => simp only [mkRes] at h; injection h with h; subst h; rfl
    | [(true, cs)], h, _ => simp only [mkRes] at h; injection h with h; subst h; simp [denPart, Tv.den]
    | [(false, cs)], h, h2 =>
      obtain ⟨c, hc⟩ := h2 _ (List.mem_singleton.2 rfl) rfl
      simp only at hc
      subst hc
      simp only [mkRes] at h; injection h with h; subst h
      simp [denPart, Tv.den, dens]
    | p :: q :: r, h, _ =>
      have : v = .tup (p :: q :: r) := by
        unfold mkRes at h
        split at h
        · rename_i e; injection e with _ e; cases e
        · rename_i e; injection e with _ e; cases e
        · rename_i e; injection e with _ e; cases e
        · injection h with h; exact h.symm
      subst this
      simp [Tv.den]

theorem look_newOnes {lo : Nat} {ids : List Nat} : ∀ {gh : Gh} {k : Nat} {og : Option Gb}, look (newOnes lo ids gh) k = some og → lo ≤ k ∧ og = look gh k
  | [], k, og, h => by simp [newOnes, look] at h
  | (a, g) :: r, k, og, h => by
    simp only [newOnes] at h
    cases hb : Nat.ble lo a && memN a ids with
    | true =>
      rw [hb] at h
      simp only [cond_true, look_cons] at h
      rw [Bool.and_eq_true] at hb
      by_cases e : a = k
      · rw [if_pos e] at h; injection h with h; subst h; subst e
        exact ⟨Nat.le_of_ble_eq_true hb.1, by rw [look_cons, if_pos rfl]⟩
      · rw [if_neg e] at h
        obtain ⟨h1, h2⟩ := look_newOnes h
        exact ⟨h1, by rw [look_cons, if_neg e]; exact h2⟩
    | false =>
      rw [hb] at h
      simp only [cond_false] at h
      obtain ⟨h1, h2⟩ := look_newOnes h
      refine ⟨h1, ?_⟩
      rw [look_cons]
      by_cases e : a = k
      · -- the number is among them or it isn't: the first entry decides
        exfalso
        subst e
        rw [Bool.and_eq_false_iff] at hb
        rcases hb with hb | hb
        · have := Nat.ble_eq_true_of_le h1; rw [hb] at this; cases this
        · have hmem : ∀ (l : Gh) og, look (newOnes lo ids l) a = some og → memN a ids = true := by
            intro l
            induction l with
            | nil => intro og h; simp [newOnes, look] at h
            | cons p l ih =>
              intro og h
              obtain ⟨x, y⟩ := p
              simp only [newOnes] at h
              cases hb' : Nat.ble lo x && memN x ids with
              | true =>
                rw [hb'] at h
                simp only [cond_true, look_cons] at h
                by_cases e : x = a
                · subst e; rw [Bool.and_eq_true] at hb'; exact hb'.2
                · rw [if_neg e] at h; exact ih og h
              | false => rw [hb'] at h; exact ih og h
          rw [hmem r og h] at hb; cases hb
      · rw [if_neg e]; exact h2

theorem look_map {α : Type} (f : Nat → α) : ∀ (ks : List Nat) (k : Nat), look (ks.map fun k => (k, f k)) k = if k ∈ ks then some (f k) else none
  | [], k => by simp [look]
  | x :: r, k => by
    rw [List.map_cons, look_cons, look_map f r k]
    by_cases e : x = k
    · subst e; simp
    · rw [if_neg e]
      by_cases hm : k ∈ r
      · rw [if_pos hm, if_pos (List.mem_cons_of_mem _ hm)]
      · rw [if_neg hm, if_neg]
        intro h; rcases List.mem_cons.1 h with h | h
        · exact e h.symm
        · exact hm h

theorem mem_ownKeys : ∀ {gh : Gh} {k : Nat} {g : Gb}, look gh k = some g → g.isOwn = true → k ∈ ownKeys gh
  | (a, x) :: r, k, g, h, ho => by
    rw [look_cons] at h
    simp only [ownKeys]
    by_cases e : a = k
    · rw [if_pos e] at h; injection h with h; subst h; subst e; rw [ho]; simp
    · rw [if_neg e] at h
      have := mem_ownKeys h ho
      cases x.isOwn <;> simp [this]
  | [], k, g, h, _ => by simp [look] at h

/-- A FUNCTION. -/
theorem execFun_sound (hE : E.Sound) {loops : Nat → Option (St → Tree Out)} {n : Nat} {f : FuncId} {fn : Func} {body : Code} (hf : E.P.funcs[f]? = some fn) (hbody : fn.body = some body)
    (hl : LoopsOK E.P fn.ntmps loops body 0) {args : List Tv} {gh : Gh} {next : Nat} {d : Delta} (h : (execFun E loops n fn body args gh next).reach d)
    (hG : RepG R ρ gh w) (hids : ∀ v ∈ args, ∀ i ∈ v.ids, i < next) (hbd : ∀ id g, look gh id = some g → id < next ∧ ∀ i ∈ g.ids, i < next) :
    CallOK E.P f args R ρ gh next w d ∧ next ≤ d.next := by
  unfold execFun at h
  cases hb : Nat.ble args.length fn.ntmps with
  | false => rw [hb] at h; exact h.elim
  | true =>
    rw [hb] at h
    simp only [cond_true] at h
    have hlen := Nat.le_of_ble_eq_true hb
    obtain ⟨out, h1, h2⟩ := Tree.reach_bind.1 h
    cases hk : Nat.ble out.kind 1 with
    | false => rw [hk] at h2; exact h2.elim
    | true =>
      rw [hk] at h2
      simp only [cond_true] at h2
      have hk1 := Nat.le_of_ble_eq_true hk
      cases hres : (resS E.P out.st fn.results.toList).bind mkRes with
      | none => rw [hres] at h2; exact h2.elim
      | some v =>
        rw [hres] at h2
        cases h2
        have hb0 : Bd ⟨slotsOf 0 args, gh, next⟩ := ⟨fun s v hs i hi => by
          obtain ⟨k, _, h2⟩ := look_slotsOf args 0 s v hs
          exact hids v (List.mem_of_getElem? h2) i hi, hbd⟩
        obtain ⟨b1, l1, k1⟩ := execCode_sound hE body 0 ⟨slotsOf 0 args, gh, next⟩ out hl h1 hb0
        refine ⟨?_, l1⟩
        unfold CallOK
        obtain ⟨argv, hargv⟩ : ∃ argv, argv = (args.map (Tv.den ρ)).toArray := ⟨_, rfl⟩
        have hrep : Rep R ρ fn.ntmps ⟨slotsOf 0 args, gh, next⟩ { tmps := (args.map (Tv.den ρ)).toArray ++ Array.replicate (fn.ntmps - (args.map (Tv.den ρ)).toArray.size) undef, defers := [] } w := by
          refine ⟨by simp; omega, rfl, fun s v hs => ?_, hG⟩
          obtain ⟨k, h1, h2⟩ := look_slotsOf args 0 s v hs
          rw [Nat.zero_add] at h1
          subst h1
          have hlt := (List.getElem?_eq_some_iff.1 h2).1
          rw [Array.getElem?_append_left (by simpa using hlt)]
          simp [h2]
        refine calls_of_wp hf hbody (wp_mono (k1 R ρ _ w hrep) ?_)
        rintro e a' w' ⟨he, R', ρ', hr', hx'⟩
        have hpost : a'.defers = [] ∧ ∃ v', (results fn a'.tmps).run E.P w' = .ok v' w' ∧ ∃ R'' ρ'', Ending.returned v' = .returned (v.den ρ'') ∧ Ext R ρ gh w next R'' ρ'' (applyUpd (retUpd gh next out.st v) gh) w' out.st.next ∧
            RepG R'' ρ'' (applyUpd (retUpd gh next out.st v) gh) w' := by
          refine ⟨hr'.defers, v.den ρ', results_sound hr' hres, R', ρ', rfl, ?_⟩
          -- what the update tells
          have hcase : ∀ id g, look (applyUpd (retUpd gh next out.st v) gh) id = some g → look out.st.gh id = some g ∨ (look gh id = some g ∧ g.isOwn = false) := by
            intro id g hg
            rw [look_applyUpd] at hg
            unfold retUpd at hg
            rw [look_append, look_map] at hg
            by_cases hm : id ∈ ownKeys gh
            · rw [if_pos hm] at hg; exact .inl hg
            · rw [if_neg hm] at hg
              simp only [Option.elim] at hg
              cases hn : look (newOnes next (reachN out.st.gh 8 (v.ids ++ ownKeys gh)) out.st.gh) id with
              | some og =>
                rw [hn] at hg
                obtain ⟨_, h2⟩ := look_newOnes hn
                change og = some g at hg
                rw [← h2, hg]; exact .inl rfl
              | none =>
                rw [hn] at hg
                right
                refine ⟨hg, ?_⟩
                cases ho : g.isOwn with
                | false => rfl
                | true => exact absurd (mem_ownKeys hg ho) hm
          have hnotown : ∀ {g : Gb} {id b : Nat} {ρ : Env}, g.isOwn = false → g.ownB ρ id = some b → False := by
            intro g id b ρ h1 h2; cases g <;> simp [Gb.isOwn] at h1 <;> simp [Gb.ownB] at h2
          have hRk : ∀ b, R b → R' b ∧ w'.heap[b]? = w.heap[b]? := fun b hb => ⟨hx'.sub b hb, hx'.keep b (hG.rlt b hb) fun ⟨id, g, hg, ho⟩ => (hG.olt id g b hg ho).2 hb⟩
          have hown : ∀ id g b, look (applyUpd (retUpd gh next out.st v) gh) id = some g → g.ownB ρ' id = some b → look out.st.gh id = some g := by
            intro id g b hg ho
            rcases hcase id g hg with h | ⟨_, h⟩
            · exact h
            · exact (hnotown h ho).elim
          refine ⟨⟨hx'.size, hx'.os, hx'.tape, hx'.output, hx'.keep, hx'.env, hx'.sub, hx'.newR, fun b ⟨id, g, hg, ho⟩ => hx'.newO b ⟨id, g, hown id g b hg ho, ho⟩⟩, ?_⟩
          refine ⟨fun id g hg => ?_, hr'.mem.rlt, fun id g b hg ho => hr'.mem.olt id g b (hown id g b hg ho) ho, fun id id' g g' b h1 h2 h3 h4 => hr'.mem.sep id id' g g' b (hown id g b h1 h3) (hown id' g' b h2 h4) h3 h4⟩
          rcases hcase id g hg with h | ⟨h, hno⟩
          · exact hr'.mem.facts id g h
          · exact Gfact.mono (p := fun i => i < next) hRk (fun i hi => hx'.env i (.inl hi)) (hbd id g h).1 (hbd id g h).2 (fun b hb => (hnotown hno hb).elim) (hG.facts id g h)
        rcases Nat.lt_or_ge out.kind 1 with h0 | h0
        · have : out.kind = 0 := by omega
          rw [this] at he; subst he; exact hpost
        · have : out.kind = 1 := by omega
          rw [this] at he; subst he; exact hpost
end
end Sx
