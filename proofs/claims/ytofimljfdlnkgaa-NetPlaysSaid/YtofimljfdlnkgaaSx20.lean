/- A symbolic executor for the model's code: contracts. -/
import Derived.Test.YtofimljfdlnkgaaSx19
namespace Sx
open Go Go.RowKit

abbrev Spec := List Tv → Gh → Nat → Option (Tree Delta)

def SpecOK (P : Program) (f : FuncId) (sp : Spec) : Prop :=
  ∀ args gh next t d, sp args gh next = some t → t.reach d → ∀ R ρ w, RepG R ρ gh w → (∀ v ∈ args, ∀ i ∈ v.ids, i < next ∨ d.next ≤ i) →
    (∀ id g, look gh id = some g → (id < next ∨ d.next ≤ id) ∧ ∀ i ∈ g.ids, i < next ∨ d.next ≤ i) → CallOK P f args R ρ gh next w d

def mkEx (P : Program) (tab : List (Nat × Spec)) : Ex := { P := P, call := fun f args gh next => match look tab f with | some sp => sp args gh next | none => none }
/-- the same, the ways through a statement's tests told as one -/
def mkExM (P : Program) (tab : List (Nat × Spec)) : Ex := { P := P, call := fun f args gh next => match look tab f with | some sp => sp args gh next | none => none, merge := true }

def TabOK (P : Program) : List (Nat × Spec) → Prop
  | [] => True
  | (f, sp) :: r => SpecOK P f sp ∧ TabOK P r

theorem mkEx_sound {P : Program} : ∀ {tab : List (Nat × Spec)}, TabOK P tab → (mkEx P tab).Sound := by
  intro tab h f args gh next t d ht hr R ρ w hG hi hb
  have key : ∀ (tab : List (Nat × Spec)) sp, TabOK P tab → look tab f = some sp → SpecOK P f sp := by
    intro tab
    induction tab with
    | nil => intro sp _ h; simp [look] at h
    | cons p r ih =>
      obtain ⟨a, b⟩ := p
      intro sp h hl
      rw [look_cons] at hl
      by_cases e : a = f
      · rw [if_pos e] at hl; injection hl with hl; subst hl; subst e; exact h.1
      · rw [if_neg e] at hl; exact ih sp h.2 hl
  simp only [mkEx] at ht
  cases hl : look tab f with
  | none => rw [hl] at ht; cases ht
  | some sp => rw [hl] at ht; exact key tab sp h hl args gh next t d ht hr R ρ w hG hi hb

/-- the same, what make gives told cell by cell -/
def mkExC (P : Program) (tab : List (Nat × Spec)) : Ex := { P := P, call := fun f args gh next => match look tab f with | some sp => sp args gh next | none => none, lits := true }
theorem mkExC_sound {P : Program} {tab : List (Nat × Spec)} (h : TabOK P tab) : (mkExC P tab).Sound := mkEx_sound h
theorem mkExM_sound {P : Program} {tab : List (Nat × Spec)} (h : TabOK P tab) : (mkExM P tab).Sound := mkEx_sound h

/-! ### a function entered in place -/
def maxId (next : Nat) (args : List Tv) (gh : Gh) : Bool :=
  (args.all fun v => ltAll next v.ids) && gh.all fun p => Nat.blt p.1 next && ltAll next p.2.ids

def inl (E : Ex) (loops : Nat → Option (St → Tree Out)) (n : Nat) (fn : Func) (body : Code) : Spec := fun args gh next =>
  bif maxId next args gh then some (execFun E loops n fn body args gh next) else none

theorem inl_ok {E : Ex} (hE : E.Sound) {loops : Nat → Option (St → Tree Out)} {n : Nat} {f : FuncId} {fn : Func} {body : Code} (hf : E.P.funcs[f]? = some fn) (hbody : fn.body = some body)
    (hl : LoopsOK E.P fn.ntmps loops body 0) : SpecOK E.P f (inl E loops n fn body) := by
  intro args gh next t d ht hr R ρ w hG _ _
  unfold inl at ht
  cases hb : maxId next args gh with
  | false => rw [hb] at ht; cases ht
  | true =>
    rw [hb] at ht
    simp only [cond_true] at ht
    injection ht with ht
    subst ht
    unfold maxId at hb
    rw [Bool.and_eq_true] at hb
    refine (execFun_sound hE hf hbody hl hr hG (fun v hv => ltAll_iff.1 (List.all_eq_true.1 hb.1 v hv)) fun id g hg => ?_).1
    have hmem : ∀ (l : Gh), look l id = some g → (id, g) ∈ l := by
      intro l
      induction l with
      | nil => intro h; simp [look] at h
      | cons p r ih =>
        intro h
        obtain ⟨a, b⟩ := p
        rw [look_cons] at h
        by_cases e : a = id
        · rw [if_pos e] at h; injection h with h; subst h; subst e; simp
        · rw [if_neg e] at h; exact List.mem_cons_of_mem _ (ih h)
    have := List.all_eq_true.1 hb.2 _ (hmem gh hg)
    rw [Bool.and_eq_true] at this
    exact ⟨blt_iff.1 this.1, ltAll_iff.1 this.2⟩

theorem noLoops {P : Program} {nt : Nat} {c : Code} {i : Nat} : LoopsOK P nt (fun _ => none) c i := fun _ _ _ h => by cases h

/-! ### a function that only computes -/
def Ty.isAgg : Ty → Bool
  | .cat _ _ | .rep _ _ | .unit => true
  | _ => false

def valT (t : Ty) (cs : List Value) : Value := if t.isAgg then .agg cs.toArray else cs.headD undef

def ArgsR (R : Nat → Prop) (w : World) : (ts : List Ty) → TDs ts → List Value → Prop
  | [], _, vs => vs = []
  | t :: ts, xs, vs => ∃ cs r, vs = valT t cs :: r ∧ ReadsC R w t xs.1 cs ∧ ArgsR R w ts xs.2 r

def tvC (t : Ty) (v : Tv) : Option (List SV) :=
  match t.isAgg, v with
  | true, .agg cs => some cs
  | false, .one s => some [s]
  | _, _ => none

def collectA (gh : Gh) : (ts : List Ty) → List Tv → Option (TDs ts)
  | [], vs => match vs with | [] => some () | _ => none
  | t :: ts, vs =>
    match vs with
    | v :: r =>
      match tvC t v with
      | none => none
      | some cs =>
        match collect gh t cs with
        | none => none
        | some x => match collectA gh ts r with | none => none | some y => some (x, y)
    | [] => none

def expandR : (ts : List Ty) → TDs ts → Nat → Option (List (Bool × List SV) × Gh × Nat)
  | [], _, n => some ([], [], n)
  | t :: ts, xs, n =>
    match expand t xs.1 n with
    | none => none
    | some (c1, g1, n1) =>
      match expandR ts xs.2 n1 with
      | none => none
      | some (c2, g2, n2) => some ((t.isAgg, c1) :: c2, g1 ++ g2, n2)

def retV : List Value → Value
  | [v] => v
  | vs => .tuple vs.toArray

/-- the result of a call that makes memory: what is new may be read -/
def Rnew (R : Nat → Prop) (w w' : World) (b : Nat) : Prop := R b ∨ (w.heap.size ≤ b ∧ b < w'.heap.size)

def PureOK (P : Program) (f : FuncId) (ts rs : List Ty) (pre : TDs ts → Prop) (F : TDs ts → TDs rs) : Prop :=
  ∀ R w xs args, (∀ b, R b → b < w.heap.size) → ArgsR R w ts xs args → pre xs →
    Calls P f args.toArray w fun e w' => ∃ vs, e = .returned (retV vs) ∧ ArgsR (Rnew R w w') w' rs (F xs) vs ∧ Below w.heap.size w w'

def flats (rs : List Ty) : Bool := rs.all Ty.flat

def pureSp (ts rs : List Ty) (pre : TDs ts → Prop) (F : TDs ts → TDs rs) : Spec := fun args gh next =>
  match collectA gh ts args with
  | none => none
  | some xs => some (.req (pre xs) (
    match expandR rs (F xs) next with
    | none => .fail "a result that is not told"
    | some (ps, g, n') =>
      match mkRes ps with
      | some v => .leaf ⟨v, (match flats rs with | true => [] | false => updOf g ++ absorbO gh gh), n'⟩
      | none => .fail "a result that is not told"))

section
variable {P : Program} {R : Nat → Prop} {ρ : Env} {gh : Gh} {next : Nat} {w : World}

theorem collectA_sound (hG : RepG R ρ gh w) : ∀ {ts : List Ty} {vs : List Tv} {xs : TDs ts}, collectA gh ts vs = some xs → ArgsR (Rplus R ρ gh) w ts xs (vs.map (Tv.den ρ))
  | [], vs, xs, h => by
    cases vs with
    | nil => exact rfl
    | cons v r => simp [collectA] at h
  | t :: ts, vs, xs, h => by
    cases vs with
    | nil => simp [collectA] at h
    | cons v r =>
      simp only [collectA] at h
      cases hc : tvC t v with
      | none => rw [hc] at h; cases h
      | some cs =>
        rw [hc] at h
        simp only at h
        cases hx : collect gh t cs with
        | none => rw [hx] at h; cases h
        | some x =>
          rw [hx] at h
          simp only at h
          cases hy : collectA gh ts r with
          | none => rw [hy] at h; cases h
          | some y =>
            rw [hy] at h
            simp only at h
            injection h with h; subst h
            refine ⟨dens ρ cs, r.map (Tv.den ρ), ?_, collect_sound hG t cs x hx, collectA_sound hG hy⟩
            simp only [List.map_cons]
            congr 1
            unfold tvC at hc
            unfold valT
            split at hc
            · rename_i ha; injection hc with hc; subst hc; rw [ha]; rfl
            · rename_i ha; injection hc with hc; subst hc; rw [ha]; rfl
            · cases hc

theorem expandR_sound {R : Nat → Prop} {w : World} : ∀ {ts : List Ty} {xs : TDs ts} {n : Nat} {ps : List (Bool × List SV)} {g : Gh} {n' : Nat} {ρ : Env} {vs : List Value}, expandR ts xs n = some (ps, g, n') → ArgsR R w ts xs vs →
    ∃ ρ', Exq R w ρ n g n' ρ' ∧ vs = ps.map (denPart ρ') ∧ (∀ p ∈ ps, ∀ i ∈ idsOf p.2, n ≤ i ∧ i < n')
  | [], xs, n, ps, g, n', ρ, vs, h, hr => by
    simp only [expandR] at h
    injection h with h; injection h with h1 h; injection h with h2 h3
    subst h1; subst h2; subst h3
    have : vs = [] := hr
    subst this
    exact ⟨ρ, .nil, rfl, by simp⟩
  | t :: ts, xs, n, ps, g, n', ρ, vs, h, ⟨cs, r, e, hr1, hr2⟩ => by
    subst e
    simp only [expandR] at h
    cases h1 : expand t xs.1 n with
    | none => rw [h1] at h; cases h
    | some q =>
      obtain ⟨c1, g1, n1⟩ := q
      rw [h1] at h
      simp only at h
      cases h2 : expandR ts xs.2 n1 with
      | none => rw [h2] at h; cases h
      | some q =>
        obtain ⟨c2, g2, n2⟩ := q
        rw [h2] at h
        simp only at h
        injection h with h; injection h with e1 h; injection h with e2 e3
        subst e1; subst e2; subst e3
        obtain ⟨ρ1, x1⟩ := expand_sound t xs.1 n c1 g1 n1 ρ cs h1 hr1
        obtain ⟨ρ2, x2, v2, i2⟩ := expandR_sound h2 hr2 (ρ := ρ1)
        have hl := x1.le
        have kl := x2.le
        refine ⟨ρ2, ⟨by omega, fun id hid => ?_, fun id b hb => ?_⟩, ?_, fun p hp i hi => ?_⟩
        · exact (x2.same id (hid.imp (fun h => by omega) fun h => h)).trans (x1.same id (hid.imp (fun h => h) fun h => by omega))
        · rw [look_append] at hb
          cases hg : look g1 id with
          | some b' =>
            rw [hg] at hb; simp at hb; subst hb
            obtain ⟨a1, a2, a3, a4⟩ := x1.gh id b' hg
            exact ⟨by omega, fun i hi => by have := a2 i hi; omega, a3, Gfact.mono (fun _ hb => ⟨hb, rfl⟩) x2.same (.inl a1.2) (fun i hi => .inl (a2 i hi).2) (fun _ _ => rfl) a4⟩
          | none =>
            rw [hg] at hb
            obtain ⟨a1, a2, a3, a4⟩ := x2.gh id b hb
            exact ⟨by omega, fun i hi => by have := a2 i hi; omega, a3, a4⟩
        · simp only [List.map_cons]
          rw [v2]
          congr 1
          have : cs = dens ρ2 c1 := by rw [x1.vals]; exact (dens_same x2.same fun i hi => .inl (x1.ids i hi).2).symm
          subst this
          unfold valT
          cases t.isAgg <;> rfl
        · rcases List.mem_cons.1 hp with rfl | hp
          · have := x1.ids i hi; omega
          · have := i2 p hp i hi; omega

theorem mkRes_den {ps : List (Bool × List SV)} {v : Tv} (h : mkRes ps = some v) : v.den ρ = retV (ps.map (denPart ρ)) := by
  unfold mkRes at h
  split at h
  · injection h with h; subst h; rfl
  · injection h with h; subst h; rfl
  · cases h
  · rename_i h1 h2 h3
    injection h with h; subst h
    simp only [Tv.den, retV]
    match ps, h3 with
    | [], _ => rfl
    | [p], h3 => exact absurd rfl (h3 p)
    | p :: q :: r, _ => rfl

theorem ArgsR.mono {R R' : Nat → Prop} {w w' : World} (hR : ∀ b, R b → R' b ∧ w'.heap[b]? = w.heap[b]?) : ∀ {ts : List Ty} {xs : TDs ts} {vs : List Value}, ArgsR R w ts xs vs → ArgsR R' w' ts xs vs
  | [], _, _, h => h
  | t :: _, _, _, ⟨cs, r, e, h1, h2⟩ => ⟨cs, r, e, ReadsC.mono hR t _ _ h1, ArgsR.mono hR h2⟩

theorem ArgsR.flat {R R' : Nat → Prop} {w w' : World} : ∀ {ts : List Ty} {xs : TDs ts} {vs : List Value}, flats ts = true → ArgsR R w ts xs vs → ArgsR R' w' ts xs vs
  | [], _, _, _, h => h
  | t :: ts, _, _, hf, ⟨cs, r, e, h1, h2⟩ => by
    simp only [flats, List.all_cons, Bool.and_eq_true] at hf
    exact ⟨cs, r, e, ReadsC.flat t _ _ hf.1 h1, ArgsR.flat (by simpa [flats] using hf.2) h2⟩

theorem expand_flat : ∀ (t : Ty) (x : TD t) (n : Nat) cs g n', t.flat = true → expand t x n = some (cs, g, n') → g = [] ∧ n' = n
  | .int _, x, n, cs, g, n', _, h => by simp only [expand] at h; injection h with h; injection h with _ h; injection h with h1 h2; exact ⟨h1.symm, h2.symm⟩
  | .bool, x, n, cs, g, n', _, h => by simp only [expand] at h; injection h with h; injection h with _ h; injection h with h1 h2; exact ⟨h1.symm, h2.symm⟩
  | .str, x, n, cs, g, n', _, h => by simp only [expand] at h; injection h with h; injection h with _ h; injection h with h1 h2; exact ⟨h1.symm, h2.symm⟩
  | .unit, x, n, cs, g, n', _, h => by simp only [expand] at h; injection h with h; injection h with _ h; injection h with h1 h2; exact ⟨h1.symm, h2.symm⟩
  | .fnl _, x, n, cs, g, n', _, h => by simp only [expand] at h; injection h with h; injection h with _ h; injection h with h1 h2; exact ⟨h1.symm, h2.symm⟩
  | .cat a b, x, n, cs, g, n', hf, h => by
    simp only [Ty.flat, Bool.and_eq_true] at hf
    simp only [expand] at h
    cases h1 : expand a x.1 n with
    | none => rw [h1] at h; cases h
    | some q =>
      obtain ⟨c1, g1, n1⟩ := q
      rw [h1] at h
      simp only at h
      cases h2 : expand b x.2 n1 with
      | none => rw [h2] at h; cases h
      | some q =>
        obtain ⟨c2, g2, n2⟩ := q
        rw [h2] at h
        simp only at h
        injection h with h; injection h with e1 h; injection h with e2 e3
        obtain ⟨a1, a2⟩ := expand_flat a x.1 n c1 g1 n1 hf.1 h1
        obtain ⟨b1, b2⟩ := expand_flat b x.2 n1 c2 g2 n2 hf.2 h2
        subst a1; subst b1; exact ⟨e2.symm, by omega⟩
  | .rep m a, xs, n, cs, g, n', hf, h => by
    simp only [expand] at h
    have key : ∀ (c j n : Nat) cs g n', expandN (expand a) xs (TD.z a) c j n = some (cs, g, n') → g = [] ∧ n' = n := by
      intro c
      induction c with
      | zero => intro j n cs g n' h; simp only [expandN] at h; injection h with h; injection h with _ h; injection h with h1 h2; exact ⟨h1.symm, h2.symm⟩
      | succ c ih =>
        intro j n cs g n' h
        simp only [expandN] at h
        cases h1 : expand a (List.getD xs j (TD.z a)) n with
        | none => rw [h1] at h; cases h
        | some q =>
          obtain ⟨c1, g1, n1⟩ := q
          rw [h1] at h
          simp only at h
          cases h2 : expandN (expand a) xs (TD.z a) c (j + 1) n1 with
          | none => rw [h2] at h; cases h
          | some q =>
            obtain ⟨c2, g2, n2⟩ := q
            rw [h2] at h
            simp only at h
            injection h with h; injection h with e1 h; injection h with e2 e3
            obtain ⟨a1, a2⟩ := expand_flat a _ n c1 g1 n1 (by simpa [Ty.flat] using hf) h1
            obtain ⟨b1, b2⟩ := ih (j + 1) n1 c2 g2 n2 h2
            subst a1; subst b1; exact ⟨e2.symm, by omega⟩
    exact key m 0 n cs g n' h
  | .slice _, _, _, _, _, _, hf, _ => by simp [Ty.flat] at hf
  | .ptr _, _, _, _, _, _, hf, _ => by simp [Ty.flat] at hf
  | .optr _, _, _, _, _, _, hf, _ => by simp [Ty.flat] at hf
  | .clo _ _, _, _, _, _, _, hf, _ => by simp [Ty.flat] at hf

theorem expandR_flat : ∀ {ts : List Ty} {xs : TDs ts} {n : Nat} {ps g n'}, flats ts = true → expandR ts xs n = some (ps, g, n') → g = [] ∧ n' = n
  | [], xs, n, ps, g, n', _, h => by simp only [expandR] at h; injection h with h; injection h with _ h; injection h with h1 h2; exact ⟨h1.symm, h2.symm⟩
  | t :: ts, xs, n, ps, g, n', hf, h => by
    simp only [flats, List.all_cons, Bool.and_eq_true] at hf
    simp only [expandR] at h
    cases h1 : expand t xs.1 n with
    | none => rw [h1] at h; cases h
    | some q =>
      obtain ⟨c1, g1, n1⟩ := q
      rw [h1] at h
      simp only at h
      cases h2 : expandR ts xs.2 n1 with
      | none => rw [h2] at h; cases h
      | some q =>
        obtain ⟨c2, g2, n2⟩ := q
        rw [h2] at h
        simp only at h
        injection h with h; injection h with e1 h; injection h with e2 e3
        obtain ⟨a1, a2⟩ := expand_flat t xs.1 n c1 g1 n1 hf.1 h1
        obtain ⟨b1, b2⟩ := expandR_flat (by simpa [flats] using hf.2) h2
        subst a1; subst b1; exact ⟨e2.symm, by omega⟩

/-- A CONTRACT OF A FUNCTION THAT ONLY COMPUTES, for its callers. -/
theorem pureSp_ok {f : FuncId} {ts rs : List Ty} {pre : TDs ts → Prop} {F : TDs ts → TDs rs} (h : PureOK P f ts rs pre F) : SpecOK P f (pureSp ts rs pre F) := by
  intro args gh next t d ht hr R ρ w hG hids hbd
  unfold pureSp at ht
  cases hc : collectA gh ts args with
  | none => rw [hc] at ht; cases ht
  | some xs =>
    rw [hc] at ht
    simp only at ht
    injection ht with ht
    subst ht
    obtain ⟨hpre, hr⟩ := hr
    cases he : expandR rs (F xs) next with
    | none => rw [he] at hr; exact hr.elim
    | some q =>
      obtain ⟨ps, g, n'⟩ := q
      rw [he] at hr
      simp only at hr
      cases hm : mkRes ps with
      | none => rw [hm] at hr; exact hr.elim
      | some v =>
        rw [hm] at hr
        have hargs := collectA_sound hG hc
        have hRp : ∀ b, Rplus R ρ gh b → b < w.heap.size := by
          rintro b (h | ⟨id, g, h1, h2⟩)
          · exact hG.rlt b h
          · exact (hG.olt id g b h1 h2).1
        cases hr
        unfold CallOK
        refine (h (Rplus R ρ gh) w xs (args.map (Tv.den ρ)) hRp hargs hpre).mono ?_
        rintro e w' ⟨vs, he', hres, hbelow⟩
        have hold : ∀ b, b < w.heap.size → w'.heap[b]? = w.heap[b]? := hbelow.block
        cases hf : flats rs with
        | true =>
          obtain ⟨e1, e2⟩ := expandR_flat hf he
          subst e1; subst e2
          obtain ⟨ρ', x1, x2, x3⟩ := expandR_sound (ρ := ρ) he hres
          have hps : ∀ p ∈ ps, ∀ i ∈ idsOf p.2, False := fun p hp i hi => by have := x3 p hp i hi; omega
          have hsame : ps.map (denPart ρ') = ps.map (denPart ρ) := List.map_congr_left fun p hp => by
            have : dens ρ' p.2 = dens ρ p.2 := dens_same (p := fun _ => False) (fun _ h => h.elim) (fun i hi => hps p hp i hi)
            obtain ⟨b, cs⟩ := p
            cases b <;> simp only [denPart] <;> simp only at this <;> rw [this]
          refine ⟨R, ρ, by rw [he', mkRes_den hm, x2, hsame], ?_⟩
          have hG' : RepG R ρ gh w' := ⟨fun id g hg => Gfact.mono (p := fun _ => True) (fun b hb => ⟨hb, hold b (hG.rlt b hb)⟩) (fun _ _ => rfl) trivial (fun _ _ => trivial) (fun b hb => hold b (hG.olt id g b hg hb).1) (hG.facts id g hg),
            fun b hb => Nat.lt_of_lt_of_le (hG.rlt b hb) hbelow.size, fun id g b hg hb => ⟨Nat.lt_of_lt_of_le (hG.olt id g b hg hb).1 hbelow.size, (hG.olt id g b hg hb).2⟩, hG.sep⟩
          exact ⟨⟨hbelow.size, hbelow.os, hbelow.tape, hbelow.output, fun b hb _ => hold b hb, fun _ _ => rfl, fun _ h => h, fun _ h => .inl h, fun _ h => .inl h⟩, hG'⟩
        | false =>
          obtain ⟨ρ', x1, x2, x3⟩ := expandR_sound (ρ := ρ) he hres
          refine ⟨Rnew (Rplus R ρ gh) w w', ρ', by rw [he', mkRes_den hm, x2], ?_⟩
          have hlook : ∀ k, look (applyUpd (updOf g ++ absorbO gh gh) gh) k = (look g k).elim ((look gh k).map Gb.abs) some := by
            intro k
            rw [look_applyUpd, look_append, look_updOf]
            cases look g k with
            | some x => rfl
            | none => exact absorbO_same gh k
          have hRn : ∀ b, R b → Rnew (Rplus R ρ gh) w w' b := fun b hb => .inl (.inl hb)
          have hnone : ∀ k b c, look (applyUpd (updOf g ++ absorbO gh gh) gh) k = some b → b.ownB ρ' k = some c → False := by
            intro k b c hb hc
            rw [hlook] at hb
            cases hg : look g k with
            | some x =>
              rw [hg] at hb; simp at hb; subst hb
              have := (x1.gh k x hg).2.2.1
              cases x <;> simp [Gb.isOwn] at this <;> simp [Gb.ownB] at hc
            | none =>
              rw [hg] at hb
              simp only [Option.elim] at hb
              cases hl : look gh k with
              | none => rw [hl] at hb; cases hb
              | some y => rw [hl] at hb; simp only [Option.map] at hb; injection hb with hb; subst hb; rw [Gb.abs_own] at hc; cases hc
          refine ⟨⟨hbelow.size, hbelow.os, hbelow.tape, hbelow.output, fun b hb _ => hold b hb, fun id hid => x1.same id hid, hRn, ?_, ?_⟩, ?_⟩
          · rintro b ((h | h) | h)
            · exact .inl h
            · exact .inr (.inl h)
            · exact .inr (.inr h.1)
          · rintro b ⟨k, gb, h1, h2⟩; exact (hnone k gb b h1 h2).elim
          · refine ⟨fun k b hb => ?_, ?_, fun k gb b h1 h2 => (hnone k gb b h1 h2).elim, fun k k' gb gb' b h1 h2 h3 h4 => (hnone k gb b h1 h3).elim⟩
            · rw [hlook] at hb
              cases hg : look g k with
              | some x => rw [hg] at hb; simp at hb; subst hb; exact (x1.gh k x hg).2.2.2
              | none =>
                rw [hg] at hb
                simp only [Option.elim] at hb
                cases hl : look gh k with
                | none => rw [hl] at hb; cases hb
                | some y =>
                  rw [hl] at hb; simp only [Option.map] at hb; injection hb with hb; subst hb
                  have h0 : Gfact (Rplus R ρ gh) w ρ k y.abs := Gfact.abs hG hl (fun b hb => .inl hb) (fun b hb => .inr ⟨k, y, hl, hb⟩)
                  refine Gfact.mono (fun b hb => ⟨.inl hb, hold b (hRp b hb)⟩) x1.same (hbd k y hl).1 (by rw [abs_ids]; exact (hbd k y hl).2) (fun b hb => ?_) h0
                  rw [Gb.abs_own] at hb; cases hb
            · rintro b (h | h)
              · exact Nat.lt_of_lt_of_le (hRp b h) hbelow.size
              · exact h.2

/-- how a function is entered -/
def argTv : Bool × List SV → Option Tv
  | (true, cs) => some (.agg cs)
  | (false, [c]) => some (.one c)
  | _ => none

def argTvs : List (Bool × List SV) → Option (List Tv)
  | [] => some []
  | p :: r =>
    match argTv p with
    | none => none
    | some v => match argTvs r with | none => none | some l => some (v :: l)

theorem argTvs_den {ρ : Env} : ∀ {ps : List (Bool × List SV)} {vs : List Tv}, argTvs ps = some vs → vs.map (Tv.den ρ) = ps.map (denPart ρ) ∧ ∀ v ∈ vs, ∀ i ∈ v.ids, ∃ p ∈ ps, i ∈ idsOf p.2
  | [], vs, h => by simp only [argTvs] at h; injection h with h; subst h; exact ⟨rfl, by simp⟩
  | p :: r, vs, h => by
    simp only [argTvs] at h
    cases h1 : argTv p with
    | none => rw [h1] at h; cases h
    | some v =>
      rw [h1] at h
      simp only at h
      cases h2 : argTvs r with
      | none => rw [h2] at h; cases h
      | some l =>
        rw [h2] at h
        simp only at h
        injection h with h; subst h
        obtain ⟨i1, i2⟩ := argTvs_den (ρ := ρ) h2
        have hv : v.den ρ = denPart ρ p ∧ v.ids = idsOf p.2 := by
          unfold argTv at h1
          split at h1
          · injection h1 with h1; subst h1; exact ⟨rfl, rfl⟩
          · injection h1 with h1; subst h1; exact ⟨rfl, by simp [Tv.ids, idsOf]⟩
          · cases h1
        refine ⟨by simp only [List.map_cons, hv.1, i1], fun u hu i hi => ?_⟩
        rcases List.mem_cons.1 hu with rfl | hu
        · exact ⟨p, List.mem_cons_self, by rw [← hv.2]; exact hi⟩
        · obtain ⟨q, hq, hq'⟩ := i2 u hu i hi
          exact ⟨q, List.mem_cons_of_mem _ hq, hq'⟩

/-- results as parts -/
def partsOf : Tv → Nat → Option (List Tv)
  | .tup vs, n => bif Nat.beq n 1 then none else argTvs vs
  | v, n => bif Nat.beq n 1 then some [v] else none

/-- the meaning of a function, as a tree over data -/
def pureTree (E : Ex) (loops : Nat → Option (St → Tree Out)) (n : Nat) (fn : Func) (body : Code) (ts rs : List Ty) (xs : TDs ts) : Tree (TDs rs) :=
  match expandR ts xs 0 with
  | none => .fail "arguments"
  | some (ps, gh, next) =>
    match argTvs ps with
    | none => .fail "arguments"
    | some args => (execFun E loops n fn body args gh next).bind fun d => ofO "results no such data" ((partsOf d.val rs.length).bind fun vs => collectA (applyUpd d.upd gh) rs vs)

theorem pure_of_tree {E : Ex} (hE : E.Sound) {loops : Nat → Option (St → Tree Out)} {n : Nat} {f : FuncId} {fn : Func} {body : Code} (hf : E.P.funcs[f]? = some fn) (hbody : fn.body = some body)
    (hl : LoopsOK E.P fn.ntmps loops body 0) {ts rs : List Ty} {pre : TDs ts → Prop} {F : TDs ts → TDs rs} (h : ∀ xs, pre xs → (pureTree E loops n fn body ts rs xs).all fun y => y = F xs) : PureOK E.P f ts rs pre F := by
  intro R w xs args hR hargs hpre
  have hall := h xs hpre
  unfold pureTree at hall
  cases he : expandR ts xs 0 with
  | none => rw [he] at hall; exact hall.elim
  | some q =>
    obtain ⟨ps, gh, next⟩ := q
    rw [he] at hall
    simp only at hall
    cases hv : argTvs ps with
    | none => rw [hv] at hall; exact hall.elim
    | some vs =>
      rw [hv] at hall
      simp only at hall
      obtain ⟨ρ, x1, x2, x3⟩ := expandR_sound (ρ := fun _ => ⟨none, 0, 0⟩) he hargs
      obtain ⟨a1, a2⟩ := argTvs_den (ρ := ρ) hv
      have hG : RepG R ρ gh w := by
        refine ⟨fun id g hg => (x1.gh id g hg).2.2.2, hR, fun id g b hg hb => ?_, fun id id' g g' b hg hg' hb hb' => ?_⟩
        · have := (x1.gh id g hg).2.2.1
          cases g <;> simp [Gb.isOwn] at this <;> simp [Gb.ownB] at hb
        · have := (x1.gh id g hg).2.2.1
          cases g <;> simp [Gb.isOwn] at this <;> simp [Gb.ownB] at hb
      obtain ⟨y, hreach, hy⟩ := Tree.reach_of_all hall
      obtain ⟨d, h1, h2⟩ := Tree.reach_bind.1 hreach
      have h2 := ofO_reach h2
      have hcall := (execFun_sound hE hf hbody hl h1 hG (fun v hv i hi => by obtain ⟨p, hp, hpi⟩ := a2 v hv i hi; exact (x3 p hp i hpi).2) (fun id g hg => ⟨(x1.gh id g hg).1.2, fun i hi => ((x1.gh id g hg).2.1 i hi).2⟩)).1
      unfold CallOK at hcall
      rw [a1, ← x2] at hcall
      refine hcall.mono ?_
      rintro e w' ⟨R', ρ', he', hE', hG'⟩
      cases hp : partsOf d.val rs.length with
      | none => rw [hp] at h2; cases h2
      | some us =>
        rw [hp] at h2
        simp only [Option.bind] at h2
        have hus : d.val.den ρ' = retV (us.map (Tv.den ρ')) ∧ us.length = rs.length := by
          have hlen : ∀ (rs : List Ty) (us : List Tv) (y : TDs rs), collectA (applyUpd d.upd gh) rs us = some y → us.length = rs.length := by
            intro rs
            induction rs with
            | nil => intro us y h; cases us with
              | nil => rfl
              | cons v r => simp [collectA] at h
            | cons t ts ih =>
              intro us y h
              cases us with
              | nil => simp [collectA] at h
              | cons v r =>
                simp only [collectA] at h
                cases hc : tvC t v with
                | none => rw [hc] at h; cases h
                | some cs =>
                  rw [hc] at h
                  simp only at h
                  cases hx : collect (applyUpd d.upd gh) t cs with
                  | none => rw [hx] at h; cases h
                  | some x =>
                    rw [hx] at h
                    simp only at h
                    cases hy : collectA (applyUpd d.upd gh) ts r with
                    | none => rw [hy] at h; cases h
                    | some y' => simp [ih r y' hy]
          have hl' := hlen rs us y h2
          refine ⟨?_, hl'⟩
          unfold partsOf at hp
          split at hp
          · rename_i vs' heqv
            cases hb : Nat.beq rs.length 1 with
            | true => rw [hb] at hp; cases hp
            | false =>
              rw [hb] at hp
              simp only [cond_false] at hp
              obtain ⟨i1, _⟩ := argTvs_den (ρ := ρ') hp
              rw [i1, heqv]
              simp only [Tv.den]
              have hn1 : vs'.length ≠ 1 := by
                have e := congrArg List.length i1
                simp only [List.length_map] at e
                have := beq_false_iff.1 hb
                omega
              match vs', hn1 with
              | [], _ => rfl
              | [p], h => exact absurd rfl h
              | p :: q :: r, _ => rfl
          · skip
            cases hb : Nat.beq rs.length 1 with
            | false => rw [hb] at hp; cases hp
            | true =>
              rw [hb] at hp
              simp only [cond_true] at hp
              injection hp with hp
              subst hp
              rfl
        refine ⟨us.map (Tv.den ρ'), by rw [he', hus.1], ?_, ⟨hE'.os, hE'.tape, hE'.output, hE'.size, fun b hb => hE'.keep b hb fun ⟨id, g, hg, ho⟩ => ?_⟩⟩
        · rw [← hy]
          have hno : ∀ b, ¬ OwnB ρ gh b := by
            rintro b ⟨id, g, hg, ho⟩
            have := (x1.gh id g hg).2.2.1
            cases g <;> simp [Gb.isOwn] at this <;> simp [Gb.ownB] at ho
          refine ArgsR.mono (fun b hb => ⟨?_, rfl⟩) (collectA_sound hG' h2)
          rcases hb with hb | hb
          · rcases hE'.newR b hb with h | h | h
            · exact .inl h
            · exact (hno b h).elim
            · exact .inr ⟨h, hG'.rlt b hb⟩
          · rcases hE'.newO b hb with h | h
            · exact (hno b h).elim
            · obtain ⟨id, g, hg, ho⟩ := hb
              exact .inr ⟨h, (hG'.olt id g b hg ho).1⟩
        · have := (x1.gh id g hg).2.2.1
          cases g <;> simp [Gb.isOwn] at this <;> simp [Gb.ownB] at ho
end
end Sx
