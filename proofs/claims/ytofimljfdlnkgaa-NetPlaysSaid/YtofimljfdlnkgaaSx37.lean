/- A symbolic executor for the model's code: contracts of calls that change an object of one's own. -/
import Derived.Test.YtofimljfdlnkgaaSx36
namespace Sx
open Go Go.RowKit

/-- an object, handed over by a pointer to its block, or as its value -/
def Held (ptr : Bool) (w : World) (cells : List Value) (v : Value) (b0 : List Nat) : Prop :=
  match ptr with
  | true => ∃ b T, v = .pointer (some ⟨b, 0, none⟩) ∧ w.heap[b]? = some (.cells cells.toArray T (0, 0)) ∧ b0 = [b]
  | false => cells = [v] ∧ b0 = []

def outV (ptr : Bool) (v : Value) (vs : List Value) : List Value := match ptr with | true => vs | false => v :: vs

structure MutPost (ptr : Bool) (o : OTy) (rs : List Ty) (R : Nat → Prop) (w : World) (b0 bs : List Nat) (y : OD o × TDs rs) (e : Ending) (w' : World) (R' : Nat → Prop) (v' : Value) (vs cells' : List Value) (bs' : List Nat) : Prop where
  ret : e = .returned (retV (outV ptr v' vs))
  held : Held ptr w' cells' v' b0
  own : OwnM R' w' o y.1 cells' bs'
  nodup : (b0 ++ bs').Nodup
  apart : ∀ k ∈ b0 ++ bs', k < w'.heap.size ∧ ¬ R' k
  from_ : ∀ k ∈ bs', k ∈ bs ∨ w.heap.size ≤ k
  sub : ∀ k, R k → R' k
  newR : ∀ k, R' k → k < w'.heap.size ∧ (R k ∨ k ∈ bs ∨ w.heap.size ≤ k)
  res : ArgsR R' w' rs y.2 vs
  size : w.heap.size ≤ w'.heap.size
  keep : ∀ k, k < w.heap.size → k ∉ b0 ++ bs → w'.heap[k]? = w.heap[k]?
  os : w'.os = w.os
  tape : w'.tape = w.tape
  output : w'.output = w.output

def MutOK (ptr : Bool) (P : Program) (f : FuncId) (o : OTy) (ts rs : List Ty) (pre : OD o × TDs ts → Prop) (F : OD o × TDs ts → OD o × TDs rs) : Prop :=
  ∀ R w x xs v args cells b0 bs, (∀ k, R k → k < w.heap.size) → Held ptr w cells v b0 → OwnM R w o x cells bs → (b0 ++ bs).Nodup → (∀ k ∈ b0 ++ bs, k < w.heap.size ∧ ¬ R k) →
    ArgsR R w ts xs args → pre (x, xs) →
    Calls P f (v :: args).toArray w fun e w' => ∃ R' v' vs cells' bs', MutPost ptr o rs R w b0 bs (F (x, xs)) e w' R' v' vs cells' bs'

/-! ### a body's run, from data to data -/
def mutStart (ptr : Bool) (cs : List SV) (g : Gh) : Option (Tv × Gh) :=
  match ptr with
  | true => some (.one (.ptr 0 0), (0, .blk cs) :: g)
  | false => match cs with | [c] => some (.one c, g) | _ => none

def mutCells (ptr : Bool) (gh1 : Gh) (v : Tv) (nr : Nat) : Option (List SV × List Tv × List Nat) :=
  match ptr with
  | true => match look gh1 0, partsOf v nr with | some (.blk cs), some us => some (cs, us, [0]) | _, _ => none
  | false => match partsOf v (nr + 1) with | some (.one c :: us) => some ([c], us, []) | _ => none

def othersOf (gh : Gh) (keep : List Nat) : List Nat := (ownKeys gh).filter fun k => !memN k keep

def mutEnd (ptr : Bool) (o : OTy) (rs : List Ty) (gh1 : Gh) (v : Tv) : Option (OD o × TDs rs) :=
  match mutCells ptr gh1 v rs.length with
  | some (cs, us, i0) =>
    bif once (applyUpd (gone gh1 (othersOf gh1 (i0 ++ rowIds o cs))) gh1) && nodupB (i0 ++ rowIds o cs) then
      match collectM (applyUpd (gone gh1 (othersOf gh1 (i0 ++ rowIds o cs))) gh1) o cs, collectA (calm (applyUpd (gone gh1 (othersOf gh1 (i0 ++ rowIds o cs))) gh1)) rs us with
      | some x, some y => some (x, y)
      | _, _ => none
    else none
  | none => none

def mutTree (ptr : Bool) (E : Ex) (loops : Nat → Option (St → Tree Out)) (n : Nat) (fn : Func) (body : Code) (o : OTy) (ts rs : List Ty) (x : OD o) (xs : TDs ts) : Tree (OD o × TDs rs) :=
  match expandM o x 1 with
  | none => .fail "the object"
  | some (cs, g1, n1) =>
    match expandR ts xs n1 with
    | none => .fail "arguments"
    | some (ps, g2, next) =>
      match argTvs ps, mutStart ptr cs (g1 ++ g2) with
      | some args, some (a0, gh0) => (execFun E loops n fn body (a0 :: args) gh0 next).bind fun d => ofO "results no such data" (mutEnd ptr o rs (applyUpd d.upd gh0) d.val)
      | _, _ => .fail "arguments"

section
variable {P : Program} {R : Nat → Prop} {ρ : Env} {gh : Gh} {next : Nat} {w : World}

theorem isOwn_of {g : Gb} {ρ : Env} {id b : Nat} (h : g.ownB ρ id = some b) : g.isOwn = true := by
  cases g <;> simp [Gb.ownB] at h <;> rfl

/-- all but some let go -/
theorem RepG.but (hG : RepG R ρ gh w) (keep : List Nat) :
    (∀ k, look (applyUpd (gone gh (othersOf gh keep)) gh) k = (look gh k).map fun g => bif memN k (othersOf gh keep) then g.abs else g) ∧
    (∀ k, k ∈ keep → look (applyUpd (gone gh (othersOf gh keep)) gh) k = look gh k) ∧
    (∀ k g, look (applyUpd (gone gh (othersOf gh keep)) gh) k = some g → k ∉ keep → g.isOwn = false) ∧
    ∃ R2, RepG R2 ρ (applyUpd (gone gh (othersOf gh keep)) gh) w ∧ (∀ b, R b → R2 b) ∧ (∀ b, R2 b → R b ∨ OwnB ρ gh b) ∧ (∀ b, OwnB ρ (applyUpd (gone gh (othersOf gh keep)) gh) b → OwnB ρ gh b) := by
  have hl := look_gone gh (othersOf gh keep)
  refine ⟨hl, fun k hk => ?_, fun k g hg hk => ?_, RepG.letgo hG (fun k => memN k (othersOf gh keep)) hl⟩
  · rw [hl]
    have : memN k (othersOf gh keep) = false := Bool.eq_false_iff.2 fun h => by
      have h := memN_iff.1 h
      simp only [othersOf, List.mem_filter, memN_iff.2 hk, Bool.not_true, Bool.false_eq_true, and_false] at h
    rw [this]
    cases look gh k <;> rfl
  · rw [hl] at hg
    cases h0 : look gh k with
    | none => rw [h0] at hg; cases hg
    | some g0 =>
      rw [h0] at hg
      simp only [Option.map] at hg
      injection hg with hg
      cases ho : g0.isOwn with
      | false =>
        have : g0.abs = g0 := by cases g0 <;> simp [Gb.isOwn] at ho <;> rfl
        cases hm : memN k (othersOf gh keep) with
        | true => rw [hm] at hg; simp only [cond_true] at hg; rw [← hg, this]; exact ho
        | false => rw [hm] at hg; simp only [cond_false] at hg; rw [← hg]; exact ho
      | true =>
        have : memN k (othersOf gh keep) = true := by
          rw [memN_iff]
          simp only [othersOf, List.mem_filter]
          refine ⟨mem_ownKeys h0 ho, ?_⟩
          have : memN k keep = false := Bool.eq_false_iff.2 fun h => hk (memN_iff.1 h)
          rw [this]; rfl
        rw [this] at hg
        simp only [cond_true] at hg
        subst hg
        cases g0 <;> rfl

theorem calm_plus (hG : RepG R ρ gh w) (ho : once gh = true) {b : Nat} (h : Rplus R ρ (calm gh) b) : R b := by
  rcases h with h | ⟨id, g, h1, h2⟩
  · exact h
  · have := (calm_look ho h1).2
    rw [isOwn_of h2] at this; cases this

/-- an object and its arguments, as ghost memory -/
theorem start_rep {n0 : Nat} {cells : List Value} {cs : List SV} {g1 g2 : Gh} {n1 n2 : Nat} {ρ1 ρ2 : Env} {bs : List Nat} (hR : ∀ k, R k → k < w.heap.size) (h1 : ExpM R w ρ n0 cells cs g1 n1 ρ1 bs) (h2 : Exq R w ρ1 n1 g2 n2 ρ2)
    (hap : ∀ k ∈ bs, k < w.heap.size ∧ ¬ R k) :
    RepG R ρ2 (g1 ++ g2) w ∧ (∀ id g, look (g1 ++ g2) id = some g → (n0 ≤ id ∧ id < n2) ∧ ∀ i ∈ g.ids, n0 ≤ i ∧ i < n2) ∧ (∀ k, OwnB ρ2 (g1 ++ g2) k → k ∈ bs) := by
  have l1 := h1.le
  have l2 := h2.le
  have hcase : ∀ id g, look (g1 ++ g2) id = some g → (look g1 id = some g ∧ g.ownB ρ2 id = g.ownB ρ1 id) ∨ (look g2 id = some g ∧ g.ownB ρ2 id = none) := by
    intro id g hg
    rw [look_append] at hg
    cases hl : look g1 id with
    | some g' => rw [hl] at hg; simp at hg; subst hg; exact .inl ⟨rfl, ownB_same (h2.same id (.inl (h1.gh id g' hl).1.2)) g'⟩
    | none =>
      rw [hl] at hg
      refine .inr ⟨hg, ?_⟩
      have := (h2.gh id g hg).2.2.1
      cases g <;> simp [Gb.isOwn] at this <;> rfl
  have hown : ∀ id g k, look (g1 ++ g2) id = some g → g.ownB ρ2 id = some k → look g1 id = some g ∧ g.ownB ρ1 id = some k := by
    intro id g k hg hk
    rcases hcase id g hg with ⟨a, b⟩ | ⟨_, b⟩
    · exact ⟨a, b ▸ hk⟩
    · rw [b] at hk; cases hk
  refine ⟨⟨fun id g hg => ?_, hR, fun id g k hg hk => ?_, fun id id' g g' k hg hg' hk hk' => ?_⟩, fun id g hg => ?_, ?_⟩
  · rcases hcase id g hg with ⟨a, _⟩ | ⟨a, _⟩
    · obtain ⟨a1, a2, a3, _⟩ := h1.gh id g a
      exact Gfact.mono (fun _ hb => ⟨hb, rfl⟩) h2.same (.inl a1.2) (fun i hi => .inl (a2 i hi).2) (fun _ _ => rfl) a3
    · exact (h2.gh id g a).2.2.2
  · obtain ⟨a, b⟩ := hown id g k hg hk
    exact hap k ((h1.gh id g a).2.2.2 k b)
  · obtain ⟨a, b⟩ := hown id g k hg hk
    obtain ⟨a', b'⟩ := hown id' g' k hg' hk'
    exact h1.sep id id' g g' k a a' b b'
  · rcases hcase id g hg with ⟨a, _⟩ | ⟨a, _⟩
    · obtain ⟨a1, a2, _⟩ := h1.gh id g a
      exact ⟨⟨a1.1, by omega⟩, fun i hi => ⟨(a2 i hi).1, by have := (a2 i hi).2; omega⟩⟩
    · obtain ⟨a1, a2, _⟩ := h2.gh id g a
      exact ⟨⟨by omega, a1.2⟩, fun i hi => ⟨by have := (a2 i hi).1; omega, (a2 i hi).2⟩⟩
  · rintro k ⟨id, g, hg, hk⟩
    obtain ⟨a, b⟩ := hown id g k hg hk
    exact (h1.gh id g a).2.2.2 k b

theorem RepG.consBlk {id b : Nat} {cs : List SV} {T : TypeId} (hG : RepG R ρ gh w) (hn : ∀ g, look gh id ≠ some g) (ha : (ρ id).addr = some ⟨b, 0, none⟩) (hh : w.heap[b]? = some (.cells (dens ρ cs).toArray T (0, 0)))
    (hb : b < w.heap.size ∧ ¬ R b) (hno : ¬ OwnB ρ gh b) : RepG R ρ ((id, .blk cs) :: gh) w := by
  have hcase : ∀ k g, look ((id, Gb.blk cs) :: gh) k = some g → (k = id ∧ g = .blk cs) ∨ (k ≠ id ∧ look gh k = some g) := by
    intro k g hk
    rw [look_cons] at hk
    by_cases e : id = k
    · rw [if_pos e] at hk; injection hk with hk; exact .inl ⟨e.symm, hk.symm⟩
    · rw [if_neg e] at hk; exact .inr ⟨fun h => e h.symm, hk⟩
  have hown : ∀ k, (Gb.blk cs).ownB ρ id = some k → k = b := fun k hk => by simp [Gb.ownB, ha] at hk; exact hk.symm
  refine ⟨fun k g hk => ?_, hG.rlt, fun k g c hk hc => ?_, fun k k' g g' c hk hk' hc hc' => ?_⟩
  · rcases hcase k g hk with ⟨rfl, rfl⟩ | ⟨_, h⟩
    · exact ⟨b, T, ha, hh⟩
    · exact hG.facts k g h
  · rcases hcase k g hk with ⟨rfl, rfl⟩ | ⟨_, h⟩
    · rw [hown c hc]; exact hb
    · exact hG.olt k g c h hc
  · rcases hcase k g hk with ⟨rfl, rfl⟩ | ⟨_, h⟩ <;> rcases hcase k' g' hk' with ⟨e, rfl⟩ | ⟨_, h'⟩
    · exact e.symm
    · have := hown c hc; subst this; exact (hno ⟨k', g', h', hc'⟩).elim
    · subst e; have := hown c hc'; subst this; exact (hno ⟨k, g, h, hc⟩).elim
    · exact hG.sep k k' g g' c h h' hc hc'

theorem partsOf_den {ρ' : Env} {v : Tv} {n : Nat} {us : List Tv} (hp : partsOf v n = some us) (hl : us.length = n) : v.den ρ' = retV (us.map (Tv.den ρ')) := by
  unfold partsOf at hp
  split at hp
  · rename_i vs'
    cases hb : Nat.beq n 1 with
    | true => rw [hb] at hp; cases hp
    | false =>
      rw [hb] at hp
      simp only [cond_false] at hp
      obtain ⟨i1, _⟩ := argTvs_den (ρ := ρ') hp
      rw [i1]
      simp only [Tv.den]
      have hn1 : vs'.length ≠ 1 := by
        have e := congrArg List.length i1
        simp only [List.length_map] at e
        have := beq_false_iff.1 hb
        omega
      match vs', hn1 with
      | [], _ => rfl
      | [p], h => exact absurd rfl h
      | p :: q :: r, _ => rfl
  · cases hb : Nat.beq n 1 with
    | false => rw [hb] at hp; cases hp
    | true =>
      rw [hb] at hp
      simp only [cond_true] at hp
      injection hp with hp
      subst hp
      rfl

theorem collectA_len : ∀ {rs : List Ty} {us : List Tv} {y : TDs rs}, collectA gh rs us = some y → us.length = rs.length
  | [], us, y, h => by
    cases us with
    | nil => rfl
    | cons v r => simp [collectA] at h
  | t :: ts, us, y, h => by
    cases us with
    | nil => simp [collectA] at h
    | cons v r =>
      simp only [collectA] at h
      cases hc : tvC t v with
      | none => rw [hc] at h; cases h
      | some cs =>
        rw [hc] at h
        simp only at h
        cases hx : collect gh t cs with
        | none => rw [hx] at h; cases h
        | some x =>
          rw [hx] at h
          simp only at h
          cases hy : collectA gh ts r with
          | none => rw [hy] at h; cases h
          | some y' => simp [collectA_len hy]

theorem blksOf_mem {ids : List Nat} {b : Nat} (h : b ∈ blksOf ρ ids) : ∃ i ∈ ids, ((ρ i).addr).map (·.block) = some b := by
  simp only [blksOf, List.mem_flatMap] at h
  obtain ⟨i, hi, hb⟩ := h
  refine ⟨i, hi, ?_⟩
  unfold blkOf at hb
  cases ha : (ρ i).addr with
  | none => rw [ha] at hb; simp at hb
  | some A => rw [ha] at hb; simp at hb; simp [hb]

theorem rowsOwn_blk (hG : RepG R ρ gh w) {ids : List Nat} (ho : RowsOwn gh ids) {b : Nat} (h : b ∈ blksOf ρ ids) : ∃ i ∈ ids, ∃ g, look gh i = some g ∧ g.ownB ρ i = some b := by
  obtain ⟨i, hi, hb⟩ := blksOf_mem h
  obtain ⟨g, hg, hown⟩ := ho i hi
  refine ⟨i, hi, g, hg, ?_⟩
  cases g <;> simp [Gb.isOwn] at hown <;> exact hb

/-- FROM A BODY'S TREE TO ITS CONTRACT -/
theorem mut_of_tree {ptr : Bool} {E : Ex} (hE : E.Sound) {loops : Nat → Option (St → Tree Out)} {n : Nat} {f : FuncId} {fn : Func} {body : Code} (hf : E.P.funcs[f]? = some fn) (hbody : fn.body = some body)
    (hl : LoopsOK E.P fn.ntmps loops body 0) {o : OTy} {ts rs : List Ty} {pre : OD o × TDs ts → Prop} {F : OD o × TDs ts → OD o × TDs rs} (h : ∀ x xs, pre (x, xs) → (mutTree ptr E loops n fn body o ts rs x xs).all fun y => y = F (x, xs)) :
    MutOK ptr E.P f o ts rs pre F := by
  intro R w x xs v args cells b0 bs hR hheld hown hnd hap hargs hpre
  have hall := h x xs hpre
  unfold mutTree at hall
  cases he1 : expandM o x 1 with
  | none => rw [he1] at hall; exact hall.elim
  | some q1 =>
    obtain ⟨cs, g1, n1⟩ := q1
    rw [he1] at hall
    simp only at hall
    cases he2 : expandR ts xs n1 with
    | none => rw [he2] at hall; exact hall.elim
    | some q2 =>
      obtain ⟨ps, g2, next⟩ := q2
      rw [he2] at hall
      simp only at hall
      cases hv : argTvs ps with
      | none => rw [hv] at hall; exact hall.elim
      | some vs =>
        rw [hv] at hall
        cases hst : mutStart ptr cs (g1 ++ g2) with
        | none => rw [hst] at hall; exact hall.elim
        | some q3 =>
          obtain ⟨a0, gh0⟩ := q3
          rw [hst] at hall
          simp only at hall
          have hbsnd : bs.Nodup := (List.nodup_append.1 hnd).2.1
          -- the object's block has number 0
          obtain ⟨ρb, hρb⟩ : ∃ ρb : Env, ρb = fun i => if i = 0 then ⟨b0.head?.map fun b => ⟨b, 0, none⟩, 0, 0⟩ else ⟨none, 0, 0⟩ := ⟨_, rfl⟩
          obtain ⟨ρ1, x1⟩ := expandM_sound (R := R) (w := w) o x 1 cs g1 n1 ρb cells bs he1 hown hbsnd
          obtain ⟨ρ2, x2, x3, x4⟩ := expandR_sound (ρ := ρ1) he2 hargs
          obtain ⟨a1, a2⟩ := argTvs_den (ρ := ρ2) hv
          have l1 := x1.le
          have l2 := x2.le
          obtain ⟨s1, s2, s3⟩ := start_rep hR x1 x2 (fun k hk => hap k (List.mem_append.2 (.inr hk)))
          have hd12 : dens ρ2 cs = dens ρ1 cs := dens_same x2.same fun i hi => .inl (x1.ids i hi).2
          have hρ0 : ρ2 0 = ρb 0 := (x2.same 0 (.inl (by omega))).trans (x1.same 0 (.inl (by omega)))
          -- the memory at the start
          have hstart : a0.den ρ2 = v ∧ RepG R ρ2 gh0 w ∧ (∀ i ∈ a0.ids, i < next) ∧ (∀ id g, look gh0 id = some g → id < next ∧ ∀ i ∈ g.ids, i < next) ∧ (∀ k, OwnB ρ2 gh0 k → k ∈ b0 ++ bs) ∧
              (ptr = true → ∃ b, b0 = [b] ∧ (ρ2 0).addr = some ⟨b, 0, none⟩) := by
            cases ptr with
            | true =>
              obtain ⟨b, T, hvb, hh, hb0⟩ := hheld
              subst hb0
              simp only [mutStart] at hst
              injection hst with hst; injection hst with e1 e2
              subst e1; subst e2
              have ha : (ρ2 0).addr = some ⟨b, 0, none⟩ := by rw [hρ0, hρb]; rfl
              have hn0 : ∀ g, look (g1 ++ g2) 0 ≠ some g := fun g hg => by have := (s2 0 g hg).1.1; omega
              have hnob : ¬ OwnB ρ2 (g1 ++ g2) b := fun hb => by
                have := (List.nodup_append.1 hnd).2.2 b (by simp) b (s3 b hb)
                exact this rfl
              refine ⟨by simp [Tv.den, SV.den, Env.at, ha, hvb], RepG.consBlk s1 hn0 ha (by rw [hd12, ← x1.vals]; exact hh) (hap b (by simp)) hnob, fun i hi => ?_, fun id g hg => ?_, fun k hk => ?_, fun _ => ⟨b, rfl, ha⟩⟩
              · simp [Tv.ids, SV.ids] at hi; omega
              · rw [look_cons] at hg
                by_cases e : 0 = id
                · rw [if_pos e] at hg; injection hg with hg; subst hg; subst e
                  exact ⟨by omega, fun i hi => by have := (x1.ids i hi).2; omega⟩
                · rw [if_neg e] at hg; exact ⟨(s2 id g hg).1.2, fun i hi => ((s2 id g hg).2 i hi).2⟩
              · obtain ⟨id, g, hg, hgb⟩ := hk
                rw [look_cons] at hg
                by_cases e : 0 = id
                · rw [if_pos e] at hg; injection hg with hg; subst hg; subst e
                  simp [Gb.ownB, ha] at hgb; subst hgb; simp
                · rw [if_neg e] at hg; exact List.mem_append.2 (.inr (s3 k ⟨id, g, hg, hgb⟩))
            | false =>
              obtain ⟨hc1, hb0⟩ := hheld
              subst hb0
              simp only [mutStart] at hst
              split at hst
              · rename_i c
                injection hst with hst; injection hst with e1 e2
                subst e1; subst e2
                have hvals := x1.vals
                rw [hc1] at hvals
                simp only [dens, List.map_cons, List.map_nil] at hvals
                injection hvals with hvals _
                refine ⟨?_, s1, fun i hi => ?_, fun id g hg => ⟨(s2 id g hg).1.2, fun i hi => ((s2 id g hg).2 i hi).2⟩, fun k hk => by simpa using s3 k hk, fun h => by cases h⟩
                · simp only [Tv.den]
                  rw [hvals]
                  exact SV.den_same x2.same fun i hi => .inl (x1.ids i (by simpa [idsOf] using hi)).2
                · have := (x1.ids i (by simpa [idsOf, Tv.ids] using hi)).2; omega
              · cases hst
          obtain ⟨hv0, hG0, hlt0, hbd0, hown0, hptr0⟩ := hstart
          obtain ⟨y, hreach, hy⟩ := Tree.reach_of_all hall
          obtain ⟨d, h1, h2⟩ := Tree.reach_bind.1 hreach
          have h2 := ofO_reach h2
          obtain ⟨hcall, hdn⟩ := execFun_sound hE hf hbody hl h1 hG0 (fun u hu i hi => by
            rcases List.mem_cons.1 hu with rfl | hu
            · exact hlt0 i hi
            · obtain ⟨p, hp, hpi⟩ := a2 u hu i hi; exact (x4 p hp i hpi).2) hbd0
          unfold CallOK at hcall
          rw [List.map_cons, hv0, a1, ← x3] at hcall
          refine hcall.mono ?_
          rintro e w' ⟨R1, ρ', he', hE', hG'⟩
          -- what there is at the end
          obtain ⟨gh1, hgh1⟩ : ∃ gh1, gh1 = applyUpd d.upd gh0 := ⟨_, rfl⟩
          rw [← hgh1] at h2 hE' hG'
          unfold mutEnd at h2
          cases hmc : mutCells ptr gh1 d.val rs.length with
          | none => rw [hmc] at h2; cases h2
          | some q4 =>
            obtain ⟨cs1, us, i0⟩ := q4
            rw [hmc] at h2
            simp only at h2
            obtain ⟨keep, hkeep⟩ : ∃ keep, keep = i0 ++ rowIds o cs1 := ⟨_, rfl⟩
            rw [← hkeep] at h2
            obtain ⟨b1, b2, b3, R2, hG2, k1, k2, k3⟩ := RepG.but hG' keep
            obtain ⟨gh2, hgh2⟩ : ∃ gh2, gh2 = applyUpd (gone gh1 (othersOf gh1 keep)) gh1 := ⟨_, rfl⟩
            rw [← hgh2] at h2 b1 b2 b3 hG2 k3
            cases hon : once gh2 && nodupB keep with
            | false => rw [hon] at h2; cases h2
            | true =>
              rw [hon] at h2
              simp only [cond_true] at h2
              rw [Bool.and_eq_true] at hon
              obtain ⟨hon, hndk⟩ := hon
              have hndk := nodupB_sound hndk
              split at h2
              · rename_i x' y' hx' hy'
                injection h2 with h2
                obtain ⟨hox, hrows⟩ := collectM_sound hG2 hon o cs1 x' hx'
                have hG2c : RepG R2 ρ' (calm gh2) w' := hG2.without fun i g h => (calm_look hon h).1
                have hres : ArgsR R2 w' rs y' (us.map (Tv.den ρ')) := ArgsR.mono (fun b hb => ⟨calm_plus hG2 hon hb, rfl⟩) (collectA_sound hG2c hy')
                have hul := collectA_len hy'
                -- the object, as it is handed back
                have hend : RowsOwn gh2 keep ∧ blksOf ρ' keep = b0 ++ blksOf ρ' (rowIds o cs1) ∧ ∃ v', Held ptr w' (dens ρ' cs1) v' b0 ∧ d.val.den ρ' = retV (outV ptr v' (us.map (Tv.den ρ'))) := by
                  cases ptr with
                  | true =>
                    simp only [mutCells] at hmc
                    split at hmc
                    · rename_i c1 u1 hc1 hu1
                      injection hmc with hmc; injection hmc with e1 hmc; injection hmc with e2 e3
                      subst e1; subst e2; subst e3
                      obtain ⟨b, hb0, ha⟩ := hptr0 rfl
                      have ha' : (ρ' 0).addr = some ⟨b, 0, none⟩ := by
                        show ((ρ' 0).addr) = _
                        rw [hE'.env 0 (.inl (by omega))]; exact ha
                      obtain ⟨b', T, hb', hh⟩ := hG'.facts _ _ hc1
                      rw [ha'] at hb'
                      injection hb' with hb'; injection hb' with hb'
                      subst hb'
                      have hg0 : look gh2 0 = some (.blk c1) := by rw [b2 0 (by rw [hkeep]; simp)]; exact hc1
                      refine ⟨fun i hi => ?_, by rw [hkeep, blksOf_append, hb0]; simp [blksOf, ha', blkOf], v, ⟨b, T, ?_, hh, hb0⟩, partsOf_den hu1 hul⟩
                      · rw [hkeep] at hi
                        rcases List.mem_append.1 hi with hi | hi
                        · simp at hi; subst hi; exact ⟨_, hg0, rfl⟩
                        · exact hrows i hi
                      · obtain ⟨b2, T2, hvb, _, hb02⟩ := hheld
                        rw [hb0] at hb02
                        injection hb02 with hb02; subst hb02; exact hvb
                    · cases hmc
                  | false =>
                    simp only [mutCells] at hmc
                    split at hmc
                    · rename_i c u1 hp
                      injection hmc with hmc; injection hmc with e1 hmc; injection hmc with e2 e3
                      subst e1; subst e2; subst e3
                      obtain ⟨_, hb0⟩ := hheld
                      subst hb0
                      refine ⟨fun i hi => ?_, by rw [hkeep]; rfl, c.den ρ', ⟨rfl, rfl⟩, ?_⟩
                      · rw [hkeep] at hi; exact hrows i (by simpa using hi)
                      · have := partsOf_den (ρ' := ρ') hp (by simp [hul])
                        rw [this]; rfl
                    · cases hmc
                obtain ⟨hkrows, hkb, v', hheld', hret⟩ := hend
                have hapart : ∀ k ∈ b0 ++ blksOf ρ' (rowIds o cs1), k < w'.heap.size ∧ ¬ R2 k := fun k hk => by
                  rw [← hkb] at hk
                  obtain ⟨i, _, g, hg, hgb⟩ := rowsOwn_blk hG2 hkrows hk
                  exact hG2.olt i g k hg hgb
                have hnd' : (b0 ++ blksOf ρ' (rowIds o cs1)).Nodup := by rw [← hkb]; exact blks_nodup hG2 hkrows hndk
                have hold : ∀ k, OwnB ρ' gh1 k → k ∈ b0 ++ bs ∨ w.heap.size ≤ k := fun k hk => (hE'.newO k hk).imp (hown0 k) fun h => h
                refine ⟨R2, v', us.map (Tv.den ρ'), dens ρ' cs1, blksOf ρ' (rowIds o cs1), ?_⟩
                rw [← hy, ← h2]
                refine ⟨by rw [he', hret], hheld', hox, hnd', hapart, fun k hk => ?_, fun k hk => k1 k (hE'.sub k hk), fun k hk => ⟨hG2.rlt k hk, ?_⟩, hres, hE'.size, fun k hk hn => hE'.keep k hk fun ho => hn (hown0 k ho), hE'.os, hE'.tape, hE'.output⟩
                · obtain ⟨i, _, g, hg, hgb⟩ := rowsOwn_blk hG2 hrows hk
                  rcases hold k (k3 k ⟨i, g, hg, hgb⟩) with h3 | h3
                  · rcases List.mem_append.1 h3 with h4 | h4
                    · exact ((List.nodup_append.1 hnd').2.2 k h4 k hk rfl).elim
                    · exact .inl h4
                  · exact .inr h3
                · have key : k ∈ b0 ++ bs ∨ w.heap.size ≤ k → R k ∨ k ∈ bs ∨ w.heap.size ≤ k := fun h3 => by
                    rcases h3 with h3 | h3
                    · rcases List.mem_append.1 h3 with h4 | h4
                      · exact ((hapart k (List.mem_append.2 (.inl h4))).2 hk).elim
                      · exact .inr (.inl h4)
                    · exact .inr (.inr h3)
                  rcases k2 k hk with h3 | h3
                  · rcases hE'.newR k h3 with h4 | h4 | h4
                    · exact .inl h4
                    · exact key (.inl (hown0 k h4))
                    · exact key (.inr h4)
                  · exact key (hold k h3)
              · cases h2
end
end Sx
