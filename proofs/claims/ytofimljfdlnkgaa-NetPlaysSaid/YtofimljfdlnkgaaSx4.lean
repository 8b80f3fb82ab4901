/- A symbolic executor for the model's code: what it means that one operation is told rightly; the shapes of a step. -/
import Derived.Test.YtofimljfdlnkgaaSx3
import Derived.Laws.Sem
import Derived.Laws.Tables
import Derived.Laws.CopyRow
import Derived.Laws.Cells
namespace Sx
open Go Go.RowKit

structure Delta where
  val : Tv
  upd : List (Nat × Option Gb)
  next : Nat

def updOf (g : Gh) : List (Nat × Option Gb) := g.map fun p => (p.1, some p.2)

theorem look_updOf : ∀ (g : Gh) (k : Nat), look (updOf g) k = (look g k).map some
  | [], k => rfl
  | (a, b) :: r, k => by
    simp only [updOf, List.map_cons, look_cons]
    have := look_updOf r k
    unfold updOf at this
    rw [this]
    by_cases h : a = k <;> simp [h]

theorem look_applyUpdOf (g gh : Gh) (k : Nat) : look (applyUpd (updOf g) gh) k = (look g k).elim (look gh k) some := by
  rw [look_applyUpd, look_updOf]; cases look g k <;> rfl

/-- the values and the memory that an operation meets -/
structure Ctx (a : Act) (R : Nat → Prop) (ρ : Env) (gh : Gh) (next top : Nat) (w : World) (ev : Operand → Option Tv) : Prop where
  val : ∀ x v, ev x = some v → a.eval x = v.den ρ
  evb : ∀ x v, ev x = some v → ∀ i ∈ v.ids, i < next ∨ top ≤ i
  rep : RepG R ρ gh w
  bd : ∀ id g, look gh id = some g → (id < next ∨ top ≤ id) ∧ ∀ i ∈ g.ids, i < next ∨ top ≤ i

def OpOK (P : Program) (o : Oper) (a : Act) (R : Nat → Prop) (ρ : Env) (gh : Gh) (next : Nat) (w : World) (d : Delta) : Prop :=
  ∀ (N : Act → World → Prop) (Q : Exit → Act → World → Prop),
    (∀ R' ρ' w', Ext R ρ gh w next R' ρ' (applyUpd d.upd gh) w' d.next → RepG R' ρ' (applyUpd d.upd gh) w' → N (a.put o.dst (d.val.den ρ')) w') → o.wp P a w N Q

section
variable {P : Program} {o : Oper} {a : Act} {R : Nat → Prop} {ρ : Env} {gh : Gh} {next : Nat} {w : World}

theorem OpOK.of_run {d : Delta} {V : Value} {w' : World} {R' : Nat → Prop} {ρ' : Env} (hrun : (execOp a.eval o).run P w = .ok (.value V) w')
    (hV : V = d.val.den ρ') (hE : Ext R ρ gh w next R' ρ' (applyUpd d.upd gh) w' d.next) (hG : RepG R' ρ' (applyUpd d.upd gh) w') : OpOK P o a R ρ gh next w d := by
  intro N Q h
  unfold Oper.wp
  rw [hrun, Oper.upon_value, hV]
  exact h R' ρ' w' hE hG

theorem OpOK.of_skip {d : Delta} {w' : World} {R' : Nat → Prop} {ρ' : Env} (hrun : (execOp a.eval o).run P w = .ok .skip w')
    (hV : d.val = .undef) (hE : Ext R ρ gh w next R' ρ' (applyUpd d.upd gh) w' d.next) (hG : RepG R' ρ' (applyUpd d.upd gh) w') : OpOK P o a R ρ gh next w d := by
  intro N Q h
  unfold Oper.wp
  rw [hrun, Oper.upon_skip]
  have := h R' ρ' w' hE hG
  rwa [hV] at this

theorem OpOK.value {v : Tv} {n' : Nat} (hG : RepG R ρ gh w) (hrun : (execOp a.eval o).run P w = .ok (.value (v.den ρ)) w) : OpOK P o a R ρ gh next w ⟨v, [], n'⟩ :=
  .of_run (ρ' := ρ) (R' := R) hrun rfl ⟨Nat.le_refl _, rfl, rfl, rfl, fun _ _ _ => rfl, fun _ _ => rfl, fun _ h => h, fun _ h => .inl h, fun _ h => .inl h⟩ hG

/-- new numbers for what was read -/
structure Exq (R : Nat → Prop) (w : World) (ρ : Env) (n : Nat) (g : Gh) (n' : Nat) (ρ' : Env) : Prop where
  le : n ≤ n'
  same : SameOn (fun i => i < n ∨ n' ≤ i) ρ ρ'
  gh : ∀ id b, look g id = some b → (n ≤ id ∧ id < n') ∧ (∀ i ∈ b.ids, n ≤ i ∧ i < n') ∧ b.isOwn = false ∧ Gfact R w ρ' id b

theorem Exp.q {vals : List Value} {cs : List SV} {g : Gh} {n' : Nat} {ρ' : Env} (h : Exp R w ρ next vals cs g n' ρ') : Exq R w ρ next g n' ρ' := ⟨h.le, h.same, h.gh⟩

theorem Exq.nil : Exq R w ρ next [] next ρ := ⟨Nat.le_refl _, fun _ _ => rfl, by simp [look]⟩

/-- data out of memory -/
theorem RepG.exp {g : Gh} {n' : Nat} {ρ' : Env} (hG : RepG R ρ gh w)
    (hbd : ∀ id g, look gh id = some g → (id < next ∨ n' ≤ id) ∧ ∀ i ∈ g.ids, i < next ∨ n' ≤ i) (h : Exq R w ρ next g n' ρ') :
    RepG R ρ' (applyUpd (updOf g) gh) w ∧ Ext R ρ gh w next R ρ' (applyUpd (updOf g) gh) w n' := by
  have hcase : ∀ id b, look (applyUpd (updOf g) gh) id = some b → look g id = some b ∨ look gh id = some b := by
    intro id b hb
    rw [look_applyUpdOf] at hb
    cases hg : look g id with
    | some b' => rw [hg] at hb; simp at hb; subst hb; exact .inl rfl
    | none => rw [hg] at hb; exact .inr hb
  have hown : ∀ id b k, look (applyUpd (updOf g) gh) id = some b → b.ownB ρ' id = some k → look gh id = some b ∧ b.ownB ρ id = some k := by
    intro id b k hb hk
    rcases hcase id b hb with h1 | h1
    · have := (h.gh id b h1).2.2.1
      cases b <;> simp [Gb.isOwn] at this <;> simp [Gb.ownB] at hk
    · exact ⟨h1, by rw [← ownB_same (h.same id (hbd id b h1).1) b]; exact hk⟩
  refine ⟨⟨fun id b hb => ?_, hG.rlt, fun id b k hb hk => ?_, fun id id' b b' k hb hb' hk hk' => ?_⟩, ?_⟩
  · rcases hcase id b hb with h1 | h1
    · exact (h.gh id b h1).2.2.2
    · exact Gfact.mono (fun _ hb => ⟨hb, rfl⟩) h.same (hbd id b h1).1 (hbd id b h1).2 (fun _ _ => rfl) (hG.facts id b h1)
  · obtain ⟨h1, h2⟩ := hown id b k hb hk; exact hG.olt id b k h1 h2
  · obtain ⟨h1, h2⟩ := hown id b k hb hk
    obtain ⟨h3, h4⟩ := hown id' b' k hb' hk'
    exact hG.sep id id' b b' k h1 h3 h2 h4
  · refine ⟨Nat.le_refl _, rfl, rfl, rfl, fun _ _ _ => rfl, fun id hid => h.same id hid, fun _ h => h, fun _ h => .inl h, ?_⟩
    rintro k ⟨id, b, hb, hk⟩
    obtain ⟨h1, h2⟩ := hown id b k hb hk
    exact .inl ⟨id, b, h1, h2⟩

theorem OpOK.exp {g : Gh} {n' : Nat} {ρ' : Env} {v : Tv} {V : Value} (hG : RepG R ρ gh w)
    (hbd : ∀ id g, look gh id = some g → (id < next ∨ n' ≤ id) ∧ ∀ i ∈ g.ids, i < next ∨ n' ≤ i) (h : Exq R w ρ next g n' ρ')
    (hrun : (execOp a.eval o).run P w = .ok (.value V) w) (hV : V = v.den ρ') : OpOK P o a R ρ gh next w ⟨v, updOf g, n'⟩ :=
  .of_run hrun hV (hG.exp hbd h).2 (hG.exp hbd h).1

/-- a new block of one's own -/
theorem RepG.alloc {cs : List SV} {T : TypeId} (hG : RepG R ρ gh w)
    (hbd : ∀ id g, look gh id = some g → (id < next ∨ next + 1 ≤ id) ∧ ∀ i ∈ g.ids, i < next ∨ next + 1 ≤ i) (hcs : ∀ i ∈ idsOf cs, i < next ∨ next + 1 ≤ i) :
    RepG R (ρ.set next ⟨some ⟨w.heap.size, 0, none⟩, 0, 0⟩) (applyUpd [(next, some (.blk cs))] gh) (w.alloc (.cells (dens ρ cs).toArray T)) ∧
    Ext R ρ gh w next R (ρ.set next ⟨some ⟨w.heap.size, 0, none⟩, 0, 0⟩) (applyUpd [(next, some (.blk cs))] gh) (w.alloc (.cells (dens ρ cs).toArray T)) (next + 1) := by
  have hS : SameOn (fun i => i < next ∨ next + 1 ≤ i) ρ (ρ.set next ⟨some ⟨w.heap.size, 0, none⟩, 0, 0⟩) := Env.set_same ρ next _
  have hold : ∀ b, b < w.heap.size → (w.alloc (.cells (dens ρ cs).toArray T)).heap[b]? = w.heap[b]? := fun b hb => Below.heap_alloc w _ b hb
  have hnew : (w.alloc (.cells (dens ρ cs).toArray T)).heap[w.heap.size]? = some (.cells (dens ρ cs).toArray T (0, 0)) := by
    show (w.heap.push _)[w.heap.size]? = _
    simp
  have hcase : ∀ id b, look (applyUpd [(next, some (.blk cs))] gh) id = some b → (id = next ∧ b = .blk cs) ∨ (id ≠ next ∧ look gh id = some b) := by
    intro id b hb
    rw [look_applyUpd] at hb
    simp only [look_cons] at hb
    by_cases h : next = id
    · subst h; simp at hb; exact .inl ⟨rfl, hb.symm⟩
    · rw [if_neg h] at hb; exact .inr ⟨fun e => h e.symm, hb⟩
  have hown : ∀ id b k, id ≠ next → look gh id = some b → b.ownB (ρ.set next ⟨some ⟨w.heap.size, 0, none⟩, 0, 0⟩) id = some k → b.ownB ρ id = some k ∧ k < w.heap.size := by
    intro id b k hn hb hk
    rw [ownB_same (hS id (hbd id b hb).1) b] at hk
    exact ⟨hk, (hG.olt id b k hb hk).1⟩
  have hown' : ∀ k, (Gb.blk cs).ownB (ρ.set next ⟨some ⟨w.heap.size, 0, none⟩, 0, 0⟩) next = some k → k = w.heap.size := by
    intro k hk; simp [Gb.ownB, Env.set_at] at hk; exact hk.symm
  refine ⟨⟨fun id b hb => ?_, fun b hb => ?_, fun id b k hb hk => ?_, fun id id' b b' k hb hb' hk hk' => ?_⟩, ?_⟩
  · rcases hcase id b hb with ⟨rfl, rfl⟩ | ⟨hn, h1⟩
    · refine ⟨w.heap.size, T, by rw [Env.set_at], ?_⟩
      rw [dens_same hS hcs]; exact hnew
    · refine Gfact.mono (fun b hb => ⟨hb, hold b (hG.rlt b hb)⟩) hS (hbd id b h1).1 (hbd id b h1).2 (fun k hk => hold k (hG.olt id b k h1 hk).1) (hG.facts id b h1)
  · have := hG.rlt b hb; simp [World.size_alloc]; omega
  · rcases hcase id b hb with ⟨rfl, rfl⟩ | ⟨hn, h1⟩
    · have := hown' k hk; subst this
      exact ⟨by simp, fun h => by have := hG.rlt _ h; omega⟩
    · obtain ⟨h2, h3⟩ := hown id b k hn h1 hk
      exact ⟨by simp; omega, (hG.olt id b k h1 h2).2⟩
  · rcases hcase id b hb with ⟨rfl, rfl⟩ | ⟨hn, h1⟩ <;> rcases hcase id' b' hb' with ⟨h3, rfl⟩ | ⟨hn', h3⟩
    · exact h3.symm
    · have := hown' k hk; obtain ⟨_, h5⟩ := hown id' b' k hn' h3 hk'; omega
    · subst h3; have := hown' k hk'; obtain ⟨_, h5⟩ := hown id b k hn h1 hk; omega
    · exact hG.sep id id' b b' k h1 h3 (hown id b k hn h1 hk).1 (hown id' b' k hn' h3 hk').1
  · refine ⟨by simp, rfl, rfl, rfl, fun b hb _ => hold b hb, fun id hid => hS id hid, fun _ h => h, fun _ h => .inl h, ?_⟩
    rintro k ⟨id, b, hb, hk⟩
    rcases hcase id b hb with ⟨rfl, rfl⟩ | ⟨hn, h1⟩
    · exact .inr (Nat.le_of_eq (hown' k hk).symm)
    · exact .inl ⟨id, b, h1, (hown id b k hn h1 hk).1⟩

/-- what is one's own, told anew -/
theorem RepG.upd1 {w' : World} {id b : Nat} {g0 g1 : Gb} (hG : RepG R ρ gh w) (hg : look gh id = some g0) (hob : g0.ownB ρ id = some b) (hob1 : g1.ownB ρ id = some b)
    (hf : Gfact R w' ρ id g1) (hk : ∀ k, k ≠ b → w'.heap[k]? = w.heap[k]?) (hsz : w'.heap.size = w.heap.size) (ho : w'.os = w.os)
    (ht : w'.tape = w.tape) (hout : w'.output = w.output) (n' : Nat) :
    RepG R ρ (applyUpd [(id, some g1)] gh) w' ∧ Ext R ρ gh w next R ρ (applyUpd [(id, some g1)] gh) w' n' := by
  have hcase : ∀ i g, look (applyUpd [(id, some g1)] gh) i = some g → (i = id ∧ g = g1) ∨ (i ≠ id ∧ look gh i = some g) := by
    intro i g hb
    rw [look_applyUpd] at hb
    simp only [look_cons] at hb
    by_cases h : id = i
    · subst h; simp at hb; exact .inl ⟨rfl, hb.symm⟩
    · rw [if_neg h] at hb; exact .inr ⟨fun e => h e.symm, hb⟩
  have hRb : ¬ R b := (hG.olt id _ b hg hob).2
  have hRk : ∀ k, R k → R k ∧ w'.heap[k]? = w.heap[k]? := fun k h => ⟨h, hk k fun e => hRb (e ▸ h)⟩
  have hne : ∀ i g k, i ≠ id → look gh i = some g → g.ownB ρ i = some k → k ≠ b := fun i g k hn h1 h2 e => hn (hG.sep i id g _ b h1 hg (e ▸ h2) hob)
  have h1' : ∀ k, g1.ownB ρ id = some k → g0.ownB ρ id = some k := fun k h => by rw [hob1] at h; rw [hob, h]
  refine ⟨⟨fun i g hb' => ?_, fun k h => hsz ▸ hG.rlt k h, fun i g k hb' hk' => ?_, fun i i' g g' k h1 h2 h3 h4 => ?_⟩, ?_⟩
  · rcases hcase i g hb' with ⟨rfl, rfl⟩ | ⟨hn, h1⟩
    · exact hf
    · exact Gfact.mono (p := fun _ => True) hRk (fun _ _ => rfl) trivial (fun _ _ => trivial) (fun k h2 => hk k (hne i g k hn h1 h2)) (hG.facts i g h1)
  · rw [hsz]
    rcases hcase i g hb' with ⟨rfl, rfl⟩ | ⟨hn, h1⟩
    · exact hG.olt i _ k hg (h1' k hk')
    · exact hG.olt i g k h1 hk'
  · rcases hcase i g h1 with ⟨rfl, rfl⟩ | ⟨hn, h5⟩ <;> rcases hcase i' g' h2 with ⟨e, rfl⟩ | ⟨hn', h6⟩
    · exact e.symm
    · exact hG.sep i i' g0 g' k hg h6 (h1' k h3) h4
    · subst e; exact hG.sep i i' g g0 k h5 hg h3 (h1' k h4)
    · exact hG.sep i i' g g' k h5 h6 h3 h4
  · refine ⟨Nat.le_of_eq hsz.symm, ho, ht, hout, fun k _ hn => hk k fun e => hn ⟨id, _, hg, e ▸ hob⟩, fun _ _ => rfl, fun _ h => h, fun _ h => .inl h, ?_⟩
    rintro k ⟨i, g, hb', hk'⟩
    rcases hcase i g hb' with ⟨rfl, rfl⟩ | ⟨hn, h1⟩
    · exact .inl ⟨i, _, hg, h1' k hk'⟩
    · exact .inl ⟨i, g, h1, hk'⟩
end

end Sx
