/- A symbolic executor for the model's code: data out of memory (expand), memory as data (collect). -/
import Derived.Test.YtofimljfdlnkgaaSx2
namespace Sx
open Go Go.RowKit

theorem look_append {α : Type} : ∀ (l m : List (Nat × α)) (k : Nat), look (l ++ m) k = (look l k).elim (look m k) some
  | [], m, k => rfl
  | (a, b) :: r, m, k => by
    rw [List.cons_append, look_cons, look_cons, look_append r m k]
    by_cases h : a = k <;> simp [h]

/-! ### expand -/
def expandN {α : Type} (f : α → Nat → Option (List SV × Gh × Nat)) (xs : List α) (z : α) : Nat → Nat → Nat → Option (List SV × Gh × Nat)
  | 0, _, n => some ([], [], n)
  | c + 1, j, n =>
    match f (xs.getD j z) n with
    | none => none
    | some (c1, g1, n1) =>
      match expandN f xs z c (j + 1) n1 with
      | none => none
      | some (c2, g2, n2) => some (c1 ++ c2, g1 ++ g2, n2)

def expand : (t : Ty) → TD t → Nat → Option (List SV × Gh × Nat)
  | .int k, x, n => some ([.int k x], [], n)
  | .bool, x, n => some ([.bool x], [], n)
  | .str, x, n => some ([.str x], [], n)
  | .unit, _, n => some ([], [], n)
  | .cat a b, x, n =>
    match expand a x.1 n with
    | none => none
    | some (c1, g1, n1) =>
      match expand b x.2 n1 with
      | none => none
      | some (c2, g2, n2) => some (c1 ++ c2, g1 ++ g2, n2)
  | .rep m a, xs, n => expandN (expand a) xs (TD.z a) m 0 n
  | .slice a, xs, n => some ([.row n], [(n, .ro a xs)], n + 1)
  | .ptr a, x, n =>
    match expand a x (n + 1) with
    | none => none
    | some (c1, g1, n1) => some ([.ptr n 0], (n, .rob c1) :: g1, n1)
  | .optr a, x, n => some ([.ptr n 0], [(n, .opt a x)], n + 1)
  | .fnl f, _, n => some ([.fn f [] []], [], n)
  | .clo f a, x, n =>
    match expand a x (n + 1) with
    | none => none
    | some (c1, g1, n1) => some ([.fn f [] [(n, 0)]], (n, .rob c1) :: g1, n1)

/-- what an expansion is good for -/
structure Exp (R : Nat → Prop) (w : World) (ρ : Env) (n : Nat) (vals : List Value) (cs : List SV) (g : Gh) (n' : Nat) (ρ' : Env) : Prop where
  le : n ≤ n'
  same : SameOn (fun i => i < n ∨ n' ≤ i) ρ ρ'
  vals : vals = dens ρ' cs
  ids : ∀ i ∈ idsOf cs, n ≤ i ∧ i < n'
  gh : ∀ id b, look g id = some b → (n ≤ id ∧ id < n') ∧ (∀ i ∈ b.ids, n ≤ i ∧ i < n') ∧ b.isOwn = false ∧ Gfact R w ρ' id b

theorem idsOf_append (a b : List SV) : idsOf (a ++ b) = idsOf a ++ idsOf b := by simp [idsOf]
theorem dens_append (ρ : Env) (a b : List SV) : dens ρ (a ++ b) = dens ρ a ++ dens ρ b := by simp [dens]

theorem Exp.append {R : Nat → Prop} {w : World} {ρ ρ1 ρ2 : Env} {n n1 n2 : Nat} {v1 v2 : List Value} {c1 c2 : List SV} {g1 g2 : Gh}
    (h : Exp R w ρ n v1 c1 g1 n1 ρ1) (k : Exp R w ρ1 n1 v2 c2 g2 n2 ρ2) : Exp R w ρ n (v1 ++ v2) (c1 ++ c2) (g1 ++ g2) n2 ρ2 where
  le := Nat.le_trans h.le k.le
  same id hid := by
    have hl := h.le
    have kl := k.le
    have a := h.same id (hid.imp (fun x => x) fun x => by omega)
    have b := k.same id (hid.imp (fun x => by omega) fun x => x)
    exact b.trans a
  vals := by
    rw [dens_append, h.vals, k.vals, dens_same k.same fun i hi => .inl (h.ids i hi).2]
  ids i hi := by
    rw [idsOf_append, List.mem_append] at hi
    have hl := h.le
    have kl := k.le
    rcases hi with hi | hi
    · have := h.ids i hi; omega
    · have := k.ids i hi; omega
  gh id b hb := by
    have hl := h.le
    have kl := k.le
    rw [look_append] at hb
    cases hg : look g1 id with
    | some b' =>
      rw [hg] at hb; simp at hb; subst hb
      obtain ⟨a1, a2, a3, a4⟩ := h.gh id b' hg
      refine ⟨⟨a1.1, by omega⟩, fun i hi => ⟨(a2 i hi).1, by have := (a2 i hi).2; omega⟩, a3, ?_⟩
      exact Gfact.mono (fun _ hb => ⟨hb, rfl⟩) k.same (.inl a1.2) (fun i hi => .inl (a2 i hi).2) (fun _ _ => rfl) a4
    | none =>
      rw [hg] at hb
      simp only [Option.elim] at hb
      obtain ⟨a1, a2, a3, a4⟩ := k.gh id b hb
      exact ⟨⟨by omega, a1.2⟩, fun i hi => ⟨by have := (a2 i hi).1; omega, (a2 i hi).2⟩, a3, a4⟩

theorem Exp.nil {R : Nat → Prop} {w : World} {ρ : Env} {n : Nat} (cs : List SV) (h : idsOf cs = []) : Exp R w ρ n (dens ρ cs) cs [] n ρ :=
  ⟨Nat.le_refl _, fun _ _ => rfl, rfl, by simp [h], by simp [look]⟩

/-- one number more, for a place -/
def Env.set (ρ : Env) (n : Nat) (x : Slot) : Env := fun i => if i = n then x else ρ i

theorem Env.set_same (ρ : Env) (n : Nat) (x : Slot) : SameOn (fun i => i < n ∨ n + 1 ≤ i) ρ (ρ.set n x) := fun id hid => by
  have : id ≠ n := by omega
  simp [Env.set, this]

theorem Env.set_at (ρ : Env) (n : Nat) (x : Slot) : (ρ.set n x) n = x := by simp [Env.set]

/-- a pointer's cells, told -/
theorem Exp.rob {R : Nat → Prop} {w : World} {ρ ρ' : Env} {n n' b o : Nat} {v1 : List Value} {c1 : List SV} {g1 : Gh} (s : SV) (v : Value)
    (hv : ∀ ρ2 : Env, (ρ2 n).addr = some ⟨b, o, none⟩ → v = s.den ρ2) (hi : s.ids = [n]) (hb : R b) (hc : CellsAt w b o v1)
    (h : Exp R w (ρ.set n ⟨some ⟨b, o, none⟩, 0, 0⟩) (n + 1) v1 c1 g1 n' ρ') : Exp R w ρ n [v] [s] ((n, .rob c1) :: g1) n' ρ' := by
  have hn : n < n' := Nat.lt_of_lt_of_le (Nat.lt_succ_self n) h.le
  have ha : (ρ' n).addr = some ⟨b, o, none⟩ := by rw [h.same n (.inl (Nat.lt_succ_self n)), Env.set_at]
  refine ⟨Nat.le_of_lt hn, fun id hid => ?_, ?_, ?_, ?_⟩
  · have h1 := h.same id (hid.imp (fun x => by omega) fun x => x)
    have h2 := Env.set_same ρ n ⟨some ⟨b, o, none⟩, 0, 0⟩ id (hid.imp (fun x => x) fun x => by omega)
    exact h1.trans h2
  · simp [dens, ← hv ρ' ha]
  · intro i hi'
    simp [idsOf, hi] at hi'
    omega
  · intro id g hg
    rw [look_cons] at hg
    by_cases he : n = id
    · subst he
      rw [if_pos rfl] at hg
      injection hg with hg
      subst hg
      refine ⟨⟨Nat.le_refl _, hn⟩, fun i hi => ?_, rfl, b, o, ha, hb, ?_⟩
      · have := h.ids i hi; omega
      · rw [← h.vals]; exact hc
    · rw [if_neg he] at hg
      obtain ⟨a1, a2, a3, a4⟩ := h.gh id g hg
      exact ⟨⟨by omega, a1.2⟩, fun i hi => ⟨by have := (a2 i hi).1; omega, (a2 i hi).2⟩, a3, a4⟩

theorem expandN_sound {R : Nat → Prop} {w : World} {α : Type} {f : α → Nat → Option (List SV × Gh × Nat)} {p : α → List Value → Prop} {z : α}
    (hf : ∀ (x : α) (n : Nat) cs g n' ρ vals, f x n = some (cs, g, n') → p x vals → ∃ ρ', Exp R w ρ n vals cs g n' ρ') :
    ∀ (xs : List α) (ys : List α) (n : Nat) cs g n' ρ vals, expandN f (ys ++ xs) z xs.length ys.length n = some (cs, g, n') → AllR p xs vals → ∃ ρ', Exp R w ρ n vals cs g n' ρ'
  | [], ys, n, cs, g, n', ρ, vals, h, hp => by
    simp only [List.length_nil, expandN] at h
    injection h with h; injection h with h1 h; injection h with h2 h3
    subst h1; subst h2; subst h3
    have : vals = [] := hp
    subst this
    exact ⟨ρ, Exp.nil [] rfl⟩
  | x :: xs, ys, n, cs, g, n', ρ, vals, h, ⟨v1, v2, e, h1, h2⟩ => by
    subst e
    simp only [List.length_cons, expandN] at h
    have hx : (ys ++ x :: xs).getD ys.length z = x := by simp [List.getD]
    rw [hx] at h
    cases hf1 : f x n with
    | none => rw [hf1] at h; cases h
    | some r =>
      obtain ⟨c1, g1, n1⟩ := r
      rw [hf1] at h
      simp only at h
      cases hf2 : expandN f (ys ++ x :: xs) z xs.length (ys.length + 1) n1 with
      | none => rw [hf2] at h; cases h
      | some r =>
        obtain ⟨c2, g2, n2⟩ := r
        rw [hf2] at h
        simp only at h
        injection h with h; injection h with e1 h; injection h with e2 e3
        subst e1; subst e2; subst e3
        obtain ⟨ρ1, x1⟩ := hf x n c1 g1 n1 ρ v1 hf1 h1
        have hf2' : expandN f ((ys ++ [x]) ++ xs) z xs.length (ys ++ [x]).length n1 = some (c2, g2, n2) := by simpa using hf2
        obtain ⟨ρ2, x2⟩ := expandN_sound hf xs (ys ++ [x]) n1 c2 g2 n2 ρ1 v2 hf2' h2
        exact ⟨ρ2, x1.append x2⟩

theorem expand_sound {R : Nat → Prop} {w : World} : ∀ (t : Ty) (x : TD t) (n : Nat) (cs : List SV) (g : Gh) (n' : Nat) (ρ : Env) (vals : List Value),
    expand t x n = some (cs, g, n') → ReadsC R w t x vals → ∃ ρ', Exp R w ρ n vals cs g n' ρ'
  | .int k, x, n, cs, g, n', ρ, vals, h, hp => by
    simp only [expand] at h
    injection h with h; injection h with h1 h; injection h with h2 h3
    subst h1; subst h2; subst h3
    have : vals = [.int k x] := hp
    subst this
    exact ⟨ρ, Exp.nil [.int k x] rfl⟩
  | .bool, x, n, cs, g, n', ρ, vals, h, hp => by
    simp only [expand] at h
    injection h with h; injection h with h1 h; injection h with h2 h3
    subst h1; subst h2; subst h3
    have : vals = [.bool x] := hp
    subst this
    exact ⟨ρ, Exp.nil [.bool x] rfl⟩
  | .str, x, n, cs, g, n', ρ, vals, h, hp => by
    simp only [expand] at h
    injection h with h; injection h with h1 h; injection h with h2 h3
    subst h1; subst h2; subst h3
    have : vals = [.string x] := hp
    subst this
    exact ⟨ρ, Exp.nil [.str x] rfl⟩
  | .unit, x, n, cs, g, n', ρ, vals, h, hp => by
    simp only [expand] at h
    injection h with h; injection h with h1 h; injection h with h2 h3
    subst h1; subst h2; subst h3
    have : vals = [] := hp
    subst this
    exact ⟨ρ, Exp.nil [] rfl⟩
  | .cat a b, x, n, cs, g, n', ρ, vals, h, ⟨v1, v2, e, h1, h2⟩ => by
    subst e
    simp only [expand] at h
    cases hf1 : expand a x.1 n with
    | none => rw [hf1] at h; cases h
    | some r =>
      obtain ⟨c1, g1, n1⟩ := r
      rw [hf1] at h
      simp only at h
      cases hf2 : expand b x.2 n1 with
      | none => rw [hf2] at h; cases h
      | some r =>
        obtain ⟨c2, g2, n2⟩ := r
        rw [hf2] at h
        simp only at h
        injection h with h; injection h with e1 h; injection h with e2 e3
        subst e1; subst e2; subst e3
        obtain ⟨ρ1, x1⟩ := expand_sound a x.1 n c1 g1 n1 ρ v1 hf1 h1
        obtain ⟨ρ2, x2⟩ := expand_sound b x.2 n1 c2 g2 n2 ρ1 v2 hf2 h2
        exact ⟨ρ2, x1.append x2⟩
  | .rep m a, xs, n, cs, g, n', ρ, vals, h, ⟨hl, hp⟩ => by
    simp only [expand] at h
    have := expandN_sound (R := R) (w := w) (z := TD.z a) (fun x n cs g n' ρ vals => expand_sound a x n cs g n' ρ vals) xs [] n cs g n' ρ vals
    rw [hl] at this
    exact this h hp
  | .slice a, xs, n, cs, g, n', ρ, vals, h, ⟨A, cap, e, hl, hr⟩ => by
    simp only [expand] at h
    injection h with h; injection h with h1 h; injection h with h2 h3
    subst h1; subst h2; subst h3; subst e
    refine ⟨ρ.set n ⟨A, List.length (α := TD a) xs, cap⟩, Nat.le_succ n, Env.set_same ρ n _, ?_, ?_, ?_⟩
    · simp [dens, SV.den, Env.set_at]
    · intro i hi; simp [idsOf, SV.ids] at hi; omega
    · intro id b hb
      rw [look_cons] at hb
      by_cases he : n = id
      · subst he
        rw [if_pos rfl] at hb
        injection hb with hb
        subst hb
        refine ⟨⟨Nat.le_refl _, Nat.lt_succ_self _⟩, by simp [Gb.ids], rfl, ?_, ?_, ?_⟩
        · rw [Env.set_at]
        · rw [Env.set_at]; exact hl
        · rw [Env.set_at]; exact hr
      · rw [if_neg he] at hb; cases hb
  | .ptr a, x, n, cs, g, n', ρ, vals, h, ⟨b, o, e, hb, v1, _, hc, hp⟩ => by
    simp only [expand] at h
    cases hf1 : expand a x (n + 1) with
    | none => rw [hf1] at h; cases h
    | some r =>
      obtain ⟨c1, g1, n1⟩ := r
      rw [hf1] at h
      simp only at h
      injection h with h; injection h with e1 h; injection h with e2 e3
      subst e1; subst e2; subst e3; subst e
      obtain ⟨ρ', x'⟩ := expand_sound a x (n + 1) c1 g1 n1 (ρ.set n ⟨some ⟨b, o, none⟩, 0, 0⟩) v1 hf1 hp
      exact ⟨ρ', Exp.rob (.ptr n 0) _ (fun ρ2 h2 => by simp [SV.den, Env.at, h2]) rfl hb hc x'⟩
  | .optr a, x, n, cs, g, n', ρ, vals, h, hp => by
    simp only [expand] at h
    injection h with h; injection h with h1 h; injection h with h2 h3
    subst h1; subst h2; subst h3
    have hA : ∃ A, vals = [.pointer A] ∧ OptR R w a x A ∧ ∀ ρ2 : Env, (ρ2 n).addr = A → ρ2.at n 0 = A := by
      cases x with
      | none => exact ⟨none, hp, rfl, fun ρ2 h => by simp [Env.at, h]⟩
      | some y => obtain ⟨b, o, e, hq⟩ := hp; exact ⟨some ⟨b, o, none⟩, e, ⟨b, o, rfl, hq⟩, fun ρ2 h => by simp [Env.at, h]⟩
    obtain ⟨A, e, hO, hz⟩ := hA
    subst e
    refine ⟨ρ.set n ⟨A, 0, 0⟩, Nat.le_succ n, Env.set_same ρ n _, ?_, ?_, ?_⟩
    · simp only [dens, List.map_cons, List.map_nil, SV.den]
      rw [hz _ (by rw [Env.set_at])]
    · intro i hi; simp [idsOf, SV.ids] at hi; omega
    · intro id b hb
      rw [look_cons] at hb
      by_cases he : n = id
      · subst he
        rw [if_pos rfl] at hb
        injection hb with hb
        subst hb
        refine ⟨⟨Nat.le_refl _, Nat.lt_succ_self _⟩, by simp [Gb.ids], rfl, ?_⟩
        show OptR R w a x _
        rw [Env.set_at]; exact hO
      · rw [if_neg he] at hb; cases hb
  | .fnl f, x, n, cs, g, n', ρ, vals, h, hp => by
    simp only [expand] at h
    injection h with h; injection h with h1 h; injection h with h2 h3
    subst h1; subst h2; subst h3
    have : vals = [.func (.func f) #[] #[]] := hp
    subst this
    exact ⟨ρ, Exp.nil [.fn f [] []] rfl⟩
  | .clo f a, x, n, cs, g, n', ρ, vals, h, ⟨b, o, e, hb, v1, _, hc, hp⟩ => by
    simp only [expand] at h
    cases hf1 : expand a x (n + 1) with
    | none => rw [hf1] at h; cases h
    | some r =>
      obtain ⟨c1, g1, n1⟩ := r
      rw [hf1] at h
      simp only at h
      injection h with h; injection h with e1 h; injection h with e2 e3
      subst e1; subst e2; subst e3; subst e
      obtain ⟨ρ', x'⟩ := expand_sound a x (n + 1) c1 g1 n1 (ρ.set n ⟨some ⟨b, o, none⟩, 0, 0⟩) v1 hf1 hp
      exact ⟨ρ', Exp.rob (.fn f [] [(n, 0)]) _ (fun ρ2 h2 => by simp [SV.den, Env.at, h2]) rfl hb hc x'⟩

/-! ### collect: cells and ghost memory, as data -/
def collectN {α : Type} (f : List SV → Option α) (sz : Nat) : Nat → List SV → Option (List α)
  | 0, _ => some []
  | n + 1, cs =>
    match f (cs.take sz) with
    | none => none
    | some x =>
      match collectN f sz n (cs.drop sz) with
      | none => none
      | some xs => some (x :: xs)

def castL (t a : Ty) (xs : List (TD t)) : Option (List (TD a)) := if h : t = a then some (h ▸ xs) else none

def castO (t a : Ty) (x : Option (TD t)) : Option (Option (TD a)) := if h : t = a then some (h ▸ x) else none

/-- the cells of a block from a place on -/
def blkAt (gh : Gh) (id off n : Nat) : Option (List SV) :=
  match look gh id with
  | some (.blk cs) | some (.rob cs) => bif Nat.ble (off + n) cs.length then some ((cs.drop off).take n) else none
  | _ => none

def collect (gh : Gh) : (t : Ty) → List SV → Option (TD t)
  | .int k, cs =>
    match cs with
    | [.cint k' n] | [.int k' n] => if k' = k then some n else none
    | _ => none
  | .bool, cs =>
    match cs with
    | [.cbool b] | [.bool b] => some b
    | _ => none
  | .str, cs =>
    match cs with
    | [.str s] => some s
    | _ => none
  | .unit, cs =>
    match cs with
    | [] => some ()
    | _ => none
  | .cat a b, cs =>
    match collect gh a (cs.take a.size) with
    | none => none
    | some x =>
      match collect gh b (cs.drop a.size) with
      | none => none
      | some y => some (x, y)
  | .rep n a, cs => bif Nat.beq cs.length (n * a.size) then collectN (collect gh a) a.size n cs else none
  | .slice a, cs =>
    match cs with
    | [.nils] => some ([] : List (TD a))
    | [.row id] =>
      match look gh id with
      | some (.ro t xs) | some (.own t xs) => castL t a xs
      | _ => none
    | [.win id lo len sz] =>
      bif Nat.beq sz a.size then
        match look gh id with
        | some (.ro t xs) | some (.own t xs) => castL t a ((xs.drop lo).take len)
        | _ => none
      else none
    | [.sub id off len cap] =>
      bif Nat.ble len cap then
        match blkAt gh id off (len * a.size) with
        | none => none
        | some c => collectN (collect gh a) a.size len c
      else none
    | _ => none
  | .ptr a, cs =>
    match cs with
    | [.ptr id off] =>
      match blkAt gh id off a.size with
      | none => none
      | some c => collect gh a c
    | _ => none
  | .optr a, cs =>
    match cs with
    | [.nilp] => some (none : Option (TD a))
    | [.ptr id off] =>
      match look gh id with
      | some (.opt t x) => bif Nat.beq off 0 then castO t a x else none
      | _ =>
        match blkAt gh id off a.size with
        | none => none
        | some c => (collect gh a c).map some
    | _ => none
  | .fnl f, cs =>
    match cs with
    | [.fn f' [] []] => bif Nat.beq f' f then some () else none
    | _ => none
  | .clo f a, cs =>
    match cs with
    | [.fn f' [] [(id, off)]] =>
      bif Nat.beq f' f then
        match blkAt gh id off a.size with
        | none => none
        | some c => collect gh a c
      else none
    | _ => none

def Rplus (R : Nat → Prop) (ρ : Env) (gh : Gh) (b : Nat) : Prop := R b ∨ OwnB ρ gh b

section
variable {R : Nat → Prop} {w : World} {ρ : Env} {gh : Gh}

theorem blkAt_sound (hG : RepG R ρ gh w) {id off n : Nat} {c : List SV} (h : blkAt gh id off n = some c) :
    ∃ b o, (ρ id).addr = some ⟨b, o, none⟩ ∧ Rplus R ρ gh b ∧ c.length = n ∧ CellsAt w b (o + off) (dens ρ c) := by
  unfold blkAt at h
  cases hg : look gh id with
  | none => rw [hg] at h; cases h
  | some g =>
    rw [hg] at h
    have key : ∀ cs : List SV, (bif Nat.ble (off + n) cs.length then some ((cs.drop off).take n) else none) = some c → off + n ≤ cs.length ∧ c = (cs.drop off).take n := by
      intro cs h
      cases hb : Nat.ble (off + n) cs.length with
      | false => rw [hb] at h; cases h
      | true => rw [hb] at h; injection h with h; exact ⟨Nat.le_of_ble_eq_true hb, h.symm⟩
    have hf := hG.facts id g hg
    cases g with
    | blk cs =>
      obtain ⟨hl, rfl⟩ := key cs h
      obtain ⟨b, T, ha, hh⟩ := hf
      refine ⟨b, 0, ha, .inr ⟨id, _, hg, by simp [Gb.ownB, ha]⟩, by simp; omega, fun j hj => ?_⟩
      simp [dens] at hj
      simp only [World.cell?, hh]
      simp only [Option.isSome_none, Bool.false_eq_true, if_false, dens]
      rw [List.getElem?_toArray, List.map_take, List.map_drop, List.getElem?_take, if_pos (by omega), List.getElem?_drop]
      congr 1; omega
    | rob cs =>
      obtain ⟨hl, rfl⟩ := key cs h
      obtain ⟨b, o, ha, hb, hc⟩ := hf
      refine ⟨b, o, ha, .inl hb, by simp; omega, fun j hj => ?_⟩
      simp [dens] at hj
      have := hc (off + j) (by simp [dens]; omega)
      rw [Nat.add_assoc, this]
      simp only [dens]
      rw [List.map_take, List.map_drop, List.getElem?_take, if_pos (by omega), List.getElem?_drop]
    | ro t xs => cases h
    | own t xs => cases h
    | opt t x => cases h
    | pin b cs => cases h
    | obj cs t x => cases h

theorem CellsAt.part {b o : Nat} {cs : List Value} (h : CellsAt w b o cs) (i n : Nat) (hl : i + n ≤ cs.length) : CellsAt w b (o + i) ((cs.drop i).take n) := by
  intro j hj
  have hj' : j < n := by simp at hj; omega
  have := h (i + j) (by omega)
  rw [← Nat.add_assoc] at this
  rw [this, List.getElem?_take, if_pos hj', List.getElem?_drop]

theorem collectN_sound {α : Type} {f : List SV → Option α} {sz : Nat} {p : α → List Value → Prop} (hf : ∀ cs x, f cs = some x → p x (dens ρ cs)) :
    ∀ (n : Nat) (cs : List SV) (xs : List α), collectN f sz n cs = some xs → cs.length = n * sz →
      xs.length = n ∧ AllR p xs (dens ρ cs) ∧ ∀ i x, xs[i]? = some x → p x (dens ρ ((cs.drop (i * sz)).take sz))
  | 0, cs, xs, h, hl => by
    simp only [collectN] at h
    injection h with h; subst h
    have : cs = [] := by simpa using hl
    subst this
    exact ⟨rfl, rfl, by simp⟩
  | n + 1, cs, xs, h, hl => by
    simp only [collectN] at h
    cases h1 : f (cs.take sz) with
    | none => rw [h1] at h; cases h
    | some x =>
      rw [h1] at h
      simp only at h
      cases h2 : collectN f sz n (cs.drop sz) with
      | none => rw [h2] at h; cases h
      | some ys =>
        rw [h2] at h
        simp only at h
        injection h with h; subst h
        rw [Nat.succ_mul] at hl
        obtain ⟨e, a, q⟩ := collectN_sound hf n (cs.drop sz) ys h2 (by simp; omega)
        refine ⟨by simp [e], ⟨dens ρ (cs.take sz), dens ρ (cs.drop sz), by rw [← dens_append, List.take_append_drop], hf _ _ h1, a⟩, fun i y hy => ?_⟩
        cases i with
        | zero => simp at hy; subst hy; simpa using hf _ _ h1
        | succ i =>
          simp at hy
          have := q i y hy
          rw [List.drop_drop] at this
          rwa [Nat.succ_mul, Nat.add_comm (i * sz)]

theorem castL_sound {t a : Ty} {xs : List (TD t)} {ys : List (TD a)} (h : castL t a xs = some ys) : ∃ e : t = a, ys = e ▸ xs := by
  unfold castL at h
  split at h
  · rename_i e; injection h with h; exact ⟨e, h.symm⟩
  · cases h

theorem OwnRow.reads (hG : RepG R ρ gh w) {id : Nat} {t : Ty} {xs : List (TD t)} (hg : look gh id = some (.own t xs)) : RowR (Rplus R ρ gh) w t.size (ReadsC (Rplus R ρ gh) w t) xs (ρ id).addr := by
  obtain ⟨hl, hc, h⟩ := hG.facts id _ hg
  rcases h with ⟨_, h, _⟩ | ⟨b, o, cs, T, ha, hh, hs, hx⟩
  · subst h; intro i x hi; simp at hi
  · intro i x hi
    obtain ⟨c, h1, h2, h3⟩ := hx i x hi
    refine ⟨b, o, ha, .inr ⟨id, _, hg, by simp [Gb.ownB, ha]⟩, c, h1, fun j hj => ?_, ReadsC.mono (fun b hb => ⟨.inl hb, rfl⟩) _ _ _ h3⟩
    simp only [World.cell?, hh]
    simpa using h2 j (by omega)

/-- a part of a row, as a slice -/
theorem win_reads {R : Nat → Prop} {w : World} {ρ : Env} {t : Ty} {xs : List (TD t)} {id lo len : Nat} (h1 : xs.length = (ρ id).len) (h2 : xs.length ≤ (ρ id).cap) (h : RowR R w t.size (ReadsC R w t) xs (ρ id).addr) :
    ReadsC R w (.slice t) ((xs.drop lo).take len : List (TD t)) (dens ρ [.win id lo len t.size]) := by
  refine ⟨_, (ρ id).cap - lo, by simp only [dens, List.map_cons, List.map_nil, SV.den, ← h1]; congr 2; simp, by simp; omega, fun i x hx => ?_⟩
  rw [List.getElem?_take] at hx
  split at hx
  · rename_i hi
    rw [List.getElem?_drop] at hx
    have hlt := (List.getElem?_eq_some_iff.1 hx).1
    obtain ⟨b, o, ha, hb, cs, hl, hc, hp⟩ := h (lo + i) x hx
    rw [if_neg (by omega)]
    refine ⟨b, o + lo * t.size, by simp [Env.at, ha], hb, cs, hl, ?_, hp⟩
    rw [Nat.add_mul, ← Nat.add_assoc] at hc
    exact hc
  · cases hx

theorem collect_sound (hG : RepG R ρ gh w) : ∀ (t : Ty) (cs : List SV) (x : TD t), collect gh t cs = some x → ReadsC (Rplus R ρ gh) w t x (dens ρ cs)
  | .int k, cs, x, h => by
    simp only [collect] at h
    split at h
    · split at h
      · rename_i e; subst e; injection h with h; subst h; rfl
      · cases h
    · split at h
      · rename_i e; subst e; injection h with h; subst h; rfl
      · cases h
    · cases h
  | .bool, cs, x, h => by
    simp only [collect] at h
    split at h
    · injection h with h; subst h; rfl
    · injection h with h; subst h; rfl
    · cases h
  | .str, cs, x, h => by
    simp only [collect] at h
    split at h
    · injection h with h; subst h; rfl
    · cases h
  | .unit, cs, x, h => by
    simp only [collect] at h
    split at h
    · rfl
    · cases h
  | .cat a b, cs, x, h => by
    simp only [collect] at h
    cases h1 : collect gh a (cs.take a.size) with
    | none => rw [h1] at h; cases h
    | some y =>
      rw [h1] at h
      simp only at h
      cases h2 : collect gh b (cs.drop a.size) with
      | none => rw [h2] at h; cases h
      | some z =>
        rw [h2] at h
        simp only at h
        injection h with h; subst h
        exact ⟨_, _, by rw [← dens_append, List.take_append_drop], collect_sound hG a _ _ h1, collect_sound hG b _ _ h2⟩
  | .rep n a, cs, x, h => by
    simp only [collect] at h
    cases hb : Nat.beq cs.length (n * a.size) with
    | false => rw [hb] at h; cases h
    | true =>
      rw [hb] at h
      obtain ⟨e, h1, _⟩ := collectN_sound (ρ := ρ) (fun cs x => collect_sound hG a cs x) n cs x h (beq_iff.1 hb)
      exact ⟨e, h1⟩
  | .slice a, cs, x, h => by
    simp only [collect] at h
    split at h
    · injection h with h; subst h
      refine ⟨none, 0, rfl, Nat.le_refl _, ?_⟩
      intro i x hx; simp at hx
    · rename_i id
      cases hg : look gh id with
      | none => rw [hg] at h; cases h
      | some g =>
        rw [hg] at h
        cases g with
        | blk _ => cases h
        | rob _ => cases h
        | opt _ _ => cases h
        | pin _ _ => cases h
        | obj _ _ _ => cases h
        | ro t xs =>
          obtain ⟨e, rfl⟩ := castL_sound h
          subst e
          obtain ⟨f1, f2, f3⟩ := hG.facts id _ hg
          exact ⟨(ρ id).addr, (ρ id).cap, by simp [dens, SV.den, f1], f2, RowR.mono (fun b hb => ⟨.inl hb, rfl⟩) (ReadsC.mono (fun b hb => ⟨.inl hb, rfl⟩) t) f3⟩
        | own t xs =>
          obtain ⟨e, rfl⟩ := castL_sound h
          subst e
          have hr := OwnRow.reads hG hg
          obtain ⟨f1, f2, f3⟩ := hG.facts id _ hg
          exact ⟨(ρ id).addr, (ρ id).cap, by simp [dens, SV.den, f1], f2, hr⟩
    · rename_i id lo len sz
      cases hb : Nat.beq sz a.size with
      | false => rw [hb] at h; cases h
      | true =>
        rw [hb] at h
        simp only [cond_true] at h
        have hb := beq_iff.1 hb
        cases hg : look gh id with
        | none => rw [hg] at h; cases h
        | some g =>
          rw [hg] at h
          cases g with
          | blk _ => cases h
          | rob _ => cases h
          | opt _ _ => cases h
          | pin _ _ => cases h
          | obj _ _ _ => cases h
          | ro t xs =>
            obtain ⟨e, rfl⟩ := castL_sound h
            subst e
            subst hb
            obtain ⟨f1, f2, f3⟩ := hG.facts id _ hg
            exact win_reads f1 f2 (RowR.mono (fun b hb => ⟨.inl hb, rfl⟩) (ReadsC.mono (fun b hb => ⟨.inl hb, rfl⟩) t) f3)
          | own t xs =>
            obtain ⟨e, rfl⟩ := castL_sound h
            subst e
            subst hb
            have hr := OwnRow.reads hG hg
            obtain ⟨f1, f2, f3⟩ := hG.facts id _ hg
            exact win_reads f1 f2 hr
    · rename_i id off len cap
      cases hb : Nat.ble len cap with
      | false => rw [hb] at h; cases h
      | true =>
        rw [hb] at h
        simp only [cond_true] at h
        cases hk : blkAt gh id off (len * a.size) with
        | none => rw [hk] at h; cases h
        | some c =>
          rw [hk] at h
          simp only at h
          obtain ⟨b, o, ha, hR, hl, hc⟩ := blkAt_sound hG hk
          obtain ⟨e, _, q⟩ := collectN_sound (ρ := ρ) (fun cs x => collect_sound hG a cs x) len c x h hl
          refine ⟨some ⟨b, o + off, none⟩, cap, by simp [dens, SV.den, Env.at, ha, e], by rw [e]; exact Nat.le_of_ble_eq_true hb, fun i y hy => ?_⟩
          have hi : i < len := by have := (List.getElem?_eq_some_iff.1 hy).1; rw [e] at this; exact this
          have hm : i * a.size + a.size ≤ len * a.size := by rw [← Nat.succ_mul]; exact Nat.mul_le_mul_right _ hi
          refine ⟨b, o + off, rfl, hR, dens ρ ((c.drop (i * a.size)).take a.size), by simp; omega, ?_, q i y hy⟩
          have := hc.part (i * a.size) a.size (by simp; omega)
          simpa [dens] using this
    · cases h
  | .ptr a, cs, x, h => by
    simp only [collect] at h
    split at h
    · rename_i id off
      cases hk : blkAt gh id off a.size with
      | none => rw [hk] at h; cases h
      | some c =>
        rw [hk] at h
        obtain ⟨b, o, ha, hR, hl, hc⟩ := blkAt_sound hG hk
        exact ⟨b, o + off, by simp [dens, SV.den, Env.at, ha], hR, dens ρ c, by simp [hl], hc, collect_sound hG a c x h⟩
    · cases h
  | .optr a, cs, x, h => by
    simp only [collect] at h
    split at h
    · injection h with h; subst h; rfl
    · rename_i id off
      have kb : (match blkAt gh id off a.size with | none => none | some c => (collect gh a c).map some) = some x → ReadsC (Rplus R ρ gh) w (.optr a) x (dens ρ [SV.ptr id off]) := by
        intro h
        cases hk : blkAt gh id off a.size with
        | none => rw [hk] at h; cases h
        | some c =>
          rw [hk] at h
          simp only at h
          cases hc' : collect gh a c with
          | none => rw [hc'] at h; cases h
          | some y =>
            rw [hc'] at h
            simp only [Option.map] at h
            injection h with h; subst h
            obtain ⟨b, o, ha, hR, hl, hc⟩ := blkAt_sound hG hk
            exact ⟨b, o + off, by simp [dens, SV.den, Env.at, ha], hR, dens ρ c, by simp [hl], hc, collect_sound hG a c y hc'⟩
      split at h
      · rename_i t x0 hg
        cases hb : Nat.beq off 0 with
        | false => rw [hb] at h; cases h
        | true =>
          rw [hb] at h
          simp only [cond_true] at h
          have e0 := beq_iff.1 hb
          subst e0
          unfold castO at h
          split at h
          · rename_i e
            subst e
            injection h with h
            have h : x0 = x := h
            subst h
            have hf : OptR R w t x0 (ρ id).addr := hG.facts id _ hg
            cases x0 with
            | none =>
              have hf : (ρ id).addr = none := hf
              show dens ρ [SV.ptr id 0] = [.pointer none]
              simp [dens, SV.den, Env.at, hf]
            | some y =>
              obtain ⟨b, o, e, hq⟩ := hf
              exact ⟨b, o, by simp [dens, SV.den, Env.at, e], PtrR.mono (fun b hb => ⟨.inl hb, rfl⟩) (ReadsC.mono (fun b hb => ⟨.inl hb, rfl⟩) t) hq⟩
          · cases h
      · exact kb h
    · cases h
  | .fnl f, cs, x, h => by
    simp only [collect] at h
    split at h
    · rename_i f'
      cases hb : Nat.beq f' f with
      | false => rw [hb] at h; cases h
      | true => rw [beq_iff.1 hb]; rfl
    · cases h
  | .clo f a, cs, x, h => by
    simp only [collect] at h
    split at h
    · rename_i f' id off
      cases hb : Nat.beq f' f with
      | false => rw [hb] at h; cases h
      | true =>
        rw [hb] at h
        simp only [cond_true] at h
        cases hk : blkAt gh id off a.size with
        | none => rw [hk] at h; cases h
        | some c =>
          rw [hk] at h
          obtain ⟨b, o, ha, hR, hl, hc⟩ := blkAt_sound hG hk
          exact ⟨b, o + off, by simp [dens, SV.den, Env.at, ha, beq_iff.1 hb], hR, dens ρ c, by simp [hl], hc, collect_sound hG a c x h⟩
    · cases h
end

end Sx
