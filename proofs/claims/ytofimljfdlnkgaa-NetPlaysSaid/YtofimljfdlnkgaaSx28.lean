/- A symbolic executor for the model's code: contracts whose results hold rows of one's own. -/
import Derived.Test.YtofimljfdlnkgaaSx27
namespace Sx
open Go Go.RowKit

def OwnSl (lo : Nat) (w : World) (t : Ty) (xs : List (TD t)) (A : Option Addr) (cap : Nat) : Prop :=
  (A = none ∧ xs = [] ∧ cap = 0) ∨ ∃ b o cs T, A = some ⟨b, o, none⟩ ∧ lo ≤ b ∧ w.heap[b]? = some (.cells cs T (0, 0)) ∧ o + cap * t.size ≤ cs.size ∧
    ∀ i x, xs[i]? = some x → ∃ c : List Value, c.length = t.size ∧ (∀ j, j < t.size → cs[o + i * t.size + j]? = c[j]?) ∧ ReadsC (fun _ => False) w t x c

def blkOf (A : Option Addr) : List Nat := match A with | some a => [a.block] | none => []

def OwnC (lo : Nat) (w : World) : (t : Ty) → TD t → List Value → List Nat → Prop
  | .slice a, xs, cs, bs => ∃ A cap, cs = [.slice A (List.length (α := TD a) xs) cap] ∧ List.length (α := TD a) xs ≤ cap ∧ OwnSl lo w a xs A cap ∧ bs = blkOf A
  | .cat a b, x, cs, bs => ∃ c1 c2 b1 b2, cs = c1 ++ c2 ∧ bs = b1 ++ b2 ∧ OwnC lo w a x.1 c1 b1 ∧ OwnC lo w b x.2 c2 b2
  | .int k, x, cs, bs => ReadsC (fun _ => False) w (.int k) x cs ∧ bs = []
  | .bool, x, cs, bs => ReadsC (fun _ => False) w .bool x cs ∧ bs = []
  | .str, x, cs, bs => ReadsC (fun _ => False) w .str x cs ∧ bs = []
  | .unit, x, cs, bs => ReadsC (fun _ => False) w .unit x cs ∧ bs = []
  | .rep n a, x, cs, bs => ReadsC (fun _ => False) w (.rep n a) x cs ∧ bs = []
  | .fnl f, x, cs, bs => ReadsC (fun _ => False) w (.fnl f) x cs ∧ bs = []
  | .ptr _, _, _, _ | .optr _, _, _, _ | .clo _ _, _, _, _ => False

abbrev Upd := List (Nat × Option Gb)

def flatO (t : Ty) (x : TD t) (n : Nat) : Option (List SV × Upd × Nat) :=
  match t.flat with
  | true => match expand t x n with | some (c, _, _) => some (c, [], n) | none => none
  | false => none

def expandO : (t : Ty) → TD t → Nat → Option (List SV × Upd × Nat)
  | .slice a, xs, n => match a.flat with | true => some ([.row n], [(n, some (.own a xs))], n + 1) | false => none
  | .cat a b, x, n =>
    match expandO a x.1 n with
    | none => none
    | some (c1, u1, n1) => match expandO b x.2 n1 with | none => none | some (c2, u2, n2) => some (c1 ++ c2, u2 ++ u1, n2)
  | .int k, x, n => flatO (.int k) x n
  | .bool, x, n => flatO .bool x n
  | .str, x, n => flatO .str x n
  | .unit, x, n => flatO .unit x n
  | .rep m a, x, n => flatO (.rep m a) x n
  | .fnl f, x, n => flatO (.fnl f) x n
  | .ptr _, _, _ | .optr _, _, _ | .clo _ _, _, _ => none

section
variable {R : Nat → Prop} {ρ : Env} {gh : Gh} {w w' : World} {next top : Nat}

structure InvO (R : Nat → Prop) (ρ : Env) (gh : Gh) (w w' : World) (next top : Nat) (ρk : Env) (u : Upd) (n : Nat) : Prop where
  rep : RepG R ρk (applyUpd u gh) w'
  ext : Ext R ρ gh w next R ρk (applyUpd u gh) w' n
  bd : ∀ id g, look (applyUpd u gh) id = some g → (id < n ∨ top ≤ id) ∧ ∀ i ∈ g.ids, i < n ∨ top ≤ i
  le : next ≤ n

structure StepO (R : Nat → Prop) (ρ : Env) (gh : Gh) (w w' : World) (next top : Nat) (ρk : Env) (u : Upd) (n : Nat) (vals : List Value) (cs : List SV) (v : Upd) (n' : Nat) (bs : List Nat) (ρ' : Env) : Prop where
  inv : InvO R ρ gh w w' next top ρ' (v ++ u) n'
  le : n ≤ n'
  same : SameOn (fun i => i < n ∨ n' ≤ i) ρk ρ'
  vals : vals = dens ρ' cs
  ids : ∀ i ∈ idsOf cs, n ≤ i ∧ i < n'
  own : ∀ b, OwnB ρ' (applyUpd (v ++ u) gh) b → OwnB ρk (applyUpd u gh) b ∨ b ∈ bs

theorem InvO.addOwn {ρk : Env} {u : Upd} {n : Nat} {t : Ty} {xs : List (TD t)} {A : Option Addr} {cap : Nat} (h : InvO R ρ gh w w' next top ρk u n) (htop : n + 1 ≤ top) (ht : t.flat = true) (hcap : xs.length ≤ cap)
    (hlo : ∀ k, R k → k < w.heap.size) (ho : OwnSl w.heap.size w' t xs A cap) (hno : ∀ b ∈ blkOf A, ¬ OwnB ρk (applyUpd u gh) b) :
    StepO R ρ gh w w' next top ρk u n [.slice A xs.length cap] [.row n] [(n, some (.own t xs))] (n + 1) (blkOf A) (ρk.set n ⟨A, xs.length, cap⟩) := by
  have hS := Env.set_same ρk n ⟨A, xs.length, cap⟩
  have hrow : OwnRow R w' (ρk.set n ⟨A, xs.length, cap⟩) n t xs := by
    refine ⟨by rw [Env.set_at], by rw [Env.set_at]; exact hcap, ?_⟩
    rcases ho with ⟨e1, e2, e3⟩ | ⟨b, o, cs, T, e1, _, e3, e4, e5⟩
    · exact .inl ⟨by rw [Env.set_at]; exact e1, e2, by rw [Env.set_at]; exact e3⟩
    · refine .inr ⟨b, o, cs, T, by rw [Env.set_at]; exact e1, e3, by rw [Env.set_at]; exact e4, fun i x hx => ?_⟩
      obtain ⟨c, c1, c2, c3⟩ := e5 i x hx
      exact ⟨c, c1, c2, ReadsC.flat t x c ht c3⟩
  have hnew : ∀ a, A = some a → a.block < w'.heap.size ∧ w.heap.size ≤ a.block := by
    intro a ha
    rcases ho with ⟨e1, _, _⟩ | ⟨b, o, cs, T, e1, e2, e3, _, _⟩
    · rw [e1] at ha; cases ha
    · rw [e1] at ha; injection ha with ha; subst ha
      exact ⟨(Array.getElem?_eq_some_iff.1 e3).1, e2⟩
  have hbd1 : ∀ id g, look (applyUpd u gh) id = some g → (id < n ∨ n + 1 ≤ id) ∧ ∀ i ∈ g.ids, i < n ∨ n + 1 ≤ i := fun id g hg =>
    ⟨(h.bd id g hg).1.imp (fun x => x) fun x => by omega, fun i hi => ((h.bd id g hg).2 i hi).imp (fun x => x) fun x => by omega⟩
  have hrep := RepG.addOwn (w' := w') (t := t) (zs := xs) (S := ⟨A, xs.length, cap⟩) h.rep hbd1 (fun _ _ => rfl) (Nat.le_refl _) hrow
    (fun a ha => ⟨(hnew a ha).1, fun hR => by have := hlo _ hR; have := (hnew a ha).2; omega, hno a.block (by simp at ha; subst ha; simp [blkOf])⟩)
  have heq : applyUpd ([(n, some (Gb.own t xs))] ++ u) gh = (n, .own t xs) :: erase n (applyUpd u gh) := by rw [applyUpd_append]; rfl
  have hcase : ∀ k g, look (applyUpd ([(n, some (Gb.own t xs))] ++ u) gh) k = some g → (k = n ∧ g = .own t xs) ∨ (k ≠ n ∧ look (applyUpd u gh) k = some g) := by
    intro k g hk
    rw [heq, look_cons, look_erase] at hk
    by_cases e : n = k
    · rw [if_pos e] at hk; injection hk with hk; exact .inl ⟨e.symm, hk.symm⟩
    · rw [if_neg e, if_neg e] at hk; exact .inr ⟨fun e' => e e'.symm, hk⟩
  have hown : ∀ b, OwnB (ρk.set n ⟨A, xs.length, cap⟩) (applyUpd ([(n, some (Gb.own t xs))] ++ u) gh) b → OwnB ρk (applyUpd u gh) b ∨ b ∈ blkOf A := by
    rintro b ⟨k, g, hk, hb⟩
    rcases hcase k g hk with ⟨rfl, rfl⟩ | ⟨hn, hk⟩
    · simp only [Gb.ownB, Env.set_at] at hb
      cases hA : A with
      | none => rw [hA] at hb; cases hb
      | some a => rw [hA] at hb; simp at hb; subst hb; exact .inr (by simp [blkOf])
    · rw [ownB_same (hS k (hbd1 k g hk).1)] at hb
      exact .inl ⟨k, g, hk, hb⟩
  refine ⟨⟨by rw [heq]; exact hrep, ?_, fun id g hg => ?_, by have := h.le; omega⟩, Nat.le_succ _, hS, ?_, ?_, hown⟩
  · refine ⟨h.ext.size, h.ext.os, h.ext.tape, h.ext.output, h.ext.keep, fun id hid => ?_, h.ext.sub, h.ext.newR, fun b hb => ?_⟩
    · have hle := h.le
      exact (hS id (hid.imp (fun x => by omega) fun x => x)).trans (h.ext.env id (hid.imp (fun x => x) fun x => by omega))
    · rcases hown b hb with h1 | h1
      · exact h.ext.newO b h1
      · cases hA : A with
        | none => rw [hA] at h1; cases h1
        | some a => rw [hA] at h1; simp [blkOf] at h1; subst h1; exact .inr (hnew a hA).2
  · rcases hcase id g hg with ⟨rfl, rfl⟩ | ⟨hn, hk⟩
    · exact ⟨.inl (Nat.lt_succ_self _), by simp [Gb.ids]⟩
    · exact ⟨(h.bd id g hk).1.imp (fun x => by omega) fun x => x, fun i hi => ((h.bd id g hk).2 i hi).imp (fun x => by omega) fun x => x⟩
  · simp [dens, SV.den, Env.set_at]
  · intro i hi; simp [idsOf, SV.ids] at hi; omega

theorem flatO_sound {ρk : Env} {u : Upd} {n : Nat} {t : Ty} {x : TD t} {vals : List Value} {cs : List SV} {v : Upd} {n' : Nat} (h : InvO R ρ gh w w' next top ρk u n) (he : flatO t x n = some (cs, v, n')) (hr : ReadsC (fun _ => False) w' t x vals) :
    n' = n ∧ StepO R ρ gh w w' next top ρk u n vals cs v n' [] ρk := by
  unfold flatO at he
  split at he
  · rename_i hf
    split at he
    · rename_i c g m hx
      injection he with he; injection he with e1 he; injection he with e2 e3
      subst e1; subst e2; subst e3
      obtain ⟨g0, m0⟩ := expand_flat t x n c g m hf hx
      subst g0; subst m0
      obtain ⟨ρ', hx'⟩ := expand_sound t x _ c [] _ ρk vals hx hr
      have hid : ∀ i ∈ idsOf c, False := fun i hi => by have := hx'.ids i hi; omega
      refine ⟨rfl, ⟨by simpa using h, Nat.le_refl _, fun _ _ => rfl, ?_, fun i hi => (hid i hi).elim, fun b hb => .inl (by simpa using hb)⟩⟩
      rw [hx'.vals]
      exact dens_same (p := fun _ => False) (fun _ h => h.elim) (fun i hi => hid i hi)
    · cases he
  · cases he

theorem expandO_sound (hlo : ∀ k, R k → k < w.heap.size) : ∀ (t : Ty) (x : TD t) {ρk : Env} {u : Upd} {n : Nat} {vals : List Value} {cs : List SV} {v : Upd} {n' : Nat} {bs : List Nat}, InvO R ρ gh w w' next top ρk u n → n' ≤ top →
    expandO t x n = some (cs, v, n') → OwnC w.heap.size w' t x vals bs → bs.Nodup → (∀ b ∈ bs, ¬ OwnB ρk (applyUpd u gh) b) → ∃ ρ', StepO R ρ gh w w' next top ρk u n vals cs v n' bs ρ' := by
  intro t
  have fl : ∀ (t : Ty) (x : TD t) {ρk : Env} {u : Upd} {n : Nat} {vals : List Value} {cs : List SV} {v : Upd} {n' : Nat} {bs : List Nat}, InvO R ρ gh w w' next top ρk u n →
      flatO t x n = some (cs, v, n') → (ReadsC (fun _ => False) w' t x vals ∧ bs = []) → ∃ ρ', StepO R ρ gh w w' next top ρk u n vals cs v n' bs ρ' := by
    intro t x ρk u n vals cs v n' bs h he ⟨hr, hb⟩
    subst hb
    exact ⟨ρk, (flatO_sound h he hr).2⟩
  induction t with
  | slice a _ =>
    intro x ρk u n vals cs v n' bs h htop he hc hn hb
    simp only [expandO] at he
    split at he
    · rename_i hf
      injection he with he; injection he with e1 he; injection he with e2 e3
      subst e1; subst e2; subst e3
      obtain ⟨A, cap, rfl, hcap, ho, rfl⟩ := hc
      exact ⟨_, h.addOwn htop hf hcap hlo ho hb⟩
    · cases he
  | cat a b iha ihb =>
    intro x ρk u n vals cs v n' bs h htop he hc hn hb
    simp only [expandO] at he
    split at he
    · cases he
    · rename_i c1 u1 n1 he1
      split at he
      · cases he
      · rename_i c2 u2 n2 he2
        injection he with he; injection he with e1 he; injection he with e2 e3
        subst e1; subst e2; subst e3
        obtain ⟨v1, v2, b1, b2, rfl, rfl, h1, h2⟩ := hc
        rw [List.nodup_append] at hn
        have hle : n1 ≤ n2 := by
          have : ∀ (t : Ty) (x : TD t) (n : Nat) cs v n', expandO t x n = some (cs, v, n') → n ≤ n' := by
            intro t
            have flm : ∀ (t : Ty) (x : TD t) (n : Nat) cs v n', flatO t x n = some (cs, v, n') → n ≤ n' := by
              intro t x n cs v n' he
              unfold flatO at he
              split at he
              · split at he
                · injection he with he; injection he with _ he; injection he with _ he; omega
                · cases he
              · cases he
            induction t with
            | slice a _ => intro x n cs v n' he; simp only [expandO] at he; split at he <;> first | (injection he with he; injection he with _ he; injection he with _ he; omega) | cases he
            | cat a b ia ib =>
              intro x n cs v n' he
              simp only [expandO] at he
              split at he
              · cases he
              · rename_i hq1
                split at he
                · cases he
                · rename_i hq2
                  injection he with he; injection he with _ he; injection he with _ he
                  have := ia _ _ _ _ _ hq1
                  have := ib _ _ _ _ _ hq2
                  omega
            | ptr _ _ => intro x n cs v n' he; simp [expandO] at he
            | optr _ _ => intro x n cs v n' he; simp [expandO] at he
            | clo _ _ _ => intro x n cs v n' he; simp [expandO] at he
            | _ => intro x n cs v n' he; simp only [expandO] at he; exact flm _ _ _ _ _ _ he
          exact this b _ _ _ _ _ he2
        obtain ⟨ρ1, s1⟩ := iha x.1 h (by omega) he1 h1 hn.1 (fun b hb' => hb b (List.mem_append.2 (.inl hb')))
        obtain ⟨ρ2, s2⟩ := ihb x.2 s1.inv htop he2 h2 hn.2.1 (fun b hb' ho => by
          rcases s1.own b ho with h3 | h3
          · exact hb b (List.mem_append.2 (.inr hb')) h3
          · exact hn.2.2 b h3 b hb' rfl)
        have l1 := s1.le
        refine ⟨ρ2, ⟨by rw [List.append_assoc]; exact s2.inv, by omega, fun id hid => ?_, ?_, fun i hi => ?_, fun b hb' => ?_⟩⟩
        · exact (s2.same id (hid.imp (fun h => by omega) fun h => h)).trans (s1.same id (hid.imp (fun h => h) fun h => by omega))
        · rw [dens_append, s1.vals, s2.vals, dens_same s2.same fun i hi => .inl (s1.ids i hi).2]
        · rw [idsOf_append, List.mem_append] at hi
          rcases hi with hi | hi
          · have := s1.ids i hi; omega
          · have := s2.ids i hi; omega
        · rw [List.append_assoc] at hb'
          rcases s2.own b hb' with h3 | h3
          · rcases s1.own b h3 with h4 | h4
            · exact .inl h4
            · exact .inr (List.mem_append.2 (.inl h4))
          · exact .inr (List.mem_append.2 (.inr h3))
  | ptr _ _ => intro x ρk u n vals cs v n' bs h _ he hc hn hb; exact hc.elim
  | optr _ _ => intro x ρk u n vals cs v n' bs h _ he hc hn hb; exact hc.elim
  | clo _ _ _ => intro x ρk u n vals cs v n' bs h _ he hc hn hb; exact hc.elim
  | _ => intro x ρk u n vals cs v n' bs h _ he hc hn hb; simp only [expandO] at he; exact fl _ _ h he hc

def ArgsO (lo : Nat) (w : World) : (ts : List Ty) → TDs ts → List Value → List Nat → Prop
  | [], _, vs, bs => vs = [] ∧ bs = []
  | t :: ts, xs, vs, bs => ∃ cs r b1 b2, vs = valT t cs :: r ∧ bs = b1 ++ b2 ∧ OwnC lo w t xs.1 cs b1 ∧ ArgsO lo w ts xs.2 r b2

def expandRO : (ts : List Ty) → TDs ts → Nat → Option (List (Bool × List SV) × Upd × Nat)
  | [], _, n => some ([], [], n)
  | t :: ts, xs, n =>
    match expandO t xs.1 n with
    | none => none
    | some (c1, g1, n1) =>
      match expandRO ts xs.2 n1 with
      | none => none
      | some (c2, g2, n2) => some ((t.isAgg, c1) :: c2, g2 ++ g1, n2)

structure StepR (R : Nat → Prop) (ρ : Env) (gh : Gh) (w w' : World) (next top : Nat) (ρk : Env) (u : Upd) (n : Nat) (vals : List Value) (ps : List (Bool × List SV)) (v : Upd) (n' : Nat) (ρ' : Env) : Prop where
  inv : InvO R ρ gh w w' next top ρ' (v ++ u) n'
  le : n ≤ n'
  same : SameOn (fun i => i < n ∨ n' ≤ i) ρk ρ'
  vals : vals = ps.map (denPart ρ')

theorem expandO_le : ∀ (t : Ty) (x : TD t) (n : Nat) cs v n', expandO t x n = some (cs, v, n') → n ≤ n' := by
  intro t
  have flm : ∀ (t : Ty) (x : TD t) (n : Nat) cs v n', flatO t x n = some (cs, v, n') → n ≤ n' := by
    intro t x n cs v n' he
    unfold flatO at he
    split at he
    · split at he
      · injection he with he; injection he with _ he; injection he with _ he; omega
      · cases he
    · cases he
  induction t with
  | slice a _ => intro x n cs v n' he; simp only [expandO] at he; split at he <;> first | (injection he with he; injection he with _ he; injection he with _ he; omega) | cases he
  | cat a b ia ib =>
    intro x n cs v n' he
    simp only [expandO] at he
    split at he
    · cases he
    · rename_i hq1
      split at he
      · cases he
      · rename_i hq2
        injection he with he; injection he with _ he; injection he with _ he
        have := ia _ _ _ _ _ hq1
        have := ib _ _ _ _ _ hq2
        omega
  | ptr _ _ => intro x n cs v n' he; simp [expandO] at he
  | optr _ _ => intro x n cs v n' he; simp [expandO] at he
  | clo _ _ _ => intro x n cs v n' he; simp [expandO] at he
  | _ => intro x n cs v n' he; simp only [expandO] at he; exact flm _ _ _ _ _ _ he

theorem expandRO_le : ∀ (ts : List Ty) (x : TDs ts) (n : Nat) cs v n', expandRO ts x n = some (cs, v, n') → n ≤ n'
  | [], x, n, cs, v, n', he => by simp only [expandRO] at he; injection he with he; injection he with _ he; injection he with _ he; omega
  | t :: ts, x, n, cs, v, n', he => by
    simp only [expandRO] at he
    split at he
    · cases he
    · rename_i hq1
      split at he
      · cases he
      · rename_i hq2
        injection he with he; injection he with _ he; injection he with _ he
        have := expandO_le _ _ _ _ _ _ hq1
        have := expandRO_le _ _ _ _ _ _ hq2
        omega

theorem expandRO_sound (hlo : ∀ k, R k → k < w.heap.size) : ∀ (ts : List Ty) (x : TDs ts) {ρk : Env} {u : Upd} {n : Nat} {vals : List Value} {ps : List (Bool × List SV)} {v : Upd} {n' : Nat} {bs : List Nat}, InvO R ρ gh w w' next top ρk u n → n' ≤ top →
    expandRO ts x n = some (ps, v, n') → ArgsO w.heap.size w' ts x vals bs → bs.Nodup → (∀ b ∈ bs, ¬ OwnB ρk (applyUpd u gh) b) → ∃ ρ', StepR R ρ gh w w' next top ρk u n vals ps v n' ρ'
  | [], x, ρk, u, n, vals, ps, v, n', bs, h, htop, he, ⟨e1, e2⟩, hn, hb => by
    simp only [expandRO] at he
    injection he with he; injection he with h1 he; injection he with h2 h3
    subst h1; subst h2; subst h3; subst e1
    exact ⟨ρk, ⟨by simpa using h, Nat.le_refl _, fun _ _ => rfl, rfl⟩⟩
  | t :: ts, x, ρk, u, n, vals, ps, v, n', bs, h, htop, he, ⟨cs, r, b1, b2, e1, e2, h1, h2⟩, hn, hb => by
    subst e1; subst e2
    simp only [expandRO] at he
    split at he
    · cases he
    · rename_i c1 u1 n1 he1
      split at he
      · cases he
      · rename_i c2 u2 n2 he2
        injection he with he; injection he with e1 he; injection he with e2 e3
        subst e1; subst e2; subst e3
        rw [List.nodup_append] at hn
        have hle := expandRO_le _ _ _ _ _ _ he2
        obtain ⟨ρ1, s1⟩ := expandO_sound hlo t x.1 h (by omega) he1 h1 hn.1 (fun b hb' => hb b (List.mem_append.2 (.inl hb')))
        obtain ⟨ρ2, s2⟩ := expandRO_sound hlo ts x.2 s1.inv htop he2 h2 hn.2.1 (fun b hb' ho => by
          rcases s1.own b ho with h3 | h3
          · exact hb b (List.mem_append.2 (.inr hb')) h3
          · exact hn.2.2 b h3 b hb' rfl)
        have l1 := s1.le
        refine ⟨ρ2, ⟨by rw [List.append_assoc]; exact s2.inv, by omega, fun id hid => ?_, ?_⟩⟩
        · exact (s2.same id (hid.imp (fun h => by omega) fun h => h)).trans (s1.same id (hid.imp (fun h => h) fun h => by omega))
        · simp only [List.map_cons]
          rw [s2.vals]
          congr 1
          have : cs = dens ρ2 c1 := by rw [s1.vals]; exact (dens_same s2.same fun i hi => .inl (s1.ids i hi).2).symm
          subst this
          unfold valT
          cases t.isAgg <;> rfl
end

def PureOwnOK (P : Program) (f : FuncId) (ts rs : List Ty) (pre : TDs ts → Prop) (F : TDs ts → TDs rs) : Prop :=
  ∀ R w xs args, (∀ b, R b → b < w.heap.size) → ArgsR R w ts xs args → pre xs →
    Calls P f args.toArray w fun e w' => ∃ vs bs, e = .returned (retV vs) ∧ ArgsO w.heap.size w' rs (F xs) vs bs ∧ bs.Nodup ∧ Below w.heap.size w w'

def ownSp (ts rs : List Ty) (pre : TDs ts → Prop) (F : TDs ts → TDs rs) : Spec := fun args gh next =>
  match collectA gh ts args with
  | none => none
  | some xs => some (.req (pre xs) (
    match expandRO rs (F xs) next with
    | none => .fail "a result that is not told"
    | some (ps, u, n') =>
      match mkRes ps with
      | some v => .leaf ⟨v, u, n'⟩
      | none => .fail "a result that is not told"))

theorem ownSp_ok {P : Program} {f : FuncId} {ts rs : List Ty} {pre : TDs ts → Prop} {F : TDs ts → TDs rs} (h : PureOwnOK P f ts rs pre F) : SpecOK P f (ownSp ts rs pre F) := by
  intro args gh next t d ht hr R ρ w hG hids hbd
  unfold ownSp at ht
  cases hc : collectA gh ts args with
  | none => rw [hc] at ht; cases ht
  | some xs =>
    rw [hc] at ht
    simp only at ht
    injection ht with ht
    subst ht
    obtain ⟨hpre, hr⟩ := hr
    cases he : expandRO rs (F xs) next with
    | none => rw [he] at hr; exact hr.elim
    | some q =>
      obtain ⟨ps, u, n'⟩ := q
      rw [he] at hr
      simp only at hr
      cases hm : mkRes ps with
      | none => rw [hm] at hr; exact hr.elim
      | some v =>
        rw [hm] at hr
        have hargs := collectA_sound hG hc
        have hRp : ∀ b, Rplus R ρ gh b → b < w.heap.size := by
          rintro b (h | ⟨id, g, h1, h2⟩)
          · exact hG.rlt b h
          · exact (hG.olt id g b h1 h2).1
        cases hr
        unfold CallOK
        refine (h (Rplus R ρ gh) w xs (args.map (Tv.den ρ)) hRp hargs hpre).mono ?_
        rintro e w' ⟨vs, bs, he', hres, hnd, hbelow⟩
        have hold : ∀ b, b < w.heap.size → w'.heap[b]? = w.heap[b]? := hbelow.block
        have hG' : RepG R ρ gh w' := ⟨fun id g hg => Gfact.mono (p := fun _ => True) (fun b hb => ⟨hb, hold b (hG.rlt b hb)⟩) (fun _ _ => rfl) trivial (fun _ _ => trivial) (fun b hb => hold b (hG.olt id g b hg hb).1) (hG.facts id g hg),
            fun b hb => Nat.lt_of_lt_of_le (hG.rlt b hb) hbelow.size, fun id g b hg hb => ⟨Nat.lt_of_lt_of_le (hG.olt id g b hg hb).1 hbelow.size, (hG.olt id g b hg hb).2⟩, hG.sep⟩
        have hinv : InvO R ρ gh w w' next n' ρ [] next := ⟨hG', ⟨hbelow.size, hbelow.os, hbelow.tape, hbelow.output, fun b hb _ => hold b hb, fun _ _ => rfl, fun _ h => h, fun _ h => .inl h, fun _ h => .inl h⟩, hbd, Nat.le_refl _⟩
        have hnew : ∀ (t : Ty) (x : TD t) (vals : List Value) (bs : List Nat), OwnC w.heap.size w' t x vals bs → ∀ b ∈ bs, w.heap.size ≤ b := by
          intro t
          induction t with
          | slice a _ =>
            rintro x vals bs ⟨A, cap, _, _, ho, rfl⟩ b hb
            rcases ho with ⟨e1, _, _⟩ | ⟨b', o, cs, T, e1, e2, _⟩
            · subst e1; cases hb
            · subst e1; simp [blkOf] at hb; subst hb; exact e2
          | cat a b ia ib =>
            rintro x vals bs ⟨c1, c2, b1, b2, _, rfl, h1, h2⟩ k hk
            rcases List.mem_append.1 hk with hk | hk
            · exact ia _ _ _ h1 k hk
            · exact ib _ _ _ h2 k hk
          | ptr _ _ => intro x vals bs h; exact h.elim
          | optr _ _ => intro x vals bs h; exact h.elim
          | clo _ _ _ => intro x vals bs h; exact h.elim
          | _ => rintro x vals bs ⟨_, rfl⟩ b hb; cases hb
        have hnewA : ∀ (ts : List Ty) (x : TDs ts) (vals : List Value) (bs : List Nat), ArgsO w.heap.size w' ts x vals bs → ∀ b ∈ bs, w.heap.size ≤ b := by
          intro ts
          induction ts with
          | nil => rintro x vals bs ⟨_, rfl⟩ b hb; cases hb
          | cons t ts ih =>
            rintro x vals bs ⟨cs, r, b1, b2, _, rfl, h1, h2⟩ k hk
            rcases List.mem_append.1 hk with hk | hk
            · exact hnew _ _ _ _ h1 k hk
            · exact ih _ _ _ h2 k hk
        obtain ⟨ρ', s⟩ := expandRO_sound (fun k hk => hG.rlt k hk) rs (F xs) hinv (Nat.le_refl _) he hres hnd (fun b hb => by
          rintro ⟨id, g, h1, h2⟩
          have := (hG.olt id g b h1 h2).1
          have := hnewA _ _ _ _ hres b hb
          omega)
        refine ⟨R, ρ', by rw [he', mkRes_den hm, s.vals], ?_⟩
        have hi := s.inv
        rw [List.append_nil] at hi
        exact ⟨hi.ext, hi.rep⟩

/-! ### from a tree -/
def collectO (gh : Gh) : (t : Ty) → List SV → Option (TD t × List Nat)
  | .slice a, cs =>
    match a.flat, cs with
    | true, [.nils] => some (([] : List (TD a)), [])
    | true, [.row id] => match look gh id with | some (.own t xs) => (castL t a xs).map fun ys => (ys, [id]) | _ => none
    | true, [.sub id off len cap] =>
      match look gh id with
      | some (.blk cs) => bif Nat.beq off 0 && Nat.beq len cap && Nat.beq cs.length (len * a.size) then (collectN (collect [] a) a.size len cs).map fun ys => (ys, [id]) else none
      | _ => none
    | _, _ => none
  | .cat a b, cs =>
    match collectO gh a (cs.take a.size) with
    | none => none
    | some (x, i1) => match collectO gh b (cs.drop a.size) with | none => none | some (y, i2) => some ((x, y), i1 ++ i2)
  | .int k, cs => (collect [] (.int k) cs).map fun x => (x, [])
  | .bool, cs => (collect [] .bool cs).map fun x => (x, [])
  | .str, cs => (collect [] .str cs).map fun x => (x, [])
  | .unit, cs => (collect [] .unit cs).map fun x => (x, [])
  | .rep n a, cs => match a.flat with | true => (collect [] (.rep n a) cs).map fun x => (x, []) | false => none
  | .fnl _, _ | .ptr _, _ | .optr _, _ | .clo _ _, _ => none

def collectAO (gh : Gh) : (ts : List Ty) → List Tv → Option (TDs ts × List Nat)
  | [], vs => match vs with | [] => some ((), []) | _ => none
  | t :: ts, vs =>
    match vs with
    | v :: r =>
      match tvC t v with
      | none => none
      | some cs =>
        match collectO gh t cs with
        | none => none
        | some (x, i1) => match collectAO gh ts r with | none => none | some (y, i2) => some ((x, y), i1 ++ i2)
    | [] => none

def nodupB : List Nat → Bool
  | [] => true
  | i :: r => !memN i r && nodupB r

def collectND (gh : Gh) (ts : List Ty) (vs : List Tv) : Option (TDs ts) :=
  match collectAO gh ts vs with
  | none => none
  | some (x, ids) => match nodupB ids with | true => some x | false => none

section
variable {R : Nat → Prop} {w : World} {ρ : Env} {gh : Gh}

def blksOf (ρ : Env) (ids : List Nat) : List Nat := ids.flatMap fun i => blkOf ((ρ i).addr)
def RowsOwn (gh : Gh) (ids : List Nat) : Prop := ∀ i ∈ ids, ∃ g, look gh i = some g ∧ g.isOwn = true

theorem collectO_sound {lo : Nat} (hG : RepG R ρ gh w) (hlo : ∀ b, OwnB ρ gh b → lo ≤ b) : ∀ (t : Ty) (cs : List SV) (x : TD t) (ids : List Nat), collectO gh t cs = some (x, ids) → OwnC lo w t x (dens ρ cs) (blksOf ρ ids) ∧ RowsOwn gh ids := by
  have hE : RepG (fun _ => False) ρ [] w := ⟨fun id g h => by simp [look] at h, fun b h => h.elim, fun id g b h => by simp [look] at h, fun id id' g g' b h => by simp [look] at h⟩
  have fl : ∀ (t : Ty) (cs : List SV) (x : TD t) (ids : List Nat), t.flat = true → (collect [] t cs).map (fun x => (x, ([] : List Nat))) = some (x, ids) → (ReadsC (fun _ => False) w t x (dens ρ cs) ∧ blksOf ρ ids = []) ∧ RowsOwn gh ids := by
    intro t cs x ids hf h
    cases hc : collect [] t cs with
    | none => rw [hc] at h; cases h
    | some y =>
      rw [hc] at h
      simp only [Option.map] at h
      injection h with h; injection h with h1 h2
      subst h1; subst h2
      exact ⟨⟨ReadsC.flat t _ _ hf (collect_sound hE t cs y hc), rfl⟩, fun i hi => by cases hi⟩
  intro t
  induction t with
  | slice a _ =>
    intro cs x ids h
    simp only [collectO] at h
    split at h
    · rename_i hf
      injection h with h; injection h with h1 h2
      subst h1; subst h2
      exact ⟨⟨none, 0, rfl, Nat.le_refl _, .inl ⟨rfl, rfl, rfl⟩, rfl⟩, fun i hi => by cases hi⟩
    · rename_i id hf
      split at h
      · rename_i t xs hl
        cases hc : castL t a xs with
        | none => rw [hc] at h; cases h
        | some ys =>
          rw [hc] at h
          simp only [Option.map] at h
          injection h with h; injection h with h1 h2
          subst h1; subst h2
          obtain ⟨e, rfl⟩ := castL_sound hc
          subst e
          have ho : OwnRow R w ρ id t xs := hG.facts id _ hl
          obtain ⟨q1, q2, q3⟩ := ho
          refine ⟨⟨(ρ id).addr, (ρ id).cap, by simp [dens, SV.den, q1], q2, ?_, by simp [blksOf]⟩, fun i hi => by rw [List.mem_singleton] at hi; subst hi; exact ⟨_, hl, rfl⟩⟩
          rcases q3 with q3 | ⟨b, o, cc, T, q4, q5, q6, q7⟩
          · exact .inl q3
          · refine .inr ⟨b, o, cc, T, q4, hlo b ⟨id, _, hl, by simp [Gb.ownB, q4]⟩, q5, q6, fun i x hx => ?_⟩
            obtain ⟨c, c1, c2, c3⟩ := q7 i x hx
            exact ⟨c, c1, c2, ReadsC.flat t x c hf c3⟩
      · cases h
    · rename_i id off len cap hf
      split at h
      · rename_i cs hl
        cases hb : Nat.beq off 0 && Nat.beq len cap && Nat.beq cs.length (len * a.size) with
        | false => rw [hb] at h; cases h
        | true =>
          rw [hb] at h
          simp only [cond_true] at h
          simp only [Bool.and_eq_true] at hb
          have e1 := beq_iff.1 hb.1.1
          have e2 := beq_iff.1 hb.1.2
          have e3 := beq_iff.1 hb.2
          subst e1; subst e2
          cases hc : collectN (collect [] a) a.size len cs with
          | none => rw [hc] at h; cases h
          | some ys =>
            rw [hc] at h
            simp only [Option.map] at h
            injection h with h; injection h with h1 h2
            subst h1; subst h2
            obtain ⟨b, T, ha, hh⟩ := hG.facts id _ hl
            obtain ⟨q1, _, q3⟩ := collectN_sound (ρ := ρ) (fun cs x => collect_sound hE a cs x) len cs ys hc e3
            refine ⟨⟨some ⟨b, 0, none⟩, len, ?_, ?_, .inr ⟨b, 0, _, T, rfl, hlo b ⟨id, _, hl, by simp [Gb.ownB, ha]⟩, hh, by simp [e3], fun i x hx => ?_⟩, by simp [blksOf, ha]⟩, fun i hi => by rw [List.mem_singleton] at hi; subst hi; exact ⟨_, hl, rfl⟩⟩
            · simp [dens, SV.den, Env.at, ha, q1]
            · rw [q1]; exact Nat.le_refl _
            · have hil := (List.getElem?_eq_some_iff.1 hx).1
              rw [q1] at hil
              have hm : i * a.size + a.size ≤ len * a.size := by rw [← Nat.succ_mul]; exact Nat.mul_le_mul_right _ hil
              refine ⟨_, by simp; omega, fun j hj => ?_, ReadsC.flat a x _ hf (q3 i x hx)⟩
              simp only [dens, List.getElem?_toArray, List.map_take, List.map_drop]
              rw [List.getElem?_take, if_pos hj, List.getElem?_drop]
              congr 1; omega
      · cases h
    · cases h
  | cat a b ia ib =>
    intro cs x ids h
    simp only [collectO] at h
    split at h
    · cases h
    · rename_i x1 i1 h1
      split at h
      · cases h
      · rename_i x2 i2 h2
        injection h with h; injection h with e1 e2
        subst e1; subst e2
        obtain ⟨a1, a2⟩ := ia _ _ _ h1
        obtain ⟨b1, b2⟩ := ib _ _ _ h2
        refine ⟨⟨dens ρ (cs.take a.size), dens ρ (cs.drop a.size), blksOf ρ i1, blksOf ρ i2, ?_, by simp [blksOf], a1, b1⟩, fun i hi => ?_⟩
        · rw [← dens_append, List.take_append_drop]
        · rcases List.mem_append.1 hi with hi | hi
          · exact a2 i hi
          · exact b2 i hi
  | rep n a _ =>
    intro cs x ids h
    simp only [collectO] at h
    split at h
    · rename_i hf; exact fl _ _ _ _ (by simpa [Ty.flat] using hf) h
    · cases h
  | int k => intro cs x ids h; simp only [collectO] at h; exact fl _ _ _ _ rfl h
  | bool => intro cs x ids h; simp only [collectO] at h; exact fl _ _ _ _ rfl h
  | str => intro cs x ids h; simp only [collectO] at h; exact fl _ _ _ _ rfl h
  | unit => intro cs x ids h; simp only [collectO] at h; exact fl _ _ _ _ rfl h
  | fnl _ => intro cs x ids h; simp [collectO] at h
  | ptr _ _ => intro cs x ids h; simp [collectO] at h
  | optr _ _ => intro cs x ids h; simp [collectO] at h
  | clo _ _ _ => intro cs x ids h; simp [collectO] at h

theorem collectAO_sound {lo : Nat} (hG : RepG R ρ gh w) (hlo : ∀ b, OwnB ρ gh b → lo ≤ b) : ∀ {ts : List Ty} {vs : List Tv} {xs : TDs ts} {ids : List Nat}, collectAO gh ts vs = some (xs, ids) →
    ArgsO lo w ts xs (vs.map (Tv.den ρ)) (blksOf ρ ids) ∧ RowsOwn gh ids
  | [], vs, xs, ids, h => by
    cases vs with
    | nil => simp only [collectAO] at h; injection h with h; injection h with _ h; subst h; exact ⟨⟨rfl, rfl⟩, fun i hi => by cases hi⟩
    | cons v r => simp [collectAO] at h
  | t :: ts, vs, xs, ids, h => by
    cases vs with
    | nil => simp [collectAO] at h
    | cons v r =>
      simp only [collectAO] at h
      split at h
      · cases h
      · rename_i cs hc
        split at h
        · cases h
        · rename_i x i1 hx
          split at h
          · cases h
          · rename_i y i2 hy
            injection h with h; injection h with e1 e2
            subst e1; subst e2
            obtain ⟨a1, a2⟩ := collectO_sound hG hlo _ _ _ _ hx
            obtain ⟨b1, b2⟩ := collectAO_sound hG hlo hy
            refine ⟨⟨dens ρ cs, r.map (Tv.den ρ), blksOf ρ i1, blksOf ρ i2, ?_, by simp [blksOf], a1, b1⟩, fun i hi => ?_⟩
            · simp only [List.map_cons]
              congr 1
              unfold tvC at hc
              unfold valT
              split at hc
              · rename_i ha; injection hc with hc; subst hc; rw [ha]; rfl
              · rename_i ha; injection hc with hc; subst hc; rw [ha]; rfl
              · cases hc
            · rcases List.mem_append.1 hi with hi | hi
              · exact a2 i hi
              · exact b2 i hi

theorem nodupB_sound : ∀ {l : List Nat}, nodupB l = true → l.Nodup
  | [], _ => List.nodup_nil
  | i :: r, h => by
    simp only [nodupB, Bool.and_eq_true, Bool.not_eq_true'] at h
    refine List.nodup_cons.2 ⟨fun hm => ?_, nodupB_sound h.2⟩
    rw [memN_iff.2 hm] at h; cases h.1

theorem blks_nodup (hG : RepG R ρ gh w) : ∀ {ids : List Nat}, RowsOwn gh ids → ids.Nodup → (blksOf ρ ids).Nodup
  | [], _, _ => List.nodup_nil
  | i :: r, h, hn => by
    have hn' := List.nodup_cons.1 hn
    have ih := blks_nodup hG (fun j hj => h j (List.mem_cons_of_mem _ hj)) hn'.2
    show (blkOf ((ρ i).addr) ++ blksOf ρ r).Nodup
    cases hA : (ρ i).addr with
    | none => simpa [blkOf] using ih
    | some a =>
      simp only [blkOf, List.singleton_append]
      refine List.nodup_cons.2 ⟨fun hm => ?_, ih⟩
      obtain ⟨j, hj, hb⟩ := List.mem_flatMap.1 hm
      obtain ⟨g, hl, hg⟩ := h i List.mem_cons_self
      obtain ⟨g', hl', hg'⟩ := h j (List.mem_cons_of_mem _ hj)
      have hob : g'.ownB ρ j = some a.block := by
        cases g' <;> simp only [Gb.isOwn] at hg' <;> first | (cases hg'; done) | skip
        all_goals
          simp only [Gb.ownB]
          cases hA' : (ρ j).addr with
          | none => rw [hA'] at hb; cases hb
          | some a' => rw [hA'] at hb; simp [blkOf] at hb; simp [hb]
      have hoa : g.ownB ρ i = some a.block := by
        cases g <;> simp only [Gb.isOwn] at hg <;> first | (cases hg; done) | simp [Gb.ownB, hA]
      have := hG.sep i j _ _ a.block hl hl' hoa hob
      subst this
      exact hn'.1 hj
end

def ownTree (E : Ex) (loops : Nat → Option (St → Tree Out)) (n : Nat) (fn : Func) (body : Code) (ts rs : List Ty) (xs : TDs ts) : Tree (TDs rs) :=
  match expandR ts xs 0 with
  | none => .fail "arguments"
  | some (ps, gh, next) =>
    match argTvs ps with
    | none => .fail "arguments"
    | some args => (execFun E loops n fn body args gh next).bind fun d => ofO "results no such data" ((partsOf d.val rs.length).bind fun vs => collectND (applyUpd d.upd gh) rs vs)

theorem own_of_tree {E : Ex} (hE : E.Sound) {loops : Nat → Option (St → Tree Out)} {n : Nat} {f : FuncId} {fn : Func} {body : Code} (hf : E.P.funcs[f]? = some fn) (hbody : fn.body = some body)
    (hl : LoopsOK E.P fn.ntmps loops body 0) {ts rs : List Ty} {pre : TDs ts → Prop} {F : TDs ts → TDs rs} (h : ∀ xs, pre xs → (ownTree E loops n fn body ts rs xs).all fun y => y = F xs) : PureOwnOK E.P f ts rs pre F := by
  intro R w xs args hR hargs hpre
  have hall := h xs hpre
  unfold ownTree at hall
  cases he : expandR ts xs 0 with
  | none => rw [he] at hall; exact hall.elim
  | some q =>
    obtain ⟨ps, gh, next⟩ := q
    rw [he] at hall
    simp only at hall
    cases hv : argTvs ps with
    | none => rw [hv] at hall; exact hall.elim
    | some vs =>
      rw [hv] at hall
      simp only at hall
      obtain ⟨ρ, x1, x2, x3⟩ := expandR_sound (ρ := fun _ => ⟨none, 0, 0⟩) he hargs
      obtain ⟨a1, a2⟩ := argTvs_den (ρ := ρ) hv
      have hG : RepG R ρ gh w := by
        refine ⟨fun id g hg => (x1.gh id g hg).2.2.2, hR, fun id g b hg hb => ?_, fun id id' g g' b hg hg' hb hb' => ?_⟩
        · have := (x1.gh id g hg).2.2.1
          cases g <;> simp [Gb.isOwn] at this <;> simp [Gb.ownB] at hb
        · have := (x1.gh id g hg).2.2.1
          cases g <;> simp [Gb.isOwn] at this <;> simp [Gb.ownB] at hb
      obtain ⟨y, hreach, hy⟩ := Tree.reach_of_all hall
      obtain ⟨d, h1, h2⟩ := Tree.reach_bind.1 hreach
      have h2 := ofO_reach h2
      have hcall := (execFun_sound hE hf hbody hl h1 hG (fun v hv i hi => by obtain ⟨p, hp, hpi⟩ := a2 v hv i hi; exact (x3 p hp i hpi).2) (fun id g hg => ⟨(x1.gh id g hg).1.2, fun i hi => ((x1.gh id g hg).2.1 i hi).2⟩)).1
      unfold CallOK at hcall
      rw [a1, ← x2] at hcall
      refine hcall.mono ?_
      rintro e w' ⟨R', ρ', he', hE', hG'⟩
      cases hp : partsOf d.val rs.length with
      | none => rw [hp] at h2; cases h2
      | some us =>
        rw [hp] at h2
        simp only [Option.bind] at h2
        unfold collectND at h2
        cases hca : collectAO (applyUpd d.upd gh) rs us with
        | none => rw [hca] at h2; cases h2
        | some q =>
          obtain ⟨y', ids⟩ := q
          rw [hca] at h2
          simp only at h2
          cases hnd : nodupB ids with
          | false => rw [hnd] at h2; cases h2
          | true =>
            rw [hnd] at h2
            simp only at h2
            injection h2 with h2
            subst h2
            have hlen : ∀ (rs : List Ty) (us : List Tv) (y : TDs rs) ids, collectAO (applyUpd d.upd gh) rs us = some (y, ids) → us.length = rs.length := by
              intro rs
              induction rs with
              | nil => intro us y ids h; cases us with
                | nil => rfl
                | cons v r => simp [collectAO] at h
              | cons t ts ih =>
                intro us y ids h
                cases us with
                | nil => simp [collectAO] at h
                | cons v r =>
                  simp only [collectAO] at h
                  split at h
                  · cases h
                  · split at h
                    · cases h
                    · split at h
                      · cases h
                      · rename_i hy
                        simp [ih _ _ _ hy]
            have hl' := hlen rs us y' ids hca
            have hus : d.val.den ρ' = retV (us.map (Tv.den ρ')) := by
              unfold partsOf at hp
              split at hp
              · rename_i vs' heqv
                cases hb : Nat.beq rs.length 1 with
                | true => rw [hb] at hp; cases hp
                | false =>
                  rw [hb] at hp
                  simp only [cond_false] at hp
                  obtain ⟨i1, _⟩ := argTvs_den (ρ := ρ') hp
                  rw [i1, heqv]
                  simp only [Tv.den]
                  have hn1 : vs'.length ≠ 1 := by
                    have e := congrArg List.length i1
                    simp only [List.length_map] at e
                    have := beq_false_iff.1 hb
                    omega
                  match vs', hn1 with
                  | [], _ => rfl
                  | [p], h => exact absurd rfl h
                  | p :: q :: r, _ => rfl
              · cases hb : Nat.beq rs.length 1 with
                | false => rw [hb] at hp; cases hp
                | true =>
                  rw [hb] at hp
                  simp only [cond_true] at hp
                  injection hp with hp
                  subst hp
                  rfl
            have hno : ∀ b, ¬ OwnB ρ gh b := by
              rintro b ⟨id, g, hg, ho⟩
              have := (x1.gh id g hg).2.2.1
              cases g <;> simp [Gb.isOwn] at this <;> simp [Gb.ownB] at ho
            obtain ⟨c1, c2⟩ := collectAO_sound (lo := w.heap.size) hG' (fun b hb => (hE'.newO b hb).elim (fun h => (hno b h).elim) fun h => h) hca
            refine ⟨us.map (Tv.den ρ'), blksOf ρ' ids, by rw [he', hus], by rw [← hy]; exact c1, blks_nodup hG' c2 (nodupB_sound hnd), ⟨hE'.os, hE'.tape, hE'.output, hE'.size, fun b hb => hE'.keep b hb (hno b)⟩⟩

def fnO (E : Ex) (lps : List (Nat × (St → Tree Out))) (n : Nat) (fn : Func) (ts rs : List Ty) (xs : TDs ts) : Tree (TDs rs) :=
  ownTree E (look lps) n fn (bodyOf fn) ts rs xs

theorem fn_own {E : Ex} (hE : E.Sound) {f : FuncId} {fn : Func} (hf : E.P.funcs[f]? = some fn) (hbody : fn.body = some (bodyOf fn)) {lps : List (Nat × (St → Tree Out))} (hl : LpsOK E.P fn lps) {n : Nat} {ts rs : List Ty}
    {pre : TDs ts → Prop} {F : TDs ts → TDs rs} (h : ∀ xs, pre xs → (fnO E lps n fn ts rs xs).all fun y => y = F xs) : PureOwnOK E.P f ts rs pre F :=
  own_of_tree hE hf hbody hl.loops h

theorem FreshOK.own {P : Program} {f : FuncId} {ts : List Ty} {pre : TDs ts → Prop} {t : Ty} {F : TDs ts → List (TD t)} (h : FreshOK P f ts pre t F) : PureOwnOK P f ts [.slice t] pre (fun x => (F x, ())) := by
  intro R w xs args h1 h2 h3
  refine (h R w xs args h1 h2 h3).mono ?_
  rintro e w' ⟨A, cap, he, hc, hb, ho⟩
  refine ⟨[.slice A (F xs).length cap], blkOf A, he, ⟨[_], [], blkOf A, [], rfl, by simp, ⟨A, cap, rfl, hc, ho, rfl⟩, rfl, rfl⟩, ?_, hb⟩
  cases A <;> simp [blkOf]

/-! ### reading a state -/
def intS (st : St) (s : Nat) : Option Int := match look st.slots s with | some (.one (.cint _ i)) => some i | some (.one (.int _ i)) => some i | _ => none
def boolS (st : St) (s : Nat) : Option Bool := match look st.slots s with | some (.one (.cbool i)) => some i | some (.one (.bool i)) => some i | _ => none
def strS (st : St) (s : Nat) : Option ByteArray := match look st.slots s with | some (.one (.str i)) => some i | _ => none
def svI : Option SV → Option Int
  | some (.cint _ i) => some i
  | some (.int _ i) => some i
  | _ => none
def svB : Option SV → Option Bool
  | some (.cbool i) => some i
  | some (.bool i) => some i
  | _ => none
def svStr : Option SV → Option ByteArray
  | some (.str i) => some i
  | _ => none
def intG (st : St) (id k : Nat) : Option Int := svI ((cellsG st id).bind (·[k]?))
def boolG (st : St) (id k : Nat) : Option Bool := svB ((cellsG st id).bind (·[k]?))
def strG (st : St) (id k : Nat) : Option ByteArray := svStr ((cellsG st id).bind (·[k]?))
def rowG (st : St) (id : Nat) (t : Ty) : Option (List (TD t)) := match look st.gh id with | some (.ro t' xs) => castL t' t xs | some (.own t' xs) => castL t' t xs | _ => none
def rowV (st : St) (t : Ty) : Option SV → Option (List (TD t))
  | some (.row id) => rowG st id t
  | some .nils => some []
  | _ => none
def rowS (st : St) (s : Nat) (t : Ty) : Option (List (TD t)) := match look st.slots s with | some (.one v) => rowV st t (some v) | _ => none
def rowC (st : St) (id k : Nat) (t : Ty) : Option (List (TD t)) := rowV st t ((cellsG st id).bind (·[k]?))
def aggS (st : St) (s : Nat) : Option (List SV) := match look st.slots s with | some (.agg cs) => some cs | _ => none
def intA (st : St) (s k : Nat) : Option Int := svI ((aggS st s).bind (·[k]?))
def boolA (st : St) (s k : Nat) : Option Bool := svB ((aggS st s).bind (·[k]?))
def strA (st : St) (s k : Nat) : Option ByteArray := svStr ((aggS st s).bind (·[k]?))
def datG (st : St) (id off : Nat) (t : Ty) : Option (TD t) := match cellsG st id with | some cs => collect st.gh t ((cs.drop off).take t.size) | none => none
def datA (st : St) (s : Nat) (t : Ty) : Option (TD t) := match aggS st s with | some cs => collect st.gh t cs | none => none
attribute [irreducible] fnO
end Sx
