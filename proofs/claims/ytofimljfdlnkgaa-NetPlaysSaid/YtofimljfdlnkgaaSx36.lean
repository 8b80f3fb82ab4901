/- A symbolic executor for the model's code: objects of one's own that a call changes: their data, told and read. -/
import Derived.Test.YtofimljfdlnkgaaSx35
namespace Sx
open Go Go.RowKit

/-- data of which some is only read and some are rows of one's own -/
inductive OTy where
  | dat (t : Ty)
  | row (t : Ty)
  | cat (a b : OTy)

abbrev OD : OTy → Type
  | .dat t => TD t
  | .row t => List (TD t)
  | .cat a b => OD a × OD b

def OTy.flat : OTy → Bool
  | .dat t => t.flat
  | .row t => t.flat
  | .cat a b => a.flat && b.flat

def RowM (R : Nat → Prop) (w : World) (t : Ty) (xs : List (TD t)) (A : Option Addr) (cap : Nat) : Prop :=
  (A = none ∧ xs = [] ∧ cap = 0) ∨ ∃ b o cs T, A = some ⟨b, o, none⟩ ∧ w.heap[b]? = some (.cells cs T (0, 0)) ∧ o + cap * t.size ≤ cs.size ∧
    ∀ i x, xs[i]? = some x → ∃ c : List Value, c.length = t.size ∧ (∀ j, j < t.size → cs[o + i * t.size + j]? = c[j]?) ∧ ReadsC R w t x c

def OwnM (R : Nat → Prop) (w : World) : (o : OTy) → OD o → List Value → List Nat → Prop
  | .dat t, x, cs, bs => ReadsC R w t x cs ∧ bs = []
  | .row t, xs, cs, bs => ∃ A cap, cs = [.slice A (List.length (α := TD t) xs) cap] ∧ List.length (α := TD t) xs ≤ cap ∧ RowM R w t xs A cap ∧ bs = blkOf A
  | .cat a b, x, cs, bs => ∃ c1 c2 b1 b2, cs = c1 ++ c2 ∧ bs = b1 ++ b2 ∧ OwnM R w a x.1 c1 b1 ∧ OwnM R w b x.2 c2 b2

def expandM : (o : OTy) → OD o → Nat → Option (List SV × Gh × Nat)
  | .dat t, x, n => expand t x n
  | .row t, xs, n => some ([.row n], [(n, .own t xs)], n + 1)
  | .cat a b, x, n =>
    match expandM a x.1 n with
    | none => none
    | some (c1, g1, n1) => match expandM b x.2 n1 with | none => none | some (c2, g2, n2) => some (c1 ++ c2, g1 ++ g2, n2)

structure ExpM (R : Nat → Prop) (w : World) (ρ : Env) (n : Nat) (vals : List Value) (cs : List SV) (g : Gh) (n' : Nat) (ρ' : Env) (bs : List Nat) : Prop where
  le : n ≤ n'
  same : SameOn (fun i => i < n ∨ n' ≤ i) ρ ρ'
  vals : vals = dens ρ' cs
  ids : ∀ i ∈ idsOf cs, n ≤ i ∧ i < n'
  gh : ∀ id b, look g id = some b → (n ≤ id ∧ id < n') ∧ (∀ i ∈ b.ids, n ≤ i ∧ i < n') ∧ Gfact R w ρ' id b ∧ ∀ k, b.ownB ρ' id = some k → k ∈ bs
  sep : ∀ id id' b b' k, look g id = some b → look g id' = some b' → b.ownB ρ' id = some k → b'.ownB ρ' id' = some k → id = id'

section
variable {R : Nat → Prop} {w : World}

theorem Exp.m {ρ ρ' : Env} {n n' : Nat} {vals : List Value} {cs : List SV} {g : Gh} (h : Exp R w ρ n vals cs g n' ρ') : ExpM R w ρ n vals cs g n' ρ' [] := by
  have hno : ∀ id b k, look g id = some b → b.ownB ρ' id = some k → False := fun id b k hb hk => by
    have := (h.gh id b hb).2.2.1
    cases b <;> simp [Gb.isOwn] at this <;> simp [Gb.ownB] at hk
  exact ⟨h.le, h.same, h.vals, h.ids, fun id b hb => ⟨(h.gh id b hb).1, (h.gh id b hb).2.1, (h.gh id b hb).2.2.2, fun k hk => (hno id b k hb hk).elim⟩, fun id id' b b' k hb _ hk _ => (hno id b k hb hk).elim⟩

theorem ExpM.append {ρ ρ1 ρ2 : Env} {n n1 n2 : Nat} {v1 v2 : List Value} {c1 c2 : List SV} {g1 g2 : Gh} {b1 b2 : List Nat}
    (h : ExpM R w ρ n v1 c1 g1 n1 ρ1 b1) (k : ExpM R w ρ1 n1 v2 c2 g2 n2 ρ2 b2) (hnd : (b1 ++ b2).Nodup) : ExpM R w ρ n (v1 ++ v2) (c1 ++ c2) (g1 ++ g2) n2 ρ2 (b1 ++ b2) := by
  have hl := h.le
  have kl := k.le
  have hcase : ∀ id b, look (g1 ++ g2) id = some b → (look g1 id = some b ∧ b.ownB ρ2 id = b.ownB ρ1 id) ∨ look g2 id = some b := by
    intro id b hb
    rw [look_append] at hb
    cases hg : look g1 id with
    | some b' =>
      rw [hg] at hb; simp at hb; subst hb
      exact .inl ⟨rfl, ownB_same (k.same id (.inl (h.gh id b' hg).1.2)) b'⟩
    | none => rw [hg] at hb; exact .inr hb
  have hdis : ∀ x, x ∈ b1 → x ∈ b2 → False := fun x h1 h2 => (List.nodup_append.1 hnd).2.2 x h1 x h2 rfl
  refine ⟨by omega, fun id hid => ?_, ?_, fun i hi => ?_, fun id b hb => ?_, fun id id' b b' x hb hb' hx hx' => ?_⟩
  · have a := h.same id (hid.imp (fun x => x) fun x => by omega)
    have b := k.same id (hid.imp (fun x => by omega) fun x => x)
    exact b.trans a
  · rw [dens_append, h.vals, k.vals, dens_same k.same fun i hi => .inl (h.ids i hi).2]
  · rw [idsOf_append, List.mem_append] at hi
    rcases hi with hi | hi
    · have := h.ids i hi; omega
    · have := k.ids i hi; omega
  · rcases hcase id b hb with ⟨hg, he⟩ | hg
    · obtain ⟨a1, a2, a3, a4⟩ := h.gh id b hg
      refine ⟨⟨a1.1, by omega⟩, fun i hi => ⟨(a2 i hi).1, by have := (a2 i hi).2; omega⟩, ?_, fun x hx => List.mem_append.2 (.inl (a4 x (he ▸ hx)))⟩
      exact Gfact.mono (fun _ hb => ⟨hb, rfl⟩) k.same (.inl a1.2) (fun i hi => .inl (a2 i hi).2) (fun _ _ => rfl) a3
    · obtain ⟨a1, a2, a3, a4⟩ := k.gh id b hg
      exact ⟨⟨by omega, a1.2⟩, fun i hi => ⟨by have := (a2 i hi).1; omega, (a2 i hi).2⟩, a3, fun x hx => List.mem_append.2 (.inr (a4 x hx))⟩
  · rcases hcase id b hb with ⟨hg, he⟩ | hg <;> rcases hcase id' b' hb' with ⟨hg', he'⟩ | hg'
    · exact h.sep id id' b b' x hg hg' (he ▸ hx) (he' ▸ hx')
    · exact (hdis x ((h.gh id b hg).2.2.2 x (he ▸ hx)) ((k.gh id' b' hg').2.2.2 x hx')).elim
    · exact (hdis x ((h.gh id' b' hg').2.2.2 x (he' ▸ hx')) ((k.gh id b hg).2.2.2 x hx)).elim
    · exact k.sep id id' b b' x hg hg' hx hx'

theorem expandM_sound : ∀ (o : OTy) (x : OD o) (n : Nat) (cs : List SV) (g : Gh) (n' : Nat) (ρ : Env) (vals : List Value) (bs : List Nat),
    expandM o x n = some (cs, g, n') → OwnM R w o x vals bs → bs.Nodup → ∃ ρ', ExpM R w ρ n vals cs g n' ρ' bs
  | .dat t, x, n, cs, g, n', ρ, vals, bs, h, ⟨hr, hb⟩, _ => by
    subst hb
    obtain ⟨ρ', hE⟩ := expand_sound t x n cs g n' ρ vals h hr
    exact ⟨ρ', hE.m⟩
  | .row t, xs, n, cs, g, n', ρ, vals, bs, h, ⟨A, cap, e, hl, hr, hb⟩, _ => by
    simp only [expandM] at h
    injection h with h; injection h with h1 h; injection h with h2 h3
    subst h1; subst h2; subst h3; subst e; subst hb
    have hlk : ∀ id b, look [(n, Gb.own t xs)] id = some b → id = n ∧ b = .own t xs := fun id b hb => by
      rw [look_cons] at hb
      by_cases e : n = id
      · rw [if_pos e] at hb; injection hb with hb; exact ⟨e.symm, hb.symm⟩
      · rw [if_neg e] at hb; cases hb
    refine ⟨ρ.set n ⟨A, List.length (α := TD t) xs, cap⟩, Nat.le_succ n, Env.set_same ρ n _, by simp [dens, SV.den, Env.set_at], fun i hi => by simp [idsOf, SV.ids] at hi; omega, fun id b hb => ?_, fun id id' b b' k hb hb' _ _ => ?_⟩
    · obtain ⟨rfl, rfl⟩ := hlk id b hb
      refine ⟨⟨Nat.le_refl _, Nat.lt_succ_self _⟩, by simp [Gb.ids], ⟨by rw [Env.set_at], by rw [Env.set_at]; exact hl, ?_⟩, fun k hk => ?_⟩
      · rw [Env.set_at]
        rcases hr with ⟨q1, q2, q3⟩ | ⟨b, o, cs, T, q1, q2, q3, q4⟩
        · exact .inl ⟨q1, q2, q3⟩
        · exact .inr ⟨b, o, cs, T, q1, q2, q3, q4⟩
      · simp only [Gb.ownB, Env.set_at] at hk
        unfold blkOf
        cases A with
        | none => cases hk
        | some a => simp at hk; simp [hk]
    · rw [(hlk id b hb).1, (hlk id' b' hb').1]
  | .cat a b, x, n, cs, g, n', ρ, vals, bs, h, ⟨c1, c2, b1, b2, e1, e2, h1, h2⟩, hnd => by
    subst e1; subst e2
    simp only [expandM] at h
    have n1 := (List.nodup_append.1 hnd).1
    have n2 := (List.nodup_append.1 hnd).2.1
    cases hf1 : expandM a x.1 n with
    | none => rw [hf1] at h; cases h
    | some r =>
      obtain ⟨k1, g1, m1⟩ := r
      rw [hf1] at h
      simp only at h
      cases hf2 : expandM b x.2 m1 with
      | none => rw [hf2] at h; cases h
      | some r =>
        obtain ⟨k2, g2, m2⟩ := r
        rw [hf2] at h
        simp only at h
        injection h with h; injection h with q1 h; injection h with q2 q3
        subst q1; subst q2; subst q3
        obtain ⟨ρ1, x1⟩ := expandM_sound a x.1 n k1 g1 m1 ρ c1 b1 hf1 h1 n1
        obtain ⟨ρ2, x2⟩ := expandM_sound b x.2 m1 k2 g2 m2 ρ1 c2 b2 hf2 h2 n2
        exact ⟨ρ2, x1.append x2 hnd⟩
end

/-! ### memory as data of one's own -/
def OTy.size : OTy → Nat
  | .dat t => t.size
  | .row _ => 1
  | .cat a b => a.size + b.size

/-- the rows that an object's cells name -/
def rowIds : OTy → List SV → List Nat
  | .dat _, _ => []
  | .row _, cs => match cs with | [.row id] => [id] | [.win id _ _ _] => [id] | [.sub id _ _ _] => [id] | _ => []
  | .cat a b, cs => rowIds a (cs.take a.size) ++ rowIds b (cs.drop a.size)

def collectM (gh : Gh) : (o : OTy) → List SV → Option (OD o)
  | .dat t, cs => collect (calm gh) t cs
  | .row t, cs =>
    match cs with
    | [.nils] => some ([] : List (TD t))
    | [.row id] => match look gh id with | some (.own t' xs) => castL t' t xs | _ => none
    | [.win id lo len sz] => match look gh id with | some (.own t' xs) => bif Nat.beq sz t'.size then castL t' t ((xs.drop lo).take len) else none | _ => none
    | [.sub id off len cap] =>
      match look gh id with
      | some (.blk c) => bif Nat.beq off 0 && Nat.beq len cap && Nat.beq c.length (len * t.size) then collectN (collect (calm gh) t) t.size len c else none
      | _ => none
    | _ => none
  | .cat a b, cs => match collectM gh a (cs.take a.size), collectM gh b (cs.drop a.size) with | some x, some y => some (x, y) | _, _ => none

section
variable {R : Nat → Prop} {ρ : Env} {gh : Gh} {w : World}

theorem blksOf_append (a b : List Nat) : blksOf ρ (a ++ b) = blksOf ρ a ++ blksOf ρ b := by simp [blksOf]

theorem collectM_sound (hG : RepG R ρ gh w) (ho : once gh = true) : ∀ (o : OTy) (cs : List SV) (x : OD o), collectM gh o cs = some x →
    OwnM R w o x (dens ρ cs) (blksOf ρ (rowIds o cs)) ∧ RowsOwn gh (rowIds o cs)
  | .dat t, cs, x, h => ⟨⟨calm_reads hG ho h, rfl⟩, fun i hi => by simp [rowIds] at hi⟩
  | .row t, cs, x, h => by
    simp only [collectM] at h
    split at h
    · injection h with h; subst h
      refine ⟨⟨none, 0, rfl, Nat.le_refl _, .inl ⟨rfl, rfl, rfl⟩, rfl⟩, fun i hi => by simp [rowIds] at hi⟩
    · rename_i id
      split at h
      · rename_i t' xs hg
        obtain ⟨e, rfl⟩ := castL_sound h
        subst e
        obtain ⟨f1, f2, f3⟩ := hG.facts _ _ hg
        refine ⟨⟨(ρ id).addr, (ρ id).cap, by simp [dens, SV.den, f1], f2, f3, by simp [rowIds, blksOf]⟩, fun i hi => ?_⟩
        simp [rowIds] at hi; subst hi
        exact ⟨_, hg, rfl⟩
      · cases h
    · rename_i id lo len sz
      split at h
      · rename_i t' xs hg
        cases hb : Nat.beq sz t'.size with
        | false => rw [hb] at h; cases h
        | true =>
          rw [hb] at h
          simp only [cond_true] at h
          have hb := beq_iff.1 hb
          obtain ⟨e, rfl⟩ := castL_sound h
          subst e
          subst hb
          obtain ⟨f1, f2, f3⟩ := hG.facts _ _ hg
          refine ⟨⟨(if (ρ id).cap ≤ lo then (ρ id).addr else ρ.at id (lo * t'.size)), (ρ id).cap - lo, by simp only [dens, List.map_cons, List.map_nil, SV.den, ← f1]; congr 2; simp, ?_, ?_, ?_⟩, fun i hi => ?_⟩
          · simp; omega
          · rcases f3 with ⟨e1, e2, e3⟩ | ⟨b, off, cur, T, ha, hh, hs, hx⟩
            · refine .inl ⟨by simp [Env.at, e1], by rw [e2]; simp, by omega⟩
            · refine .inr ⟨b, if (ρ id).cap ≤ lo then off else off + lo * t'.size, cur, T, ?_, hh, ?_, fun i x hi => ?_⟩
              · by_cases hl : (ρ id).cap ≤ lo
                · rw [if_pos hl, if_pos hl, ha]
                · rw [if_neg hl, if_neg hl]; simp [Env.at, ha]
              · by_cases hl : (ρ id).cap ≤ lo
                · rw [if_pos hl, Nat.sub_eq_zero_of_le hl]; omega
                · rw [if_neg hl, Nat.add_assoc, ← Nat.add_mul, Nat.add_sub_of_le (by omega)]; exact hs
              · rw [List.getElem?_take] at hi
                split at hi
                · rw [List.getElem?_drop] at hi
                  have hlt := (List.getElem?_eq_some_iff.1 hi).1
                  rw [if_neg (by omega)]
                  obtain ⟨c, c1, c2, c3⟩ := hx (lo + i) x hi
                  refine ⟨c, c1, fun j hj => ?_, c3⟩
                  rw [← c2 j hj, Nat.add_mul]
                  congr 1; omega
                · cases hi
          · simp only [rowIds, blksOf, List.flatMap_cons, List.flatMap_nil, List.append_nil]
            split
            · rfl
            · cases ha : (ρ id).addr with
              | none => simp [Env.at, ha, blkOf]
              | some A => simp [Env.at, ha, blkOf]
          · simp [rowIds] at hi; subst hi
            exact ⟨_, hg, rfl⟩
      · cases h
    · rename_i id off len cap
      split at h
      · rename_i c hg
        cases hb : Nat.beq off 0 && Nat.beq len cap && Nat.beq c.length (len * t.size) with
        | false => rw [hb] at h; cases h
        | true =>
          rw [hb] at h
          simp only [cond_true] at h
          simp only [Bool.and_eq_true] at hb
          have e1 := beq_iff.1 hb.1.1
          have e2 := beq_iff.1 hb.1.2
          have e3 := beq_iff.1 hb.2
          subst e1; subst e2
          obtain ⟨b, T, ha, hh⟩ := hG.facts _ _ hg
          obtain ⟨q1, _, q3⟩ := collectN_sound (ρ := ρ) (p := ReadsC R w t) (fun cs x h => calm_reads hG ho h) len c x h e3
          refine ⟨⟨some ⟨b, 0, none⟩, len, by simp [dens, SV.den, Env.at, ha, q1], by rw [q1]; exact Nat.le_refl _, .inr ⟨b, 0, _, T, rfl, hh, by simp [e3], fun i y hi => ?_⟩, by simp [rowIds, blksOf, ha, blkOf]⟩, fun i hi => ?_⟩
          · have hil := (List.getElem?_eq_some_iff.1 hi).1
            rw [q1] at hil
            have hm : i * t.size + t.size ≤ len * t.size := by rw [← Nat.succ_mul]; exact Nat.mul_le_mul_right _ hil
            refine ⟨_, by simp; omega, fun j hj => ?_, q3 i y hi⟩
            simp only [dens, List.getElem?_toArray, List.map_take, List.map_drop]
            rw [List.getElem?_take, if_pos hj, List.getElem?_drop]
            congr 1; omega
          · simp [rowIds] at hi; subst hi
            exact ⟨_, hg, rfl⟩
      · cases h
    · cases h
  | .cat a b, cs, x, h => by
    simp only [collectM] at h
    split at h
    · rename_i x1 x2 h1 h2
      injection h with h; subst h
      obtain ⟨a1, a2⟩ := collectM_sound hG ho a _ x1 h1
      obtain ⟨b1, b2⟩ := collectM_sound hG ho b _ x2 h2
      refine ⟨⟨dens ρ (cs.take a.size), dens ρ (cs.drop a.size), _, _, by rw [← dens_append, List.take_append_drop], by simp only [rowIds]; rw [blksOf_append], a1, b1⟩, fun i hi => ?_⟩
      simp only [rowIds, List.mem_append] at hi
      exact hi.elim (a2 i) (b2 i)
    · cases h
end

theorem OwnM.flat {R R' : Nat → Prop} {w w' : World} : ∀ (o : OTy) (x : OD o) (cs : List Value) (bs : List Nat), o.flat = true → OwnM R w o x cs bs → (∀ b ∈ bs, w'.heap[b]? = w.heap[b]?) → OwnM R' w' o x cs bs
  | .dat t, x, cs, bs, hf, ⟨h1, h2⟩, _ => ⟨ReadsC.flat t x cs hf h1, h2⟩
  | .row t, xs, cs, bs, hf, ⟨A, cap, e, hl, hr, hb⟩, hk => by
    refine ⟨A, cap, e, hl, ?_, hb⟩
    rcases hr with h | ⟨b, o, c, T, q1, q2, q3, q4⟩
    · exact .inl h
    · refine .inr ⟨b, o, c, T, q1, (hk b (by rw [hb, q1]; simp [blkOf])).trans q2, q3, fun i x hi => ?_⟩
      obtain ⟨k, k1, k2, k3⟩ := q4 i x hi
      exact ⟨k, k1, k2, ReadsC.flat t x k hf k3⟩
  | .cat a b, x, cs, bs, hf, ⟨c1, c2, b1, b2, e1, e2, h1, h2⟩, hk => by
    simp only [OTy.flat, Bool.and_eq_true] at hf
    subst e2
    exact ⟨c1, c2, b1, b2, e1, rfl, OwnM.flat a x.1 c1 b1 hf.1 h1 fun k hk' => hk k (List.mem_append.2 (.inl hk')), OwnM.flat b x.2 c2 b2 hf.2 h2 fun k hk' => hk k (List.mem_append.2 (.inr hk'))⟩
end Sx
