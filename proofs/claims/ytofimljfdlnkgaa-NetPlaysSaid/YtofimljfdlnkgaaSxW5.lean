/- A symbolic executor for the model's code: loads and stores where data lie; parts of rows, put by. -/
import Derived.Test.YtofimljfdlnkgaaSxW4
namespace Sx
open Go Go.RowKit

/-- whose variables lie at a place, as data: the block's number, what must hold, the datum there, the block with another one there -/
abbrev Place := Nat × Prop × (t' : Ty) × TD t' × (TD t' → Gb)

def lensOf (gh : Gh) (s : SV) (n : Nat) : Option Place :=
  match s with
  | .ptr id off =>
    match look gh id with
    | some (.obj cs t x) =>
      bif Nat.ble cs.length off then
        match focus t x (off - cs.length) n with
        | some ⟨t', y, f⟩ => some (id, True, ⟨t', y, fun z => .obj cs t (f z)⟩)
        | none => none
      else none
    | _ => none
  | .elt id base i sz k _ =>
    match look gh id with
    | some (.obj cs t x) =>
      bif Nat.ble cs.length base then
        match focusE t x (base - cs.length) i sz k n with
        | some (p, ⟨t', y, f⟩) => some (id, p, ⟨t', y, fun z => .obj cs t (f z)⟩)
        | none => none
      else none
    | some (.own t xs) =>
      bif Nat.beq base 0 && Nat.beq sz t.size then
        match focus t (xs.getD i.toNat (TD.z t)) k n with
        | some ⟨t', y, f⟩ => some (id, (0 ≤ i ∧ i < (xs.length : Int)), ⟨t', y, fun z => .own t (xs.set i.toNat (f z))⟩)
        | none => none
      else none
    | _ => none
  | _ => none

section
variable {P : Program} {o : Oper} {a : Act} {R : Nat → Prop} {ρ : Env} {gh : Gh} {next : Nat} {w : World} {ev : Operand → Option Tv}

structure PlaceOK (R : Nat → Prop) (ρ : Env) (gh : Gh) (w : World) (s : SV) (n : Nat) (id : Nat) (t' : Ty) (y : TD t') (f : TD t' → Gb) (g : Gb) (b o : Nat) (cur : Array Value) (T : TypeId) : Prop where
  gh : look gh id = some g
  den : s.den ρ = .pointer (some ⟨b, o, none⟩)
  own : g.ownB ρ id = some b
  heap : w.heap[b]? = some (.cells cur T (0, 0))
  fit : o + n ≤ cur.size
  size : t'.size = n
  reads : ReadsC R w t' y ((cur.toList.drop o).take n)
  put : ∀ (R' : Nat → Prop) (w' : World) (z : TD t') (c : List Value), (∀ k, R k → R' k ∧ w'.heap[k]? = w.heap[k]?) → ReadsC R' w' t' z c →
    w'.heap[b]? = some (.cells (cur.toList.take o ++ c ++ cur.toList.drop (o + n)).toArray T (0, 0)) → Gfact R' w' ρ id (f z)
  put2 : ∀ z, (f z).ownB ρ id = some b ∧ (f z).ids = g.ids ∧ (f z).isOwn = true

theorem obj_place (hG : RepG R ρ gh w) {s : SV} {id : Nat} {cs : List SV} {t : Ty} {x : TD t} (hg : look gh id = some (.obj cs t x)) {off n : Nat} {l : Lens t} (hF : FocOK t x off n l)
    (hs : s.den ρ = .pointer (ρ.at id (cs.length + off))) : ∃ b o cur T, PlaceOK R ρ gh w s n id l.1 l.2.1 (fun z => .obj cs t (l.2.2 z)) (.obj cs t x) b o cur T := by
  obtain ⟨b, T, vs, ha, hh, hr⟩ := hG.facts _ _ hg
  obtain ⟨k1, k2, k3⟩ := hF
  have hl := ReadsC_len t x vs hr
  obtain ⟨r1, r2⟩ := k3 R w vs hr
  refine ⟨b, cs.length + off, _, T, hg, by rw [hs]; simp [Env.at, ha], by simp [Gb.ownB, ha], hh, by simp; omega, k1, ?_, fun R' w' z c hR hz hw => ?_, fun z => ⟨by simp [Gb.ownB, ha], rfl, rfl⟩⟩
  · have : ((dens ρ cs ++ vs).toArray.toList.drop (cs.length + off)).take n = (vs.drop off).take n := by
      simp only
      rw [← List.drop_drop, ← dens_length ρ cs, List.drop_left]
    rw [this]; exact r1
  · refine ⟨b, T, _, ha, ?_, r2 R' w' z c (ReadsC.mono hR t x vs hr) hz⟩
    rw [hw]
    simp only
    congr 2
    rw [List.take_append, List.take_of_length_le (by simp), dens_length, Nat.add_sub_cancel_left, Nat.add_assoc, ← List.drop_drop, ← dens_length ρ cs, List.drop_left]
    simp

theorem lensOf_sound (hG : RepG R ρ gh w) {s : SV} {n id : Nat} {p : Prop} {t' : Ty} {y : TD t'} {f : TD t' → Gb} (h : lensOf gh s n = some (id, p, ⟨t', y, f⟩)) (hp : p) :
    ∃ g b o cur T, PlaceOK R ρ gh w s n id t' y f g b o cur T := by
  unfold lensOf at h
  split at h
  · rename_i id0 off
    split at h
    · rename_i cs t x hg
      cases hb : Nat.ble cs.length off with
      | false => rw [hb] at h; cases h
      | true =>
        rw [hb] at h
        simp only [cond_true] at h
        split at h
        · rename_i t0 y0 f0 hf
          injection h with h; injection h with h1 h; injection h with h2 h; cases h
          subst h1
          have hle := Nat.le_of_ble_eq_true hb
          obtain ⟨b, o, cur, T, hP⟩ := obj_place (s := .ptr id0 off) hG hg (focus_sound t x _ n _ hf) (by simp only [SV.den]; rw [Nat.add_sub_of_le hle])
          exact ⟨_, b, o, cur, T, hP⟩
        · cases h
    · cases h
  · rename_i id0 base i sz k cnt
    split at h
    · rename_i cs t x hg
      cases hb : Nat.ble cs.length base with
      | false => rw [hb] at h; cases h
      | true =>
        rw [hb] at h
        simp only [cond_true] at h
        split at h
        · rename_i p0 t0 y0 f0 hf
          injection h with h; injection h with h1 h; injection h with h2 h; cases h
          subst h1; subst h2
          have hle := Nat.le_of_ble_eq_true hb
          obtain ⟨b, o, cur, T, hP⟩ := obj_place (s := .elt id0 base i sz k cnt) hG hg (focusE_sound t x _ i sz k n _ _ hf hp) (by simp only [SV.den]; rw [show cs.length + (base - cs.length + i.toNat * sz + k) = base + i.toNat * sz + k by omega])
          exact ⟨_, b, o, cur, T, hP⟩
        · cases h
    · rename_i t xs hg
      cases hb : Nat.beq base 0 && Nat.beq sz t.size with
      | false => rw [hb] at h; cases h
      | true =>
        rw [hb] at h
        simp only [cond_true] at h
        rw [Bool.and_eq_true] at hb
        have e1 := beq_iff.1 hb.1
        have e2 := beq_iff.1 hb.2
        subst e1; subst e2
        split at h
        · rename_i t0 y0 f0 hf
          injection h with h; injection h with h1 h; injection h with h2 h; cases h
          subst h1; subst h2
          obtain ⟨hi0, hi1⟩ := hp
          have hi : i.toNat < xs.length := by omega
          obtain ⟨f1, f2, f3⟩ := hG.facts _ _ hg
          rcases f3 with ⟨_, e, _⟩ | ⟨b, o, cur, T, ha, hh, hfit, hxs⟩
          · subst e; simp at hi
          · have hx : xs.getD i.toNat (TD.z t) = xs[i.toNat] := by rw [List.getD, List.getElem?_eq_getElem hi]; rfl
            have hF := focus_sound t _ k n _ hf
            rw [hx] at hF
            obtain ⟨k1, k2, k3⟩ := hF
            obtain ⟨c, c1, c2, c3⟩ := hxs i.toNat _ (List.getElem?_eq_getElem hi)
            obtain ⟨r1, r2⟩ := k3 R w c c3
            have hm : i.toNat * t.size + t.size ≤ xs.length * t.size := by rw [← Nat.succ_mul]; exact Nat.mul_le_mul_right _ hi
            have hm2 : xs.length * t.size ≤ (ρ id0).cap * t.size := Nat.mul_le_mul_right _ f2
            have hcc : (cur.toList.drop (o + i.toNat * t.size)).take t.size = c := by
              refine List.ext_getElem? fun q => ?_
              by_cases hq : q < t.size
              · rw [List.getElem?_take, if_pos hq, List.getElem?_drop, ← c2 q hq]; simp
              · rw [List.getElem?_take, if_neg hq, List.getElem?_eq_none (by omega)]
            have hRb : ¬ R b := (hG.olt id0 _ b hg (by simp [Gb.ownB, ha])).2
            refine ⟨_, b, o + (i.toNat * t.size + k), cur, T, hg, by simp [SV.den, Env.at, ha], by simp [Gb.ownB, ha], hh, by omega, k1, ?_, fun R' w' z c' hR hz hw => ?_, fun z => ⟨by simp [Gb.ownB, ha], rfl, rfl⟩⟩
            · rw [← Nat.add_assoc, ← List.drop_drop]
              have : ((cur.toList.drop (o + i.toNat * t.size)).drop k).take n = (c.drop k).take n := by
                rw [← hcc, List.drop_take, List.take_take, Nat.min_eq_left (by omega)]
              rw [this]; exact r1
            · have hy' := r2 R' w' z c' (ReadsC.mono hR t _ c c3) hz
              have hcl' : (c.take k ++ c' ++ c.drop (k + n)).length = t.size := ReadsC_len t _ _ hy'
              have heq : cur.toList.take (o + (i.toNat * t.size + k)) ++ c' ++ cur.toList.drop (o + (i.toNat * t.size + k) + n) = cur.toList.take (o + i.toNat * t.size) ++ (c.take k ++ c' ++ c.drop (k + n)) ++ cur.toList.drop (o + i.toNat * t.size + t.size) := by
                have e1 : cur.toList.take (o + (i.toNat * t.size + k)) = cur.toList.take (o + i.toNat * t.size) ++ c.take k := by
                  rw [← Nat.add_assoc, List.take_add, ← hcc, List.take_take, Nat.min_eq_left (by omega)]
                have e2 : cur.toList.drop (o + (i.toNat * t.size + k) + n) = c.drop (k + n) ++ cur.toList.drop (o + i.toNat * t.size + t.size) := by
                  have hd : cur.toList.drop (o + (i.toNat * t.size + k) + n) = (cur.toList.drop (o + i.toNat * t.size)).drop (k + n) := by rw [List.drop_drop]; congr 1; omega
                  have hs : cur.toList.drop (o + i.toNat * t.size + t.size) = (cur.toList.drop (o + i.toNat * t.size)).drop t.size := by rw [List.drop_drop]
                  rw [hd, hs, ← hcc]
                  generalize cur.toList.drop (o + i.toNat * t.size) = L
                  have hs : L.drop t.size = (L.drop (k + n)).drop (t.size - (k + n)) := by rw [List.drop_drop]; congr 1; omega
                  rw [List.drop_take, hs, List.take_append_drop]
                rw [e1, e2]
                simp
              have hR2 : ∀ k, R k → R' k := fun k hk => (hR k hk).1
              have hsp := OwnRow.splice (R := R') (w := w') (w' := w') (ρ := ρ) (id := id0) (T := T) (xs := xs) (ys := [f0 z]) (p := i.toNat) (news := c.take k ++ c' ++ c.drop (k + n)) f1 f2 ha hfit (fun j x hj => by
                obtain ⟨cj, j1, j2, j3⟩ := hxs j x hj
                exact ⟨cj, j1, j2, ReadsC.mono hR t x cj j3⟩) (fun _ _ => rfl) (by rw [hcl']; simp) (fun j u hj => by
                have hjl := (List.getElem?_eq_some_iff.1 hj).1
                simp at hjl
                subst hjl
                simp at hj; subst hj
                exact ⟨_, hcl', fun q hq => by simp, hy'⟩) (by simp; omega) (by rw [hw, heq, hcl'])
              have hset : xs.set i.toNat (f0 z) = xs.take i.toNat ++ [f0 z] ++ xs.drop (i.toNat + 1) := by
                rw [List.set_eq_take_append_cons_drop, if_pos hi]; simp
              show OwnRow R' w' ρ id0 t (xs.set i.toNat (f0 z))
              rw [hset]
              exact hsp
        · cases h
    · cases h
  · cases h
end
end Sx
