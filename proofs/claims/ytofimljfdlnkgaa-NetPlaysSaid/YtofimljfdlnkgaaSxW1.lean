/- A symbolic executor for the model's code: parts of data, where they lie. -/
import Derived.Test.YtofimljfdlnkgaaSx14
namespace Sx
open Go Go.RowKit

/-! ### a part of a datum -/
abbrev Lens (t : Ty) : Type := (t' : Ty) × TD t' × (TD t' → TD t)

def atom (t : Ty) (x : TD t) (off n : Nat) : Option (Lens t) := bif Nat.beq off 0 && Nat.beq n t.size then some ⟨t, x, fun y => y⟩ else none

def focus : (t : Ty) → TD t → Nat → Nat → Option (Lens t)
  | .cat a b, x, off, n =>
    match atom (.cat a b) x off n with
    | some l => some l
    | none =>
      bif Nat.ble (off + n) a.size then (focus a x.1 off n).map fun l => ⟨l.1, l.2.1, fun y => (l.2.2 y, x.2)⟩
      else bif Nat.ble a.size off then (focus b x.2 (off - a.size) n).map fun l => ⟨l.1, l.2.1, fun y => (x.1, l.2.2 y)⟩
      else none
  | .rep m a, xs, off, n =>
    match atom (.rep m a) xs off n with
    | some l => some l
    | none =>
      bif Nat.blt (off / a.size) m && Nat.ble 1 a.size then
        (focus a (List.getD (α := TD a) xs (off / a.size) (TD.z a)) (off % a.size) n).map fun l => ⟨l.1, l.2.1, fun y => List.set (α := TD a) xs (off / a.size) (l.2.2 y)⟩
      else none
  | .int k, x, off, n => atom (.int k) x off n
  | .bool, x, off, n => atom .bool x off n
  | .str, x, off, n => atom .str x off n
  | .unit, x, off, n => atom .unit x off n
  | .slice a, x, off, n => atom (.slice a) x off n
  | .ptr a, x, off, n => atom (.ptr a) x off n
  | .optr a, x, off, n => atom (.optr a) x off n
  | .fnl f, x, off, n => atom (.fnl f) x off n
  | .clo f a, x, off, n => atom (.clo f a) x off n

/-- the i-th of the variables at a place, or a part of it -/
def focusE : (t : Ty) → TD t → Nat → Int → Nat → Nat → Nat → Option (Prop × Lens t)
  | .cat a b, x, base, i, sz, k, n =>
    bif Nat.blt base a.size then (focusE a x.1 base i sz k n).map fun q => (q.1, ⟨q.2.1, q.2.2.1, fun y => (q.2.2.2 y, x.2)⟩)
    else (focusE b x.2 (base - a.size) i sz k n).map fun q => (q.1, ⟨q.2.1, q.2.2.1, fun y => (x.1, q.2.2.2 y)⟩)
  | .rep m a, xs, base, i, sz, k, n =>
    bif Nat.beq base 0 && Nat.beq sz a.size then
      (focus a (List.getD (α := TD a) xs i.toNat (TD.z a)) k n).map fun l => ((0 ≤ i ∧ i < (m : Int)), ⟨l.1, l.2.1, fun y => List.set (α := TD a) xs i.toNat (l.2.2 y)⟩)
    else bif Nat.blt (base / a.size) m && Nat.ble 1 a.size then
      (focusE a (List.getD (α := TD a) xs (base / a.size) (TD.z a)) (base % a.size) i sz k n).map fun q => (q.1, ⟨q.2.1, q.2.2.1, fun y => List.set (α := TD a) xs (base / a.size) (q.2.2.2 y)⟩)
    else none
  | .int _, _, _, _, _, _, _ | .bool, _, _, _, _, _, _ | .str, _, _, _, _, _, _ | .unit, _, _, _, _, _, _ | .slice _, _, _, _, _, _, _ | .ptr _, _, _, _, _, _, _
  | .optr _, _, _, _, _, _, _ | .fnl _, _, _, _, _, _, _ | .clo _ _, _, _, _, _, _, _ => none

def FocOK (t : Ty) (x : TD t) (off n : Nat) (l : Lens t) : Prop :=
  l.1.size = n ∧ off + n ≤ t.size ∧ ∀ (R : Nat → Prop) (w : World) (vs : List Value), ReadsC R w t x vs → ReadsC R w l.1 l.2.1 ((vs.drop off).take n) ∧
    ∀ R' w' y' c', ReadsC R' w' t x vs → ReadsC R' w' l.1 y' c' → ReadsC R' w' t (l.2.2 y') (vs.take off ++ c' ++ vs.drop (off + n))

theorem atom_sound {t : Ty} {x : TD t} {off n : Nat} {l : Lens t} (h : atom t x off n = some l) : FocOK t x off n l := by
  unfold atom at h
  cases hb : Nat.beq off 0 && Nat.beq n t.size with
  | false => rw [hb] at h; cases h
  | true =>
    rw [hb] at h
    simp only [cond_true] at h
    injection h with h
    rw [Bool.and_eq_true] at hb
    have e1 := beq_iff.1 hb.1
    have e2 := beq_iff.1 hb.2
    subst e1; subst e2; subst h
    refine ⟨rfl, by omega, fun R w vs hv => ?_⟩
    have hl := ReadsC_len t x vs hv
    refine ⟨by simpa [← hl] using hv, fun R' w' y' c' _ hc => ?_⟩
    have : vs.drop (0 + t.size) = [] := by rw [List.drop_eq_nil_iff]; omega
    rw [this]
    simpa using hc

theorem AllR_split {α : Type} {p : α → List Value → Prop} {sz : Nat} (hl : ∀ x cs, p x cs → cs.length = sz) : ∀ {xs : List α} {cs : List Value} {j : Nat} {x : α}, AllR p xs cs → xs[j]? = some x →
    ∃ pre c post, cs = pre ++ c ++ post ∧ pre.length = j * sz ∧ p x c
  | [], _, _, _, _, h => by simp at h
  | y :: ys, cs, 0, x, ⟨c1, c2, e, h1, h2⟩, h => by
    simp at h; subst h
    exact ⟨[], c1, c2, by simp [e], by simp, h1⟩
  | y :: ys, cs, j + 1, x, ⟨c1, c2, e, h1, h2⟩, h => by
    simp at h
    obtain ⟨pre, c, post, e', hp, hx⟩ := AllR_split hl h2 h
    exact ⟨c1 ++ pre, c, post, by rw [e, e']; simp, by rw [List.length_append, hl _ _ h1, hp, Nat.succ_mul]; omega, hx⟩

theorem AllR_put {α : Type} {p : α → List Value → Prop} {sz : Nat} (hl : ∀ x cs, p x cs → cs.length = sz) : ∀ {xs : List α} {pre c post : List Value} {j : Nat} {y : α} {c' : List Value}, AllR p xs (pre ++ c ++ post) → j < xs.length → pre.length = j * sz → c.length = sz →
    p y c' → AllR p (xs.set j y) (pre ++ c' ++ post)
  | [], _, _, _, _, _, _, _, h, _, _, _ => by simp at h
  | x :: xs, pre, c, post, 0, y, c', ⟨c1, c2, e, h1, h2⟩, _, hp, hc, hy => by
    have : pre = [] := List.eq_nil_of_length_eq_zero (by omega)
    subst this
    simp only [List.nil_append] at e
    obtain ⟨_, e2⟩ := List.append_inj e (by rw [hc, hl _ _ h1])
    exact ⟨c', c2, by simp [← e2], hy, h2⟩
  | x :: xs, pre, c, post, j + 1, y, c', ⟨c1, c2, e, h1, h2⟩, h, hp, hc, hy => by
    have hl1 := hl _ _ h1
    rw [Nat.succ_mul] at hp
    have e' : pre = c1 ++ pre.drop sz := by
      have h3 := congrArg (List.take sz) e
      rw [List.append_assoc, List.take_append_of_le_length (by omega), List.take_append_of_le_length (by omega), ← hl1, List.take_length] at h3
      rw [← List.take_append_drop sz pre, ← hl1, h3]
      simp
    have e2 : c2 = pre.drop sz ++ c ++ post := by
      rw [e'] at e
      simp only [List.append_assoc, List.append_cancel_left_eq] at e
      rw [← e]; simp
    rw [e2] at h2
    refine ⟨c1, pre.drop sz ++ c' ++ post, by conv => lhs; rw [e']
                                              simp, h1, AllR_put hl h2 (by simpa using h) (by simp; omega) hc hy⟩

theorem FocOK.left {a b : Ty} {x : TD (.cat a b)} {off n : Nat} {l : Lens a} (h : FocOK a x.1 off n l) : FocOK (.cat a b) x off n ⟨l.1, l.2.1, fun y => (l.2.2 y, x.2)⟩ := by
  obtain ⟨h1, h2, h3⟩ := h
  refine ⟨h1, by simp only [Ty.size]; omega, ?_⟩
  rintro R w vs ⟨c1, c2, e, r1, r2⟩
  subst e
  have hl := ReadsC_len a _ _ r1
  obtain ⟨k1, k2⟩ := h3 R w c1 r1
  refine ⟨?_, ?_⟩
  · rw [List.drop_append_of_le_length (by omega), List.take_append_of_le_length (by simp; omega)]; exact k1
  · rintro R' w' y' c' ⟨d1, d2, e, q1, q2⟩ hc
    obtain ⟨e1, e2⟩ := List.append_inj e (by rw [hl, ReadsC_len a _ _ q1])
    subst e1; subst e2
    refine ⟨_, c2, ?_, k2 R' w' y' c' q1 hc, q2⟩
    rw [List.take_append_of_le_length (by omega), List.drop_append_of_le_length (by omega)]
    simp

theorem FocOK.right {a b : Ty} {x : TD (.cat a b)} {off n : Nat} {l : Lens b} (ho : a.size ≤ off) (h : FocOK b x.2 (off - a.size) n l) : FocOK (.cat a b) x off n ⟨l.1, l.2.1, fun y => (x.1, l.2.2 y)⟩ := by
  obtain ⟨h1, h2, h3⟩ := h
  refine ⟨h1, by simp only [Ty.size]; omega, ?_⟩
  rintro R w vs ⟨c1, c2, e, r1, r2⟩
  subst e
  have hl := ReadsC_len a _ _ r1
  have hl2 := ReadsC_len b _ _ r2
  obtain ⟨k1, k2⟩ := h3 R w c2 r2
  have hd : ∀ m, a.size ≤ m → (c1 ++ c2).drop m = c2.drop (m - a.size) := fun m hm => by
    rw [List.drop_append, hl, List.drop_eq_nil_of_le (by omega)]; rfl
  refine ⟨by rw [hd off ho]; exact k1, ?_⟩
  rintro R' w' y' c' ⟨d1, d2, e, q1, q2⟩ hc
  obtain ⟨e1, e2⟩ := List.append_inj e (by rw [hl, ReadsC_len a _ _ q1])
  subst e1; subst e2
  refine ⟨c1, _, ?_, q1, k2 R' w' y' c' q2 hc⟩
  rw [hd (off + n) (by omega), List.take_append, hl, List.take_of_length_le (by omega), show off + n - a.size = off - a.size + n by omega]
  simp

theorem FocOK.elem {m : Nat} {a : Ty} {xs : TD (.rep m a)} {j off n : Nat} {l : Lens a} (hj : j < m) (h : FocOK a (List.getD (α := TD a) xs j (TD.z a)) off n l) :
    FocOK (.rep m a) xs (j * a.size + off) n ⟨l.1, l.2.1, fun y => List.set (α := TD a) xs j (l.2.2 y)⟩ := by
  obtain ⟨h1, h2, h3⟩ := h
  have hm : j * a.size + a.size ≤ m * a.size := by rw [← Nat.succ_mul]; exact Nat.mul_le_mul_right _ hj
  refine ⟨h1, by simp only [Ty.size]; omega, ?_⟩
  rintro R w vs ⟨hlen, hall⟩
  have hjl : j < List.length (α := TD a) xs := by omega
  have hx : List.getD (α := TD a) xs j (TD.z a) = xs[j] := by rw [List.getD, List.getElem?_eq_getElem hjl]; rfl
  rw [hx] at h3
  obtain ⟨pre, c, post, e, hp, hc⟩ := AllR_split (ReadsC_len a) hall (List.getElem?_eq_getElem hjl)
  have hcl := ReadsC_len a _ _ hc
  subst e
  obtain ⟨k1, k2⟩ := h3 R w c hc
  refine ⟨?_, ?_⟩
  · rw [List.append_assoc, ← List.drop_drop, ← hp, List.drop_left, List.drop_append_of_le_length (by omega), List.take_append_of_le_length (by simp; omega)]; exact k1
  · rintro R' w' y' c' ⟨hlen', hall'⟩ hc'
    obtain ⟨pre2, c2, post2, e2, hp2, hc2⟩ := AllR_split (ReadsC_len a) hall' (List.getElem?_eq_getElem hjl)
    have hcl2 := ReadsC_len a _ _ hc2
    have ee : pre = pre2 ∧ c = c2 := by
      rw [List.append_assoc, List.append_assoc] at e2
      obtain ⟨e3, e4⟩ := List.append_inj e2 (by rw [hp, hp2])
      exact ⟨e3, (List.append_inj e4 (by rw [hcl, hcl2])).1⟩
    obtain ⟨e3, e4⟩ := ee
    subst e3; subst e4
    refine ⟨by rw [List.length_set]; exact hlen', ?_⟩
    have hput := AllR_put (ReadsC_len a) hall' hjl hp hcl (k2 R' w' y' c' hc2 hc')
    have e5 : (pre ++ c ++ post).take (j * a.size + off) ++ c' ++ (pre ++ c ++ post).drop (j * a.size + off + n) = pre ++ (c.take off ++ c' ++ c.drop (off + n)) ++ post := by
      rw [List.append_assoc pre, List.take_append, List.take_of_length_le (by omega), hp, Nat.add_sub_cancel_left, List.take_append_of_le_length (by omega), Nat.add_assoc, ← List.drop_drop, ← hp, List.drop_left, List.drop_append_of_le_length (by omega)]
      simp
    rw [e5]
    exact hput

theorem focus_sound : ∀ (t : Ty) (x : TD t) (off n : Nat) (l : Lens t), focus t x off n = some l → FocOK t x off n l
  | .cat a b, x, off, n, l, h => by
    simp only [focus] at h
    split at h
    · rename_i l' hl; injection h with h; subst h; exact atom_sound hl
    · cases h1 : Nat.ble (off + n) a.size with
      | true =>
        rw [h1] at h
        simp only [cond_true] at h
        cases hf : focus a x.1 off n with
        | none => rw [hf] at h; cases h
        | some l' => rw [hf] at h; injection h with h; subst h; exact (focus_sound a x.1 off n l' hf).left
      | false =>
        rw [h1] at h
        simp only [cond_false] at h
        cases h2 : Nat.ble a.size off with
        | false => rw [h2] at h; cases h
        | true =>
          rw [h2] at h
          simp only [cond_true] at h
          cases hf : focus b x.2 (off - a.size) n with
          | none => rw [hf] at h; cases h
          | some l' => rw [hf] at h; injection h with h; subst h; exact (focus_sound b x.2 _ n l' hf).right (Nat.le_of_ble_eq_true h2)
  | .rep m a, xs, off, n, l, h => by
    simp only [focus] at h
    split at h
    · rename_i l' hl; injection h with h; subst h; exact atom_sound hl
    · cases h1 : Nat.blt (off / a.size) m && Nat.ble 1 a.size with
      | false => rw [h1] at h; cases h
      | true =>
        rw [h1] at h
        simp only [cond_true] at h
        rw [Bool.and_eq_true] at h1
        cases hf : focus a (List.getD (α := TD a) xs (off / a.size) (TD.z a)) (off % a.size) n with
        | none => rw [hf] at h; cases h
        | some l' =>
          rw [hf] at h; injection h with h; subst h
          have := (focus_sound a _ _ n l' hf).elem (xs := xs) (Nat.le_of_ble_eq_true h1.1)
          rwa [Nat.mul_comm, Nat.div_add_mod] at this
  | .int k, x, off, n, l, h => atom_sound (by simpa only [focus] using h)
  | .bool, x, off, n, l, h => atom_sound (by simpa only [focus] using h)
  | .str, x, off, n, l, h => atom_sound (by simpa only [focus] using h)
  | .unit, x, off, n, l, h => atom_sound (by simpa only [focus] using h)
  | .slice a, x, off, n, l, h => atom_sound (by simpa only [focus] using h)
  | .ptr a, x, off, n, l, h => atom_sound (by simpa only [focus] using h)
  | .optr a, x, off, n, l, h => atom_sound (by simpa only [focus] using h)
  | .fnl f, x, off, n, l, h => atom_sound (by simpa only [focus] using h)
  | .clo f a, x, off, n, l, h => atom_sound (by simpa only [focus] using h)

theorem focusE_sound : ∀ (t : Ty) (x : TD t) (base : Nat) (i : Int) (sz k n : Nat) (p : Prop) (l : Lens t), focusE t x base i sz k n = some (p, l) → p → FocOK t x (base + i.toNat * sz + k) n l
  | .cat a b, x, base, i, sz, k, n, p, l, h, hp => by
    simp only [focusE] at h
    cases h1 : Nat.blt base a.size with
    | true =>
      rw [h1] at h
      simp only [cond_true] at h
      cases hf : focusE a x.1 base i sz k n with
      | none => rw [hf] at h; cases h
      | some q =>
        obtain ⟨p', l'⟩ := q
        rw [hf] at h; injection h with h; injection h with e1 e2; subst e1; subst e2
        exact (focusE_sound a x.1 base i sz k n p' l' hf hp).left
    | false =>
      rw [h1] at h
      simp only [cond_false] at h
      have h2 : a.size ≤ base := by
        rcases Nat.lt_or_ge base a.size with h2 | h2
        · have : Nat.blt base a.size = true := Nat.ble_eq_true_of_le h2
          rw [this] at h1; cases h1
        · exact h2
      cases hf : focusE b x.2 (base - a.size) i sz k n with
      | none => rw [hf] at h; cases h
      | some q =>
        obtain ⟨p', l'⟩ := q
        rw [hf] at h; injection h with h; injection h with e1 e2; subst e1; subst e2
        refine FocOK.right (by omega) ?_
        have := focusE_sound b x.2 _ i sz k n p' l' hf hp
        rwa [show base - a.size + i.toNat * sz + k = base + i.toNat * sz + k - a.size by omega] at this
  | .rep m a, xs, base, i, sz, k, n, p, l, h, hp => by
    simp only [focusE] at h
    cases h1 : Nat.beq base 0 && Nat.beq sz a.size with
    | true =>
      rw [h1] at h
      simp only [cond_true] at h
      rw [Bool.and_eq_true] at h1
      have e1 := beq_iff.1 h1.1
      have e2 := beq_iff.1 h1.2
      subst e1; subst e2
      cases hf : focus a (List.getD (α := TD a) xs i.toNat (TD.z a)) k n with
      | none => rw [hf] at h; cases h
      | some l' =>
        rw [hf] at h; injection h with h; injection h with e1 e2; subst e1; subst e2
        have := (focus_sound a _ k n l' hf).elem (xs := xs) (m := m) (j := i.toNat) (by omega)
        rwa [Nat.zero_add]
    | false =>
      rw [h1] at h
      simp only [cond_false] at h
      cases h2 : Nat.blt (base / a.size) m && Nat.ble 1 a.size with
      | false => rw [h2] at h; cases h
      | true =>
        rw [h2] at h
        simp only [cond_true] at h
        rw [Bool.and_eq_true] at h2
        cases hf : focusE a (List.getD (α := TD a) xs (base / a.size) (TD.z a)) (base % a.size) i sz k n with
        | none => rw [hf] at h; cases h
        | some q =>
          obtain ⟨p', l'⟩ := q
          rw [hf] at h; injection h with h; injection h with e1 e2; subst e1; subst e2
          have := (focusE_sound a _ _ i sz k n p' l' hf hp).elem (xs := xs) (m := m) (Nat.le_of_ble_eq_true h2.1)
          rwa [← Nat.add_assoc, ← Nat.add_assoc, Nat.mul_comm (base / a.size), Nat.div_add_mod] at this
  | .int _, _, _, _, _, _, _, _, _, h, _ => by simp [focusE] at h
  | .bool, _, _, _, _, _, _, _, _, h, _ => by simp [focusE] at h
  | .str, _, _, _, _, _, _, _, _, h, _ => by simp [focusE] at h
  | .unit, _, _, _, _, _, _, _, _, h, _ => by simp [focusE] at h
  | .slice _, _, _, _, _, _, _, _, _, h, _ => by simp [focusE] at h
  | .ptr _, _, _, _, _, _, _, _, _, h, _ => by simp [focusE] at h
  | .optr _, _, _, _, _, _, _, _, _, h, _ => by simp [focusE] at h
  | .fnl _, _, _, _, _, _, _, _, _, h, _ => by simp [focusE] at h
  | .clo _ _, _, _, _, _, _, _, _, _, h, _ => by simp [focusE] at h
end Sx
