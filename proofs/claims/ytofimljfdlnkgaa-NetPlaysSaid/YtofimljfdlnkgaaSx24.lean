/- A symbolic executor for the model's code: what came in, as the rows of a claim read it, is data of a type. -/
import Derived.Test.YtofimljfdlnkgaaSx23
import Derived.DataReads
import Derived.ChangeOld
import Derived.ChangeArms
import Derived.OpenShut
import Derived.DataShut
namespace Sx
open Go Go.RowKit

def alone (P : Program) (t : Ty) (one : TypeId → Bool) : List Field → Nat → Bool
  | [f], o => Nat.beq f.offset o && Nat.beq (P.cellsOf f.type) t.size && one f.type
  | _, _ => false

def catOne (P : Program) (a b : Ty) (fa : TypeId → Bool) (fb : List Field → Nat → Bool) (T : TypeId) : Bool :=
  match P.underlying T with
  | some (.struct fs) =>
    match fs.toList with
    | f :: r => Nat.beq (P.cellsOf T) (a.size + b.size) && Nat.beq f.offset 0 && Nat.beq (P.cellsOf f.type) a.size && fa f.type && fb r a.size
    | [] => false
  | _ => false

/-- does a type's number stand for this type of data? as it is; as the fields that are left of a struct, from a place on -/
def fits (P : Program) : Ty → (TypeId → Bool) × (List Field → Nat → Bool)
  | .int k => let one := fun T => match P.underlying T with | some (.int k') => decide (k = k') | _ => false; (one, alone P (.int k) one)
  | .bool => let one := fun T => match P.underlying T with | some .bool => true | _ => false; (one, alone P .bool one)
  | .str => let one := fun T => match P.underlying T with | some .string => true | _ => false; (one, alone P .str one)
  | .slice a => let one := fun T => match P.underlying T with | some (.slice e) => Nat.blt 0 a.size && Nat.beq (P.cellsOf e) a.size && (fits P a).1 e | _ => false; (one, alone P (.slice a) one)
  | .optr a => let one := fun T => match P.underlying T with | some (.pointer e) => Nat.blt 0 a.size && Nat.beq (P.cellsOf e) a.size && (fits P a).1 e | _ => false; (one, alone P (.optr a) one)
  | .rep n a => let one := fun T => match P.underlying T with | some (.array m e) => Nat.beq m n && Nat.beq (P.cellsOf e) a.size && Nat.beq (P.cellsOf T) (n * a.size) && (fits P a).1 e | _ => false; (one, alone P (.rep n a) one)
  | .cat a b =>
    let one := catOne P a b (fits P a).1 (fits P b).2
    (one, fun fs o => match fs with
      | [] => false
      | f :: r => alone P (.cat a b) one (f :: r) o || (Nat.beq f.offset o && Nat.beq (P.cellsOf f.type) a.size && (fits P a).1 f.type && (fits P b).2 r (o + a.size)))
  | .unit => (fun _ => false, fun fs _ => fs.isEmpty)
  | .ptr _ | .fnl _ | .clo _ _ => (fun _ => false, fun _ _ => false)

def InK (k : IntKind) (x : Int) : Prop := k.min ≤ x ∧ x ≤ k.max
def AllG {α : Type} (p : α → Prop) (l : List α) : Prop := ∀ x ∈ l, p x
/-- what every datum that came in keeps -/
def Good : (t : Ty) → TD t → Prop
  | .int k, x => InK k x
  | .bool, _ => True
  | .str, x => ByteArray.size x ≤ maxLen
  | .unit, _ => True
  | .cat a b, x => Good a x.1 ∧ Good b x.2
  | .rep n a, xs => List.length (α := TD a) xs = n ∧ AllG (α := TD a) (Good a) xs
  | .slice a, xs => List.length (α := TD a) xs ≤ maxLen ∧ AllG (α := TD a) (Good a) xs
  | .ptr a, x => Good a x
  | .optr a, x => match x with | none => True | some y => Good a y
  | .fnl _, _ => True
  | .clo _ a, x => Good a x

theorem pick_list {α : Type} {p : Nat → α → Prop} : ∀ (n : Nat), (∀ i, i < n → ∃ x, p i x) → ∃ xs : List α, xs.length = n ∧ ∀ (i : Nat) x, xs[i]? = some x → p i x
  | 0, _ => ⟨[], rfl, fun i x h => by simp at h⟩
  | n + 1, h => by
    obtain ⟨xs, hl, hp⟩ := pick_list n fun i hi => h i (by omega)
    obtain ⟨x, hx⟩ := h n (by omega)
    refine ⟨xs ++ [x], by simp [hl], fun i y hy => ?_⟩
    by_cases hi : i < xs.length
    · rw [List.getElem?_append_left hi] at hy; exact hp i y hy
    · rw [List.getElem?_append_right (by omega)] at hy
      have : i = n := by
        have := (List.getElem?_eq_some_iff.1 hy).1
        simp at this; omega
      subst this
      simp [hl] at hy; subst hy; exact hx

section
variable {H : Type} {enc : TypeId × Value → H} {P : Program} {w : World} {sp : Nat → Bool} {held : Bool}

abbrev Rw (w : World) : Nat → Prop := fun b => b < w.heap.size

def OneOK (enc : TypeId × Value → H) (P : Program) (w : World) (sp : Nat → Bool) (held : Bool) (t : Ty) (one : TypeId → Bool) : Prop :=
  ∀ T cs fuel d, one T = true → DataW.trod enc P w 0 sp held fuel T cs = some d → ∃ x, ReadsC (Rw w) w t x cs ∧ Good t x

def FldOK (enc : TypeId × Value → H) (P : Program) (w : World) (sp : Nat → Bool) (held : Bool) (t : Ty) (flds : List Field → Nat → Bool) : Prop :=
  ∀ fs o (cs : List Value), flds fs o = true → cs.length = o + t.size → (∀ f ∈ fs, ∃ fuel d, DataW.trod enc P w 0 sp held fuel f.type ((cs.drop f.offset).take (P.cellsOf f.type)) = some d) →
    ∃ x, ReadsC (Rw w) w t x (cs.drop o) ∧ Good t x

theorem alone_ok {t : Ty} {one : TypeId → Bool} (h : OneOK enc P w sp held t one) : FldOK enc P w sp held t (alone P t one) := by
  intro fs o cs hf hl hr
  unfold alone at hf
  split at hf
  · rename_i f
    simp only [Bool.and_eq_true] at hf
    obtain ⟨⟨h1, h2⟩, h3⟩ := hf
    obtain ⟨fuel, d, hd⟩ := hr f (by simp)
    rw [beq_iff.1 h1, beq_iff.1 h2, List.take_of_length_le (by rw [List.length_drop]; omega)] at hd
    exact h _ _ _ _ h3 hd
  · cases hf

theorem cells_at {a : Addr} {n : Nat} {cs : List Value} (h : w.cells? 0 a n = some cs) (hn : 0 < n) : ∃ b o, a = ⟨b, o, none⟩ ∧ b < w.heap.size ∧ cs.length = n ∧ CellsAt w b o cs := by
  have hb := World.cells?_block h hn
  obtain ⟨_, hl, hc⟩ := World.cells?_some h
  obtain ⟨b, o, s⟩ := a
  have hs : s = none := by
    cases s with
    | none => rfl
    | some q =>
      have := hc 0 hn
      cases cs with
      | nil => simp at hl; omega
      | cons c r =>
        simp only [World.cell?, Addr.add] at this
        split at this
        · simp at this
        · simp at this
  subst hs
  refine ⟨b, o, rfl, hb, hl, fun j hj => ?_⟩
  have := hc j (by omega)
  rw [← this]
  by_cases hj0 : j = 0
  · subst hj0; simp [Addr.add]
  · simp [Addr.add, hj0]

theorem row_good {a : Ty} {n : Nat} {q : Nat → List Value → Prop} (h : ∀ i, i < n → ∃ x, (∃ cs, q i cs ∧ ReadsC (Rw w) w a x cs) ∧ Good a x) :
    ∃ xs : List (TD a), xs.length = n ∧ (∀ (i : Nat) x, xs[i]? = some x → ∃ cs, q i cs ∧ ReadsC (Rw w) w a x cs) ∧ AllG (Good a) xs := by
  obtain ⟨xs, h1, h2⟩ := pick_list n h
  refine ⟨xs, h1, fun i x hx => (h2 i x hx).1, fun x hx => ?_⟩
  obtain ⟨i, hi⟩ := List.getElem?_of_mem hx
  exact (h2 i x hi).2

theorem allR_of {α : Type} {p : α → List Value → Prop} {sz : Nat} : ∀ (xs : List α) (cs : List Value), cs.length = xs.length * sz → (∀ (i : Nat) x, xs[i]? = some x → p x ((cs.drop (i * sz)).take sz)) → AllR p xs cs
  | [], cs, hl, _ => by
    have : cs = [] := List.eq_nil_of_length_eq_zero (by simpa using hl)
    exact this
  | x :: xs, cs, hl, h => by
    refine ⟨cs.take sz, cs.drop sz, (List.take_append_drop sz cs).symm, by simpa using h 0 x rfl, allR_of (sz := sz) xs (cs.drop sz) ?_ fun i y hy => ?_⟩
    · simp only [List.length_drop, hl, List.length_cons, Nat.add_mul, Nat.one_mul]; omega
    · have := h (i + 1) y (by simpa using hy)
      rw [List.drop_drop]
      rwa [show (i + 1) * sz = sz + i * sz by rw [Nat.add_mul]; omega] at this

theorem fits_ok : ∀ t : Ty, OneOK enc P w sp held t (fits P t).1 ∧ FldOK enc P w sp held t (fits P t).2
  | .int k => by
    have h : OneOK enc P w sp held (.int k) (fits P (.int k)).1 := by
      intro T cs fuel d h1 h2
      simp only [fits] at h1
      split at h1
      · rename_i k' hk
        have h1 := of_decide_eq_true h1
        subst h1
        obtain ⟨n, rfl, _, hw⟩ := DataW.trod_int hk h2
        exact ⟨n, rfl, (Lit.wf_int_iff _ _).1 hw⟩
      · cases h1
    exact ⟨h, alone_ok h⟩
  | .bool => by
    have h : OneOK enc P w sp held .bool (fits P .bool).1 := by
      intro T cs fuel d h1 h2
      simp only [fits] at h1
      split at h1
      · rename_i hk
        obtain ⟨n, rfl, _⟩ := DataW.trod_bool hk h2
        exact ⟨n, rfl, trivial⟩
      · cases h1
    exact ⟨h, alone_ok h⟩
  | .str => by
    have h : OneOK enc P w sp held .str (fits P .str).1 := by
      intro T cs fuel d h1 h2
      simp only [fits] at h1
      split at h1
      · rename_i hk
        obtain ⟨n, rfl, _, hw⟩ := DataW.trod_string hk h2
        exact ⟨n, rfl, hw⟩
      · cases h1
    exact ⟨h, alone_ok h⟩
  | .slice a => by
    have ih := (fits_ok a).1
    have h : OneOK enc P w sp held (.slice a) (fits P (.slice a)).1 := by
      intro T cs fuel d h1 h2
      simp only [fits] at h1
      split at h1
      · rename_i e hk
        simp only [Bool.and_eq_true] at h1
        obtain ⟨⟨s1, s2⟩, s3⟩ := h1
        have s1 := blt_iff.1 s1
        have s2 := beq_iff.1 s2
        rcases DataW.trod_slice hk h2 with ⟨rfl, _⟩ | ⟨A, len, cap, elems, rest, n, _, rfl, _, _, hlc, hcm, hel, hget, _⟩
        · exact ⟨([] : List (TD a)), ⟨none, 0, rfl, Nat.le_refl _, fun i x hx => by simp at hx⟩, Nat.zero_le _, fun x hx => by cases hx⟩
        · have at0 : ∀ i, i < len → ∃ c b o, A.add (i * a.size) = ⟨b, o, none⟩ ∧ b < w.heap.size ∧ c.length = a.size ∧ CellsAt w b o c ∧ ∃ x, ReadsC (Rw w) w a x c ∧ Good a x := by
            intro i hi
            have h3 := hget i hi
            have hi' : i < elems.length := by omega
            rw [List.getElem?_eq_getElem hi'] at h3
            obtain ⟨c, hc, hd⟩ := Option.bind_eq_some_iff.1 h3
            rw [s2] at hc
            obtain ⟨b, o, e1, e2, e3, e4⟩ := cells_at hc s1
            exact ⟨c, b, o, e1, e2, e3, e4, ih _ _ _ _ s3 hd⟩
          have key : ∀ i, i < len → ∃ x, (∃ c, (∃ b o, A = ⟨b, o, none⟩ ∧ b < w.heap.size ∧ c.length = a.size ∧ CellsAt w b (o + i * a.size) c) ∧ ReadsC (Rw w) w a x c) ∧ Good a x := by
            intro i hi
            obtain ⟨_, b0, o0, f1, _⟩ := at0 0 (by omega)
            have f1 : A = ⟨b0, o0, none⟩ := by simpa [Addr.add] using f1
            obtain ⟨c, b, o, e1, e2, e3, e4, x, hx1, hx2⟩ := at0 i hi
            have e5 : b = b0 ∧ o = o0 + i * a.size := by
              subst f1
              unfold Addr.add at e1
              split at e1
              · rename_i h0
                injection e1 with g1 g2 g3
                exact ⟨g1.symm, by rw [h0, ← g2]; rfl⟩
              · injection e1 with g1 g2 g3
                exact ⟨g1.symm, g2.symm⟩
            obtain ⟨e5, e6⟩ := e5
            subst e5; subst e6
            exact ⟨x, ⟨c, ⟨b, o0, f1, e2, e3, e4⟩, hx1⟩, hx2⟩
          obtain ⟨xs, x1, x2, x3⟩ := row_good key
          refine ⟨xs, ⟨some A, cap, by rw [x1], by rw [x1]; exact hlc, fun i x hx => ?_⟩, by rw [x1]; omega, x3⟩
          obtain ⟨c, ⟨b, o, e1, e2, e3, e4⟩, hr⟩ := x2 i x hx
          exact ⟨b, o, by rw [e1], e2, c, e3, e4, hr⟩
      · cases h1
    exact ⟨h, alone_ok h⟩
  | .optr a => by
    have ih := (fits_ok a).1
    have h : OneOK enc P w sp held (.optr a) (fits P (.optr a)).1 := by
      intro T cs fuel d h1 h2
      simp only [fits] at h1
      split at h1
      · rename_i e hk
        simp only [Bool.and_eq_true] at h1
        obtain ⟨⟨s1, s2⟩, s3⟩ := h1
        have s1 := blt_iff.1 s1
        have s2 := beq_iff.1 s2
        rcases DataW.trod_pointer hk h2 with ⟨rfl, _⟩ | ⟨A, c, y, n, _, rfl, _, hc, hd⟩
        · exact ⟨(none : Option (TD a)), rfl, trivial⟩
        · rw [s2] at hc
          obtain ⟨b, o, e1, e2, e3, e4⟩ := cells_at hc s1
          obtain ⟨x, hx1, hx2⟩ := ih _ _ _ _ s3 hd
          exact ⟨(some x : Option (TD a)), ⟨b, o, by rw [e1], e2, c, e3, e4, hx1⟩, hx2⟩
      · cases h1
    exact ⟨h, alone_ok h⟩
  | .rep n a => by
    have ih := (fits_ok a).1
    have h : OneOK enc P w sp held (.rep n a) (fits P (.rep n a)).1 := by
      intro T cs fuel d h1 h2
      simp only [fits] at h1
      split at h1
      · rename_i m e hk
        simp only [Bool.and_eq_true] at h1
        obtain ⟨⟨⟨s1, s2⟩, s3⟩, s4⟩ := h1
        have s1 := beq_iff.1 s1
        have s2 := beq_iff.1 s2
        have s3 := beq_iff.1 s3
        subst s1
        obtain ⟨ys, k, _, _, hl, hn, hget⟩ := DataW.trod_array hk h2
        have key : ∀ i, i < m → ∃ x, (∃ c, c = (cs.drop (i * a.size)).take a.size ∧ ReadsC (Rw w) w a x c) ∧ Good a x := by
          intro i hi
          have h3 := hget i hi
          have hi' : i < ys.length := by omega
          rw [List.getElem?_eq_getElem hi', s2] at h3
          obtain ⟨x, hx1, hx2⟩ := ih _ _ _ _ s4 h3
          exact ⟨x, ⟨_, rfl, hx1⟩, hx2⟩
        obtain ⟨xs, x1, x2, x3⟩ := row_good (q := fun i c => c = (cs.drop (i * a.size)).take a.size) key
        refine ⟨xs, ⟨x1, allR_of (sz := a.size) xs cs (by rw [hl, s3, x1]) fun i x hx => ?_⟩, x1, x3⟩
        obtain ⟨c, hc, hr⟩ := x2 i x hx
        rw [← hc]; exact hr
      · cases h1
    exact ⟨h, alone_ok h⟩
  | .unit => by
    refine ⟨fun T cs fuel d h1 => (by cases h1), fun fs o cs hf hl hr => ⟨(), ?_, trivial⟩⟩
    have hl : cs.length = o := by simpa [Ty.size] using hl
    exact List.drop_eq_nil_of_le (by omega)
  | .cat a b => by
    have iha := fits_ok a
    have ihb := fits_ok b
    have join : ∀ (f : Field) (r : List Field) (o : Nat) (cs : List Value), f.offset = o → P.cellsOf f.type = a.size → (fits P a).1 f.type = true → (fits P b).2 r (o + a.size) = true → cs.length = o + (a.size + b.size) →
        (∀ g ∈ f :: r, ∃ fuel d, DataW.trod enc P w 0 sp held fuel g.type ((cs.drop g.offset).take (P.cellsOf g.type)) = some d) → ∃ x, ReadsC (Rw w) w (.cat a b) x (cs.drop o) ∧ Good (.cat a b) x := by
      intro f r o cs h1 h2 h3 h4 hl hr
      obtain ⟨fuel, d, hd⟩ := hr f (by simp)
      rw [h1, h2] at hd
      obtain ⟨x, hx1, hx2⟩ := iha.1 _ _ _ _ h3 hd
      obtain ⟨y, hy1, hy2⟩ := ihb.2 r (o + a.size) cs h4 (by omega) fun g hg => hr g (by simp [hg])
      refine ⟨(x, y), ⟨(cs.drop o).take a.size, (cs.drop o).drop a.size, (List.take_append_drop _ _).symm, hx1, ?_⟩, hx2, hy2⟩
      rw [List.drop_drop]; exact hy1
    have h : OneOK enc P w sp held (.cat a b) (fits P (.cat a b)).1 := by
      intro T cs fuel d h1 h2
      simp only [fits, catOne] at h1
      split at h1
      · rename_i fs hk
        split at h1
        · rename_i f r hfs
          simp only [Bool.and_eq_true] at h1
          obtain ⟨⟨⟨⟨s1, s2⟩, s3⟩, s4⟩, s5⟩ := h1
          obtain ⟨xs, n, _, _, hl, hn, hget⟩ := DataW.trod_struct hk h2
          have := join f r 0 cs (beq_iff.1 s2) (beq_iff.1 s3) s4 (by rw [Nat.zero_add]; exact s5) (by rw [hl, beq_iff.1 s1]; omega) fun g hg => by
            rw [← hfs] at hg
            obtain ⟨i, hi⟩ := List.getElem?_of_mem hg
            have hi2 : fs[i]? = some g := by simpa using hi
            have h3 := hget i g hi2
            have hi' : i < xs.length := by rw [hn]; exact (Array.getElem?_eq_some_iff.1 hi2).1
            rw [List.getElem?_eq_getElem hi'] at h3
            exact ⟨n, _, h3⟩
          simpa using this
        · cases h1
      · cases h1
    refine ⟨h, fun fs o cs hf hl hr => ?_⟩
    simp only [fits] at hf
    split at hf
    · cases hf
    · rename_i f r
      rw [Bool.or_eq_true] at hf
      rcases hf with hf | hf
      · exact alone_ok h _ _ _ hf hl hr
      · simp only [Bool.and_eq_true] at hf
        obtain ⟨⟨⟨s1, s2⟩, s3⟩, s4⟩ := hf
        exact join f r o cs (beq_iff.1 s1) (beq_iff.1 s2) s3 s4 (by simpa [Ty.size] using hl) hr
  | .ptr _ | .fnl _ | .clo _ _ => ⟨fun T cs fuel d h1 => (by simp [fits] at h1), fun fs o cs hf => (by simp [fits] at hf)⟩
end
end Sx
