/- A symbolic executor for the model's code: what came in, as the rows of a claim read it, is data of a type, and no part of it is greater than the platform lets it be. -/
import Derived.Test.YtofimljfdlnkgaaSx25
import Derived.SizedLaws
namespace Sx
open Go Go.RowKit

/-- how many bytes a datum takes at least -/
def bts : Ty → Nat
  | .int k => bif decide (k = .i64) then 8 else 1
  | .bool => 1
  | .str => 16
  | .slice _ => 24
  | .optr _ => 8
  | .cat a b => bts a + bts b
  | .rep n a => n * bts a
  | _ => 0

theorem wall_mem {H : Type} {P : Program} {e : TypeId} : ∀ {l : List (DataW H)} {d : DataW H}, d ∈ l → ∀ n ∈ d.weights P e, n ∈ DataW.weightsAll P e l
  | x :: r, d, h, n, hn => by
    simp only [DataW.weightsAll, List.mem_append]
    rcases List.mem_cons.1 h with rfl | h
    · exact .inl hn
    · exact .inr (wall_mem h n hn)

/-- does a type's number stand for this type of data? as it is; as the fields that are left of a struct, from a place on -/
def fitsZ (P : Program) : Ty → (TypeId → Bool) × (List Field → Nat → Bool)
  | .int k => let one := fun T => match P.underlying T with | some (.int k') => decide (k = k') | _ => false; (one, alone P (.int k) one)
  | .bool => let one := fun T => match P.underlying T with | some .bool => true | _ => false; (one, alone P .bool one)
  | .str => let one := fun T => match P.underlying T with | some .string => true | _ => false; (one, alone P .str one)
  | .slice a => let one := fun T => match P.underlying T with | some (.slice e) => Nat.ble (bts a) (P.bytesOf e) && Nat.blt 0 a.size && Nat.beq (P.cellsOf e) a.size && (fitsZ P a).1 e | _ => false; (one, alone P (.slice a) one)
  | .optr a => let one := fun T => match P.underlying T with | some (.pointer e) => Nat.blt 0 a.size && Nat.beq (P.cellsOf e) a.size && (fitsZ P a).1 e | _ => false; (one, alone P (.optr a) one)
  | .rep n a => let one := fun T => match P.underlying T with | some (.array m e) => Nat.beq m n && Nat.beq (P.cellsOf e) a.size && Nat.beq (P.cellsOf T) (n * a.size) && (fitsZ P a).1 e | _ => false; (one, alone P (.rep n a) one)
  | .cat a b =>
    let one := catOne P a b (fitsZ P a).1 (fitsZ P b).2
    (one, fun fs o => match fs with
      | [] => false
      | f :: r => alone P (.cat a b) one (f :: r) o || (Nat.beq f.offset o && Nat.beq (P.cellsOf f.type) a.size && (fitsZ P a).1 f.type && (fitsZ P b).2 r (o + a.size)))
  | .unit => (fun _ => false, fun fs _ => fs.isEmpty)
  | .ptr _ | .fnl _ | .clo _ _ => (fun _ => false, fun _ _ => false)

/-- what every datum that came in keeps -/
def GoodZ : (t : Ty) → TD t → Prop
  | .int k, x => InK k x
  | .bool, _ => True
  | .str, x => ByteArray.size x ≤ reachBytes
  | .unit, _ => True
  | .cat a b, x => GoodZ a x.1 ∧ GoodZ b x.2
  | .rep n a, xs => List.length (α := TD a) xs = n ∧ AllG (α := TD a) (GoodZ a) xs
  | .slice a, xs => List.length (α := TD a) xs * bts a ≤ reachBytes ∧ List.length (α := TD a) xs ≤ maxLen ∧ AllG (α := TD a) (GoodZ a) xs
  | .ptr a, x => GoodZ a x
  | .optr a, x => match x with | none => True | some y => GoodZ a y
  | .fnl _, _ => True
  | .clo _ a, x => GoodZ a x

section
variable {H : Type} {enc : TypeId × Value → H} {P : Program} {w : World} {sp : Nat → Bool} {held : Bool}

def OneZ (enc : TypeId × Value → H) (P : Program) (w : World) (sp : Nat → Bool) (held : Bool) (t : Ty) (one : TypeId → Bool) : Prop :=
  ∀ T cs fuel d, one T = true → DataW.trod enc P w 0 sp held fuel T cs = some d → (∀ n ∈ d.1.weights P T, n ≤ reachBytes) → ∃ x, ReadsC (Rw w) w t x cs ∧ GoodZ t x

def FldZ (enc : TypeId × Value → H) (P : Program) (w : World) (sp : Nat → Bool) (held : Bool) (t : Ty) (flds : List Field → Nat → Bool) : Prop :=
  ∀ fs o (cs : List Value), flds fs o = true → cs.length = o + t.size → (∀ f ∈ fs, ∃ fuel d, DataW.trod enc P w 0 sp held fuel f.type ((cs.drop f.offset).take (P.cellsOf f.type)) = some d ∧ (∀ n ∈ d.1.weights P f.type, n ≤ reachBytes)) →
    ∃ x, ReadsC (Rw w) w t x (cs.drop o) ∧ GoodZ t x

theorem aloneZ_ok {t : Ty} {one : TypeId → Bool} (h : OneZ enc P w sp held t one) : FldZ enc P w sp held t (alone P t one) := by
  intro fs o cs hf hl hr
  unfold alone at hf
  split at hf
  · rename_i f
    simp only [Bool.and_eq_true] at hf
    obtain ⟨⟨h1, h2⟩, h3⟩ := hf
    obtain ⟨fuel, d, hd, hq⟩ := hr f (by simp)
    rw [beq_iff.1 h1, beq_iff.1 h2, List.take_of_length_le (by rw [List.length_drop]; omega)] at hd
    exact h _ _ _ _ h3 hd hq
  · cases hf

theorem row_goodZ {a : Ty} {n : Nat} {q : Nat → List Value → Prop} (h : ∀ i, i < n → ∃ x, (∃ cs, q i cs ∧ ReadsC (Rw w) w a x cs) ∧ GoodZ a x) :
    ∃ xs : List (TD a), xs.length = n ∧ (∀ (i : Nat) x, xs[i]? = some x → ∃ cs, q i cs ∧ ReadsC (Rw w) w a x cs) ∧ AllG (GoodZ a) xs := by
  obtain ⟨xs, h1, h2⟩ := pick_list n h
  refine ⟨xs, h1, fun i x hx => (h2 i x hx).1, fun x hx => ?_⟩
  obtain ⟨i, hi⟩ := List.getElem?_of_mem hx
  exact (h2 i x hi).2

theorem fitsZ_ok : ∀ t : Ty, OneZ enc P w sp held t (fitsZ P t).1 ∧ FldZ enc P w sp held t (fitsZ P t).2
  | .int k => by
    have h : OneZ enc P w sp held (.int k) (fitsZ P (.int k)).1 := by
      intro T cs fuel d h1 h2 hw0
      simp only [fitsZ] at h1
      split at h1
      · rename_i k' hk
        have h1 := of_decide_eq_true h1
        subst h1
        obtain ⟨n, rfl, _, hw⟩ := DataW.trod_int hk h2
        exact ⟨n, rfl, (Lit.wf_int_iff _ _).1 hw⟩
      · cases h1
    exact ⟨h, aloneZ_ok h⟩
  | .bool => by
    have h : OneZ enc P w sp held .bool (fitsZ P .bool).1 := by
      intro T cs fuel d h1 h2 hw0
      simp only [fitsZ] at h1
      split at h1
      · rename_i hk
        obtain ⟨n, rfl, _⟩ := DataW.trod_bool hk h2
        exact ⟨n, rfl, trivial⟩
      · cases h1
    exact ⟨h, aloneZ_ok h⟩
  | .str => by
    have h : OneZ enc P w sp held .str (fitsZ P .str).1 := by
      intro T cs fuel d h1 h2 hw0
      simp only [fitsZ] at h1
      split at h1
      · rename_i hk
        obtain ⟨n, rfl, rfl, hw⟩ := DataW.trod_string hk h2
        exact ⟨n, rfl, by have q := hw0 n.data.toList.length (by simp only [DataW.weights]; exact List.mem_singleton.2 rfl); rwa [Array.length_toList] at q⟩
      · cases h1
    exact ⟨h, aloneZ_ok h⟩
  | .slice a => by
    have ih := (fitsZ_ok a).1
    have h : OneZ enc P w sp held (.slice a) (fitsZ P (.slice a)).1 := by
      intro T cs fuel d h1 h2 hw0
      simp only [fitsZ] at h1
      split at h1
      · rename_i e hk
        simp only [Bool.and_eq_true] at h1
        obtain ⟨⟨⟨s0, s1⟩, s2⟩, s3⟩ := h1
        have s0 := Nat.le_of_ble_eq_true s0
        have s1 := blt_iff.1 s1
        have s2 := beq_iff.1 s2
        rcases DataW.trod_slice hk h2 with ⟨rfl, _⟩ | ⟨A, len, cap, elems, rest, n, _, rfl, rfl, _, hlc, hcm, hel, hget, _⟩
        · exact ⟨([] : List (TD a)), ⟨none, 0, rfl, Nat.le_refl _, fun i x hx => by simp at hx⟩, by simp, Nat.zero_le _, fun x hx => by cases hx⟩
        · simp only [DataW.weights, hk, List.mem_cons, List.mem_append] at hw0
          have hbig := hw0 _ (.inl rfl)
          have at0 : ∀ i, i < len → ∃ c b o, A.add (i * a.size) = ⟨b, o, none⟩ ∧ b < w.heap.size ∧ c.length = a.size ∧ CellsAt w b o c ∧ ∃ x, ReadsC (Rw w) w a x c ∧ GoodZ a x := by
            intro i hi
            have h3 := hget i hi
            have hi' : i < elems.length := by omega
            rw [List.getElem?_eq_getElem hi'] at h3
            obtain ⟨c, hc, hd⟩ := Option.bind_eq_some_iff.1 h3
            rw [s2] at hc
            obtain ⟨b, o, e1, e2, e3, e4⟩ := cells_at hc s1
            exact ⟨c, b, o, e1, e2, e3, e4, ih _ _ _ _ s3 hd fun n hn => hw0 n (.inr (.inl (wall_mem (List.mem_map_of_mem (List.getElem_mem hi')) n hn)))⟩
          have key : ∀ i, i < len → ∃ x, (∃ c, (∃ b o, A = ⟨b, o, none⟩ ∧ b < w.heap.size ∧ c.length = a.size ∧ CellsAt w b (o + i * a.size) c) ∧ ReadsC (Rw w) w a x c) ∧ GoodZ a x := by
            intro i hi
            obtain ⟨_, b0, o0, f1, _⟩ := at0 0 (by omega)
            have f1 : A = ⟨b0, o0, none⟩ := by simpa [Addr.add] using f1
            obtain ⟨c, b, o, e1, e2, e3, e4, x, hx1, hx2⟩ := at0 i hi
            have e5 : b = b0 ∧ o = o0 + i * a.size := by
              subst f1
              unfold Addr.add at e1
              split at e1
              · rename_i h0
                injection e1 with g1 g2 g3
                exact ⟨g1.symm, by rw [h0, ← g2]; rfl⟩
              · injection e1 with g1 g2 g3
                exact ⟨g1.symm, g2.symm⟩
            obtain ⟨e5, e6⟩ := e5
            subst e5; subst e6
            exact ⟨x, ⟨c, ⟨b, o0, f1, e2, e3, e4⟩, hx1⟩, hx2⟩
          obtain ⟨xs, x1, x2, x3⟩ := row_goodZ key
          refine ⟨xs, ⟨some A, cap, by rw [x1], by rw [x1]; exact hlc, fun i x hx => ?_⟩, ?_, by rw [x1]; omega, x3⟩
          · obtain ⟨c, ⟨b, o, e1, e2, e3, e4⟩, hr⟩ := x2 i x hx
            exact ⟨b, o, by rw [e1], e2, c, e3, e4, hr⟩
          · rw [x1]
            refine Nat.le_trans (Nat.mul_le_mul (Nat.le_trans ?_ (Nat.le_add_right _ _)) s0) hbig
            rw [List.length_map, hel]; exact Nat.le_refl _
      · cases h1
    exact ⟨h, aloneZ_ok h⟩
  | .optr a => by
    have ih := (fitsZ_ok a).1
    have h : OneZ enc P w sp held (.optr a) (fitsZ P (.optr a)).1 := by
      intro T cs fuel d h1 h2 hw0
      simp only [fitsZ] at h1
      split at h1
      · rename_i e hk
        simp only [Bool.and_eq_true] at h1
        obtain ⟨⟨s1, s2⟩, s3⟩ := h1
        have s1 := blt_iff.1 s1
        have s2 := beq_iff.1 s2
        rcases DataW.trod_pointer hk h2 with ⟨rfl, _⟩ | ⟨A, c, y, n, _, rfl, rfl, hc, hd⟩
        · exact ⟨(none : Option (TD a)), rfl, trivial⟩
        · rw [s2] at hc
          obtain ⟨b, o, e1, e2, e3, e4⟩ := cells_at hc s1
          simp only [DataW.weights, hk] at hw0
          obtain ⟨x, hx1, hx2⟩ := ih _ _ _ _ s3 hd hw0
          exact ⟨(some x : Option (TD a)), ⟨b, o, by rw [e1], e2, c, e3, e4, hx1⟩, hx2⟩
      · cases h1
    exact ⟨h, aloneZ_ok h⟩
  | .rep n a => by
    have ih := (fitsZ_ok a).1
    have h : OneZ enc P w sp held (.rep n a) (fitsZ P (.rep n a)).1 := by
      intro T cs fuel d h1 h2 hw0
      simp only [fitsZ] at h1
      split at h1
      · rename_i m e hk
        simp only [Bool.and_eq_true] at h1
        obtain ⟨⟨⟨s1, s2⟩, s3⟩, s4⟩ := h1
        have s1 := beq_iff.1 s1
        have s2 := beq_iff.1 s2
        have s3 := beq_iff.1 s3
        subst s1
        obtain ⟨ys, k, _, rfl, hl, hn, hget⟩ := DataW.trod_array hk h2
        simp only [DataW.weights, hk] at hw0
        have key : ∀ i, i < m → ∃ x, (∃ c, c = (cs.drop (i * a.size)).take a.size ∧ ReadsC (Rw w) w a x c) ∧ GoodZ a x := by
          intro i hi
          have h3 := hget i hi
          have hi' : i < ys.length := by omega
          rw [List.getElem?_eq_getElem hi', s2] at h3
          obtain ⟨x, hx1, hx2⟩ := ih _ _ _ _ s4 h3 fun n hn => hw0 n (wall_mem (List.mem_map_of_mem (List.getElem_mem hi')) n hn)
          exact ⟨x, ⟨_, rfl, hx1⟩, hx2⟩
        obtain ⟨xs, x1, x2, x3⟩ := row_goodZ (q := fun i c => c = (cs.drop (i * a.size)).take a.size) key
        refine ⟨xs, ⟨x1, allR_of (sz := a.size) xs cs (by rw [hl, s3, x1]) fun i x hx => ?_⟩, x1, x3⟩
        obtain ⟨c, hc, hr⟩ := x2 i x hx
        rw [← hc]; exact hr
      · cases h1
    exact ⟨h, aloneZ_ok h⟩
  | .unit => by
    refine ⟨fun T cs fuel d h1 => (by cases h1), fun fs o cs hf hl hr => ⟨(), ?_, trivial⟩⟩
    have hl : cs.length = o := by simpa [Ty.size] using hl
    exact List.drop_eq_nil_of_le (by omega)
  | .cat a b => by
    have iha := fitsZ_ok a
    have ihb := fitsZ_ok b
    have join : ∀ (f : Field) (r : List Field) (o : Nat) (cs : List Value), f.offset = o → P.cellsOf f.type = a.size → (fitsZ P a).1 f.type = true → (fitsZ P b).2 r (o + a.size) = true → cs.length = o + (a.size + b.size) →
        (∀ g ∈ f :: r, ∃ fuel d, DataW.trod enc P w 0 sp held fuel g.type ((cs.drop g.offset).take (P.cellsOf g.type)) = some d ∧ (∀ n ∈ d.1.weights P g.type, n ≤ reachBytes)) → ∃ x, ReadsC (Rw w) w (.cat a b) x (cs.drop o) ∧ GoodZ (.cat a b) x := by
      intro f r o cs h1 h2 h3 h4 hl hr
      obtain ⟨fuel, d, hd, hq⟩ := hr f (by simp)
      rw [h1, h2] at hd
      obtain ⟨x, hx1, hx2⟩ := iha.1 _ _ _ _ h3 hd hq
      obtain ⟨y, hy1, hy2⟩ := ihb.2 r (o + a.size) cs h4 (by omega) fun g hg => hr g (by simp [hg])
      refine ⟨(x, y), ⟨(cs.drop o).take a.size, (cs.drop o).drop a.size, (List.take_append_drop _ _).symm, hx1, ?_⟩, hx2, hy2⟩
      rw [List.drop_drop]; exact hy1
    have h : OneZ enc P w sp held (.cat a b) (fitsZ P (.cat a b)).1 := by
      intro T cs fuel d h1 h2 hw0
      simp only [fitsZ, catOne] at h1
      split at h1
      · rename_i fs hk
        split at h1
        · rename_i f r hfs
          simp only [Bool.and_eq_true] at h1
          obtain ⟨⟨⟨⟨s1, s2⟩, s3⟩, s4⟩, s5⟩ := h1
          obtain ⟨xs, n, _, rfl, hl, hn, hget⟩ := DataW.trod_struct hk h2
          simp only [DataW.weights, hk] at hw0
          have := join f r 0 cs (beq_iff.1 s2) (beq_iff.1 s3) s4 (by rw [Nat.zero_add]; exact s5) (by rw [hl, beq_iff.1 s1]; omega) fun g hg => by
            rw [← hfs] at hg
            obtain ⟨i, hi⟩ := List.getElem?_of_mem hg
            have hi2 : fs[i]? = some g := by simpa using hi
            have h3 := hget i g hi2
            have hi' : i < xs.length := by rw [hn]; exact (Array.getElem?_eq_some_iff.1 hi2).1
            rw [List.getElem?_eq_getElem hi'] at h3
            exact ⟨n, _, h3, fun m hm => hw0 m (DataW.weights_mem_each (j := i) (by simp [hi2]) (by simp [hi']) m hm)⟩
          simpa using this
        · cases h1
      · cases h1
    refine ⟨h, fun fs o cs hf hl hr => ?_⟩
    simp only [fitsZ] at hf
    split at hf
    · cases hf
    · rename_i f r
      rw [Bool.or_eq_true] at hf
      rcases hf with hf | hf
      · exact aloneZ_ok h _ _ _ hf hl hr
      · simp only [Bool.and_eq_true] at hf
        obtain ⟨⟨⟨s1, s2⟩, s3⟩, s4⟩ := hf
        exact join f r o cs (beq_iff.1 s1) (beq_iff.1 s2) s3 s4 (by simpa [Ty.size] using hl) hr
  | .ptr _ | .fnl _ | .clo _ _ => ⟨fun T cs fuel d h1 => (by simp [fitsZ] at h1), fun fs o cs hf => (by simp [fitsZ] at hf)⟩
end

section
variable {H : Type} {enc : TypeId × Value → H} {P : Program} {w : World} {sp : Nat → Bool} {held : Bool}
/-- ONE ARGUMENT, as data, with its sizes. -/
theorem cameZ {t : Ty} {T : TypeId} {r : Reach} {bs : Nat} {v : Value} {d : DataW H} {p : List MemPlace} (hf0 : (fits P t).1 T = true) (hf : (fitsZ P t).1 T = true) (ho : Value.okWide P w r bs T v) (h : DataW.Trod enc P w 0 sp held T v d p)
    (hw : ∀ n ∈ d.weights P T, n ≤ reachBytes) :
    ∃ x cs, v = valT t cs ∧ ReadsC (Rw w) w t x cs ∧ GoodZ t x := by
  obtain ⟨fuel, h⟩ := h
  obtain ⟨x, hx, hg⟩ := (fitsZ_ok t).1 _ _ _ _ hf h hw
  exact ⟨x, _, (shape hf0 ho).symm, hx, hg⟩
end
end Sx
