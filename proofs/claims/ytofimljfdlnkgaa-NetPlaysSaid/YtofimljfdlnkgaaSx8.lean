/- A symbolic executor for the model's code: comparisons, addresses, parts, built values. -/
import Derived.Test.YtofimljfdlnkgaaSx7
import Derived.Laws.StructEq
import Derived.WalkSpells
namespace Sx
open Go Go.RowKit

def ofO {α : Type} (why : String) : Option α → Tree α
  | some x => .leaf x
  | none => .fail why

theorem ofO_reach {α : Type} {why : String} {x : Option α} {y : α} (h : (ofO why x).reach y) : x = some y := by
  cases x with
  | none => exact h.elim
  | some z => cases h; rfl

/-! ### equality of structs and arrays -/
def seg (cs : List SV) (off n : Nat) : List SV := (cs.drop off).take n

def eqFields (P : Program) (f : TypeId → List SV → List SV → Option Bool) (xs ys : List SV) : List Field → Option Bool
  | [] => some true
  | fl :: r =>
    if fl.name = "_" then none else
    match sizeT P fl.type with
    | none => none
    | some n =>
      bif Nat.ble (fl.offset + n) xs.length && Nat.ble (fl.offset + n) ys.length then
        match f fl.type (seg xs fl.offset n) (seg ys fl.offset n), eqFields P f xs ys r with
        | some a, some b => some (a && b)
        | _, _ => none
      else none

def eqElems (f : List SV → List SV → Option Bool) (n : Nat) : Nat → List SV → List SV → Option Bool
  | 0, _, _ => some true
  | c + 1, xs, ys =>
    match f (xs.take n) (ys.take n), eqElems f n c (xs.drop n) (ys.drop n) with
    | some a, some b => some (a && b)
    | _, _ => none

def eqC (P : Program) : Nat → TypeId → List SV → List SV → Option Bool
  | 0, _, _, _ => none
  | d + 1, t, xs, ys =>
    match P.underlying t with
    | some (.int _) =>
      match xs, ys with
      | [x], [y] =>
        match numOf (.one x), numOf (.one y) with
        | some (_, k, a), some (_, k', b) => if k = k' then some (a == b) else none
        | _, _ => none
      | _, _ => none
    | some .bool =>
      match xs, ys with
      | [x], [y] =>
        match boolOf (.one x), boolOf (.one y) with
        | some (_, a), some (_, b) => some (a == b)
        | _, _ => none
      | _, _ => none
    | some .string =>
      match xs, ys with
      | [.str a], [.str b] => some (a.toList == b.toList)
      | _, _ => none
    | some (.struct fields) => if P.stoodInHeld t then none else eqFields P (eqC P d) xs ys fields.toList
    | some (.array len elem) =>
      match sizeT P elem with
      | none => none
      | some n => bif Nat.beq xs.length (len * n) && Nat.beq ys.length (len * n) then eqElems (eqC P d elem) n len xs ys else none
    | _ => none

section
variable {P : Program} {w : World} {ρ : Env}

def valOf (P : Program) (ρ : Env) (t : TypeId) (cs : List SV) : Value := if isAggT P t then .agg (dens ρ cs).toArray else (dens ρ cs).headD undef

theorem run_part {t : TypeId} {cs : List SV} {off n : Nat} (hs : sizeT P t = some n) (hl : off + n ≤ cs.length) (h1 : isAggT P t = false → n = 1) :
    (part t (dens ρ cs).toArray off).run P w = .ok (valOf P ρ t (seg cs off n)) w := by
  unfold part valOf
  simp only [Sem.run_bind, run_isAgg hs, Result.andThen_ok]
  cases hg : isAggT P t with
  | true =>
    simp only [if_true, Sem.run_bind, run_sizeOf' hs, Result.andThen_ok, Sem.run_pure]
    congr 2
    simp only [seg, dens, List.map_take, List.map_drop, List.extract_toArray, List.extract_eq_take_drop]
    rw [Nat.add_sub_cancel_left]
  | false =>
    have e := h1 hg
    subst e
    have hlt : off < (dens ρ cs).length := by simp; omega
    have this : (dens ρ cs).toArray[off]? = some (dens ρ cs)[off] := by simp
    have hd : (dens ρ (seg cs off 1)).headD undef = (dens ρ cs)[off] := by
      have e : dens ρ (seg cs off 1) = ((dens ρ cs).drop off).take 1 := by simp [dens, seg]
      rw [e, List.drop_eq_getElem_cons hlt]; rfl
    simp only [Bool.false_eq_true, if_false, this, Sem.run_pure, hd]

/-- scalars of one cell: what eqC tells of a type that is no struct and no array -/
theorem eqC_scalar {d : Nat} {t : TypeId} {xs ys : List SV} {b : Bool} (h : eqC P (d + 1) t xs ys = some b) (hg : isAggT P t = false) (D : Nat) :
    xs.length = 1 ∧ ys.length = 1 ∧ (Op.equalIn (D + 1) t (valOf P ρ t xs) (valOf P ρ t ys)).run P w = .ok b w := by
  unfold eqC at h
  unfold valOf
  rw [hg]
  unfold isAggT at hg
  split at h
  · rename_i k hu
    split at h
    · rename_i x y
      split at h
      · rename_i c1 k1 a c2 k2 b' h1 h2
        split at h
        · rename_i e
          injection h with h; subst h; subst e
          have e1 : x.den ρ = .int k1 a := numOf_den (ρ := ρ) h1
          have e2 : y.den ρ = .int k1 b' := numOf_den (ρ := ρ) h2
          refine ⟨rfl, rfl, ?_⟩
          simp only [Bool.false_eq_true, if_false, dens, List.map_cons, List.map_nil, List.headD_cons, e1, e2]
          exact run_equalIn_int w D t k1 k a b' hu
        · cases h
      · cases h
    · cases h
  · rename_i hu
    split at h
    · rename_i x y
      split at h
      · rename_i c1 a c2 b' h1 h2
        injection h with h; subst h
        have e1 : x.den ρ = .bool a := boolOf_den (ρ := ρ) h1
        have e2 : y.den ρ = .bool b' := boolOf_den (ρ := ρ) h2
        refine ⟨rfl, rfl, ?_⟩
        simp only [Bool.false_eq_true, if_false, dens, List.map_cons, List.map_nil, List.headD_cons, e1, e2]
        exact run_equalIn_bool' w D t a b' hu
      · cases h
    · cases h
  · rename_i hu
    split at h
    · rename_i a b'
      injection h with h; subst h
      refine ⟨rfl, rfl, ?_⟩
      simp only [Bool.false_eq_true, if_false, dens, List.map_cons, List.map_nil, List.headD_cons, SV.den]
      exact run_equalIn_string w D t a b' hu
    · cases h
  · rename_i hu; rw [hu] at hg; cases hg
  · rename_i hu; rw [hu] at hg; cases hg
  · cases h

theorem eqFields_sound {f : TypeId → List SV → List SV → Option Bool} {D : Nat}
    (hf : ∀ t xs ys b n, sizeT P t = some n → xs.length = n → ys.length = n → f t xs ys = some b → (isAggT P t = false → n = 1) ∧ ∀ w, (Op.equalIn D t (valOf P ρ t xs) (valOf P ρ t ys)).run P w = .ok b w) (xs ys : List SV) :
    ∀ (fs : List Field) (b : Bool), eqFields P f xs ys fs = some b → ∀ w, (Op.eqFields D (dens ρ xs).toArray (dens ρ ys).toArray fs).run P w = .ok b w
  | [], b, h, w => by simp only [eqFields] at h; injection h with h; subst h; rfl
  | fl :: r, b, h, w => by
    simp only [eqFields] at h
    by_cases hn : fl.name = "_"
    · rw [if_pos hn] at h; cases h
    · rw [if_neg hn] at h
      cases hs : sizeT P fl.type with
      | none => rw [hs] at h; cases h
      | some n =>
        rw [hs] at h
        simp only at h
        cases hb : Nat.ble (fl.offset + n) xs.length && Nat.ble (fl.offset + n) ys.length with
        | false => rw [hb] at h; cases h
        | true =>
          rw [hb] at h
          simp only [cond_true] at h
          rw [Bool.and_eq_true] at hb
          have l1 := Nat.le_of_ble_eq_true hb.1
          have l2 := Nat.le_of_ble_eq_true hb.2
          cases h1 : f fl.type (seg xs fl.offset n) (seg ys fl.offset n) with
          | none => rw [h1] at h; simp at h
          | some a =>
            rw [h1] at h
            cases h2 : eqFields P f xs ys r with
            | none => rw [h2] at h; simp at h
            | some c =>
              rw [h2] at h
              simp only at h
              injection h with h; subst h
              obtain ⟨g1, g2⟩ := hf fl.type _ _ a n hs (by simp [seg]; omega) (by simp [seg]; omega) h1
              simp only [Op.eqFields, if_pos (show fl.name ≠ "_" from hn), Sem.run_bind, run_part hs l1 g1, run_part hs l2 g1, Result.andThen_ok, g2, Sem.run_ite]
              cases a with
              | false => simp
              | true => simp only [Bool.not_true, Bool.false_eq_true, if_false, Bool.true_and]; exact eqFields_sound hf xs ys r c h2 w

theorem eqElems_sound {f : List SV → List SV → Option Bool} {elem : TypeId} {n D : Nat} (hs : sizeT P elem = some n)
    (hf : ∀ xs ys b, xs.length = n → ys.length = n → f xs ys = some b → (isAggT P elem = false → n = 1) ∧ ∀ w, (Op.equalIn D elem (valOf P ρ elem xs) (valOf P ρ elem ys)).run P w = .ok b w) (xs ys : List SV) (len : Nat) :
    ∀ (c i : Nat) (b : Bool), i + c = len → xs.length = len * n → ys.length = len * n → eqElems f n c (xs.drop (i * n)) (ys.drop (i * n)) = some b → ∀ w,
      (forIn (m := Sem) (List.range' i c) ((none, ()) : Option Bool × Unit) (fun i _ => do
        if (!(← Op.equalIn D elem (← part elem (dens ρ xs).toArray (i * n)) (← part elem (dens ρ ys).toArray (i * n)))) = true then
          pure (ForInStep.done (some false, ()))
        else pure (ForInStep.yield (none, ())))).run P w = .ok ((if b then none else some false), ()) w
  | 0, i, b, _, _, _, h, w => by
    simp only [eqElems] at h; injection h with h; subst h
    simp
  | c + 1, i, b, hi, hx, hy, h, w => by
    simp only [eqElems] at h
    have hm : i * n + n ≤ len * n := by rw [← Nat.succ_mul]; exact Nat.mul_le_mul_right _ (by omega)
    cases h1 : f ((xs.drop (i * n)).take n) ((ys.drop (i * n)).take n) with
    | none => rw [h1] at h; simp at h
    | some a =>
      rw [h1] at h
      cases h2 : eqElems f n c ((xs.drop (i * n)).drop n) ((ys.drop (i * n)).drop n) with
      | none => rw [h2] at h; simp at h
      | some b' =>
        rw [h2] at h
        simp only at h
        injection h with h; subst h
        obtain ⟨g1, g2⟩ := hf _ _ a (by simp; omega) (by simp; omega) h1
        have r1 := run_part (P := P) (w := w) (ρ := ρ) (cs := xs) hs (show i * n + n ≤ xs.length by omega) g1
        have r2 := run_part (P := P) (w := w) (ρ := ρ) (cs := ys) hs (show i * n + n ≤ ys.length by omega) g1
        rw [List.range'_succ]
        simp only [List.forIn_cons, Sem.run_bind, r1, r2, Result.andThen_ok, seg, g2, Sem.run_ite]
        cases a with
        | false => simp
        | true =>
          simp only [Bool.not_true, Bool.false_eq_true, if_false, Sem.run_pure, Result.andThen_ok, Bool.true_and]
          rw [List.drop_drop, List.drop_drop] at h2
          rw [← Nat.succ_mul] at h2
          exact eqElems_sound hs hf xs ys len c (i + 1) b' (by omega) hx hy h2 w

theorem eqC_sound : ∀ (d : Nat) (t : TypeId) (xs ys : List SV) (b : Bool) (n : Nat), sizeT P t = some n → xs.length = n → ys.length = n → eqC P d t xs ys = some b → ∀ D, d ≤ D →
    (isAggT P t = false → n = 1) ∧ ∀ w, (Op.equalIn D t (valOf P ρ t xs) (valOf P ρ t ys)).run P w = .ok b w
  | 0, _, _, _, _, _, _, _, _, h, _, _ => by simp [eqC] at h
  | d + 1, t, xs, ys, b, n, hs, hx, hy, h, D, hD => by
    obtain ⟨D, rfl⟩ : ∃ m, D = m + 1 := ⟨D - 1, by omega⟩
    cases hg : isAggT P t with
    | false =>
      refine ⟨fun _ => ?_, fun w => (eqC_scalar h hg D).2.2⟩
      rw [← hx]; exact (eqC_scalar (P := P) (w := default) (ρ := ρ) h hg D).1
    | true =>
      refine ⟨by simp, fun w => ?_⟩
      unfold valOf
      rw [hg]
      simp only [if_true]
      unfold eqC at h
      unfold isAggT at hg
      split at h
      · rename_i hu; rw [hu] at hg; cases hg
      · rename_i hu; rw [hu] at hg; cases hg
      · rename_i hu; rw [hu] at hg; cases hg
      · rename_i fields hu
        split at h
        · cases h
        · rename_i hp
          have hfl : P.fieldsOf t = fields := by simp [Program.fieldsOf, hu]
          rw [run_equalIn_struct w D t _ _ (by rw [hfl]; exact hu) (by simpa using hp), hfl]
          exact eqFields_sound (fun t xs ys b n h1 h2 h3 h4 => eqC_sound d t xs ys b n h1 h2 h3 h4 D (by omega)) xs ys fields.toList b h w
      · rename_i len elem hu
        cases he : sizeT P elem with
        | none => rw [he] at h; cases h
        | some m =>
          rw [he] at h
          simp only at h
          cases hb : Nat.beq xs.length (len * m) && Nat.beq ys.length (len * m) with
          | false => rw [hb] at h; cases h
          | true =>
            rw [hb] at h
            simp only [cond_true] at h
            rw [Bool.and_eq_true] at hb
            have := eqElems_sound (ρ := ρ) (D := D) he (fun xs ys b h1 h2 h3 => eqC_sound d elem xs ys b m he h1 h2 h3 D (by omega)) xs ys len len 0 b (by omega) (beq_iff.1 hb.1) (beq_iff.1 hb.2) (by simpa using h) w
            simp only [Op.equalIn, Sem.run_bind, run_underlying hu, Result.andThen_ok, run_sizeOf' he, Std.Legacy.Range.forIn_eq_forIn_range', Std.Legacy.Range.size]
            simp only [Nat.sub_zero, Nat.add_sub_cancel, Nat.div_one]
            rw [this]
            cases b <;> simp
      · cases h
end
end Sx
