/- A symbolic executor for the model's code: indexes, parts of values, built values. -/
import Derived.Test.YtofimljfdlnkgaaSx9
namespace Sx
open Go Go.RowKit

section
variable {P : Program} {o : Oper} {a : Act} {R : Nat → Prop} {ρ : Env} {gh : Gh} {next : Nat} {w : World} {ev : Operand → Option Tv}

def rowLen (gh : Gh) (id : Nat) : Option (Nat × Nat) :=
  match look gh id with
  | some (.ro t xs) | some (.own t xs) => some (t.size, xs.length)
  | _ => none

theorem rowLen_sound (hG : RepG R ρ gh w) {id sz n : Nat} (h : rowLen gh id = some (sz, n)) : (ρ id).len = n ∧ n ≤ (ρ id).cap ∧ (0 < n → ∃ b o, (ρ id).addr = some ⟨b, o, none⟩) := by
  unfold rowLen at h
  cases hg : look gh id with
  | none => rw [hg] at h; cases h
  | some g =>
    rw [hg] at h
    have hf := hG.facts id g hg
    cases g with
    | blk _ => cases h
    | rob _ => cases h
    | opt _ _ => cases h
    | pin _ _ => cases h
    | obj _ _ _ => cases h
    | ro t xs =>
      simp only at h
      injection h with h; injection h with h1 h2; subst h1; subst h2
      refine ⟨hf.1.symm, hf.2.1, fun h0 => ?_⟩
      obtain ⟨b, o, ha, _⟩ := hf.2.2 0 _ (List.getElem?_eq_getElem h0)
      exact ⟨b, o, ha⟩
    | own t xs =>
      simp only at h
      injection h with h; injection h with h1 h2; subst h1; subst h2
      refine ⟨hf.1.symm, hf.2.1, fun h0 => ?_⟩
      rcases hf.2.2 with ⟨_, e, _⟩ | ⟨b, oo, cs, T, ha, _⟩
      · subst e; simp at h0
      · exact ⟨b, oo, ha⟩

/-- the i-th of n variables of sz cells at a place -/
def idxIn (id off : Nat) (c : Bool) (n : Int) (sz len next : Nat) : Tree Delta :=
  match c with
  | true => bif decide (0 ≤ n) && decide (n < (len : Int)) then .leaf ⟨.one (.ptr id (off + n.toNat * sz)), [], next⟩ else .fail "index out of range"
  | false => .req (0 ≤ n ∧ n < (len : Int)) (.leaf ⟨.one (.elt id off n sz 0 len), [], next⟩)

def stepIdx (P : Program) (t : TypeId) (x i : Option Tv) (gh : Gh) (next : Nat) : Tree Delta :=
  match x, i.bind numOf with
  | some (.one s), some (c, _, n) =>
    match P.underlying t, s with
    | some (.array len elem), .ptr id off =>
      match sizeT P elem with
      | some sz => bif sureP gh (.ptr id off) then idxIn id off c n sz len next else .fail "index nil "
      | none => .fail "index"
    | some (.slice elem), .row id =>
      match sizeT P elem, rowLen gh id with
      | some sz, some (sz', len) => bif Nat.beq sz sz' then .req (0 ≤ n ∧ n < (len : Int)) (.leaf ⟨.one (.elt id 0 n sz 0 0), [], next⟩) else .fail "index another size"
      | _, _ => .fail "index no row"
    | some (.slice elem), .sub id off len _ =>
      match sizeT P elem with
      | some sz => bif sureP gh (.ptr id off) then idxIn id off c n sz len next else .fail "index nil "
      | none => .fail "index"
    | some (.slice elem), .win id lo m sz0 =>
      match sizeT P elem, rowLen gh id with
      | some sz, some (sz', len) => bif Nat.beq sz sz' && Nat.beq sz0 sz then .req (0 ≤ n ∧ n < ((min m (len - lo) : Nat) : Int)) (.leaf ⟨.one (.elt id 0 ((lo : Int) + n) sz 0 0), [], next⟩) else .fail "index another size"
      | _, _ => .fail "index no row"
    | _, _ => .fail "index no row"
  | _, _ => .fail "index"

theorem idxIn_sound {id off sz len : Nat} {c : Bool} {n : Int} {d : Delta} (h : (idxIn id off c n sz len next).reach d) :
    0 ≤ n ∧ n < (len : Int) ∧ d.upd = [] ∧ d.next = next ∧ d.val.den ρ = .pointer (ρ.at id (off + n.toNat * sz)) := by
  unfold idxIn at h
  split at h
  · cases hb : decide (0 ≤ n) && decide (n < (len : Int)) with
    | false => rw [hb] at h; exact h.elim
    | true =>
      rw [hb] at h
      cases h
      rw [Bool.and_eq_true] at hb
      exact ⟨of_decide_eq_true hb.1, of_decide_eq_true hb.2, rfl, rfl, rfl⟩
  · obtain ⟨h0, h⟩ := h
    cases h
    exact ⟨h0.1, h0.2, rfl, rfl, rfl⟩

theorem stepIdx_ok {d : Delta} {t : TypeId} {x y : Operand} (ho : o.op = .indexAddr t x y) (hC : Ctx a R ρ gh next d.next w ev) (h : (stepIdx P t (ev x) (ev y) gh next).reach d) : OpOK P o a R ρ gh next w d := by
  unfold stepIdx at h
  split at h
  · rename_i s c k n hx hy
    cases hv : ev y with
    | none => rw [hv] at hy; cases hy
    | some vy =>
      rw [hv] at hy
      simp only [Option.bind] at hy
      have ex := hC.val x _ hx
      have ey := hC.val y _ hv
      rw [numOf_den hy] at ey
      simp only [Tv.den] at ex
      have fin : ∀ V, d.upd = [] → d.next = next → d.val.den ρ = V → (Instr.indexAt t (s.den ρ) (.int k n)).run P w = .ok V w → OpOK P o a R ρ gh next w d := by
        intro V h1 h2 h3 h4
        obtain ⟨v, u, nn⟩ := d
        simp only at h1 h2 h3
        subst h1; subst h2
        refine OpOK.value hC.rep ?_
        simp only [execOp, ho, ex, ey, Sem.run_bind, h4, Result.andThen_ok, Sem.run_pure, h3]
      split at h
      · rename_i len elem id off hu
        split at h
        · rename_i sz hs
          cases hb : sureP gh (.ptr id off) with
          | false => rw [hb] at h; exact h.elim
          | true =>
            rw [hb] at h
            obtain ⟨h0, h1, h2, h3, h4⟩ := idxIn_sound (ρ := ρ) h
            obtain ⟨b, oo, hd⟩ := sureP_sound hC.rep hb
            refine fin _ h2 h3 h4 ?_
            rw [hd]
            have hat : ρ.at id (off + n.toNat * sz) = some ⟨b, oo + n.toNat * sz, none⟩ := by
              simp only [SV.den, Env.at] at hd ⊢
              cases ha : (ρ id).addr with
              | none => rw [ha] at hd; simp at hd
              | some ad => rw [ha] at hd; simp at hd ⊢; omega
            simp only [Instr.indexAt, asIntOf, Sem.run_bind, Sem.run_pure, Result.andThen_ok, run_underlying hu, Instr.sureAddr, if_pos (show 0 ≤ n ∧ n < (len : Int) from ⟨h0, h1⟩), run_sizeOf' hs, addr_add, hat]
        · exact h.elim
      · rename_i elem id hu
        split at h
        · rename_i sz sz' len hs hr
          cases hb : Nat.beq sz sz' with
          | false => rw [hb] at h; exact h.elim
          | true =>
            rw [hb] at h
            obtain ⟨⟨h0, h1⟩, h⟩ := h
            cases h
            obtain ⟨e1, _, e2⟩ := rowLen_sound hC.rep hr
            obtain ⟨b, oo, ha⟩ := e2 (by omega)
            refine fin _ rfl rfl rfl ?_
            simp only [Tv.den, SV.den, ha, e1, Env.at, Instr.indexAt, asIntOf, Sem.run_bind, Sem.run_pure, Result.andThen_ok, run_underlying hu, if_pos (show 0 ≤ n ∧ n < (len : Int) from ⟨h0, h1⟩), run_sizeOf' hs, addr_add, Option.map_some]
            simp
        · exact h.elim
      · rename_i elem id off len cap hu
        split at h
        · rename_i sz hs
          cases hb : sureP gh (.ptr id off) with
          | false => rw [hb] at h; exact h.elim
          | true =>
            rw [hb] at h
            obtain ⟨h0, h1, h2, h3, h4⟩ := idxIn_sound (ρ := ρ) h
            obtain ⟨b, oo, hd⟩ := sureP_sound hC.rep hb
            refine fin _ h2 h3 h4 ?_
            have hd' : ρ.at id off = some ⟨b, oo, none⟩ := by simpa [SV.den] using hd
            have hat : ρ.at id (off + n.toNat * sz) = some ⟨b, oo + n.toNat * sz, none⟩ := by
              simp only [Env.at] at hd' ⊢
              cases ha : (ρ id).addr with
              | none => rw [ha] at hd'; simp at hd'
              | some ad => rw [ha] at hd'; simp at hd' ⊢; omega
            simp only [SV.den, hd', Instr.indexAt, asIntOf, Sem.run_bind, Sem.run_pure, Result.andThen_ok, run_underlying hu, if_pos (show 0 ≤ n ∧ n < (len : Int) from ⟨h0, h1⟩), run_sizeOf' hs, addr_add, hat]
        · exact h.elim
      · rename_i elem id lo m sz0 hu
        split at h
        · rename_i sz sz' len hs hr
          cases hb : Nat.beq sz sz' && Nat.beq sz0 sz with
          | false => rw [hb] at h; exact h.elim
          | true =>
            rw [hb] at h
            obtain ⟨⟨h0, h1⟩, h⟩ := h
            cases h
            rw [Bool.and_eq_true] at hb
            have hz := beq_iff.1 hb.2
            subst hz
            obtain ⟨e1, e0, e2⟩ := rowLen_sound hC.rep hr
            obtain ⟨b, oo, ha⟩ := e2 (by omega)
            refine fin _ rfl rfl rfl ?_
            have hl : ¬ (ρ id).cap ≤ lo := by omega
            have hn : ((lo : Int) + n).toNat = lo + n.toNat := by omega
            have hm : (0 : Int) ≤ n ∧ n < ((min m (len - lo) : Nat) : Int) := ⟨h0, h1⟩
            simp only [Tv.den, SV.den, ha, e1, Env.at, Instr.indexAt, asIntOf, Sem.run_bind, Sem.run_pure, Result.andThen_ok, run_underlying hu, if_neg hl, if_pos hm, run_sizeOf' hs, addr_add, Option.map_some, hn, Nat.add_mul]
            simp [Nat.add_assoc]
        · exact h.elim
      · exact h.elim
  · exact h.elim

/-! ### parts of values -/
def stepPart (P : Program) (t : TypeId) (cs : List SV) (off next : Nat) : Tree Delta :=
  match sizeT P t with
  | some n => bif Nat.ble (off + n) cs.length && (isAggT P t || Nat.beq n 1) then
      match mkTv (isAggT P t) (seg cs off n) with
      | some v => .leaf ⟨v, [], next⟩
      | none => .fail "part"
    else .fail "part"
  | none => .fail "part"

theorem stepPart_sound {t : TypeId} {cs : List SV} {off : Nat} {d : Delta} (h : (stepPart P t cs off next).reach d) : d.upd = [] ∧ d.next = next ∧ (part t (dens ρ cs).toArray off).run P w = .ok (d.val.den ρ) w := by
  unfold stepPart at h
  split at h
  · rename_i n hs
    cases hb : Nat.ble (off + n) cs.length && (isAggT P t || Nat.beq n 1) with
    | false => rw [hb] at h; exact h.elim
    | true =>
      rw [hb] at h
      simp only [cond_true] at h
      simp only [Bool.and_eq_true, Bool.or_eq_true] at hb
      split at h
      · rename_i v hv
        cases h
        refine ⟨rfl, rfl, ?_⟩
        rw [run_part hs (Nat.le_of_ble_eq_true hb.1) (fun hg => by rcases hb.2 with h | h; · rw [hg] at h; cases h
                                                                   · exact beq_iff.1 h)]
        rw [mkTv_den hv]; rfl
      · exact h.elim
  · exact h.elim

def stepFieldV (P : Program) (t : TypeId) (x : Option Tv) (f next : Nat) : Tree Delta :=
  match x, (fieldsT P t).bind (·[f]?) with
  | some (.agg cs), some fl => stepPart P fl.type cs fl.offset next
  | _, _ => .fail "field"

theorem stepFieldV_ok {d : Delta} {t : TypeId} {x : Operand} {f : Nat} (ho : o.op = .field t x f) (hC : Ctx a R ρ gh next d.next w ev) (h : (stepFieldV P t (ev x) f next).reach d) : OpOK P o a R ρ gh next w d := by
  unfold stepFieldV at h
  split at h
  · rename_i cs fl hv hfl
    have hx := hC.val x _ hv
    obtain ⟨h1, h2, h3⟩ := stepPart_sound (ρ := ρ) (w := w) h
    obtain ⟨v, u, nn⟩ := d
    simp only at h1 h2
    subst h1; subst h2
    refine OpOK.value hC.rep ?_
    unfold fieldsT at hfl
    split at hfl
    · rename_i fs hu
      simp only [Option.bind] at hfl
      simp only [execOp, ho, hx, Tv.den, Instr.field, Sem.run_bind, run_underlying hu, Result.andThen_ok, hfl, asAgg, Sem.run_pure, h3]
    · cases hfl
  · exact h.elim

/-- a byte of a string, as a number -/
def byteAt (s : ByteArray) (i : Int) : Int := ((s.data.toList.getD i.toNat 0).toNat : Int)

def stepIndexV (P : Program) (t : TypeId) (x i : Option Tv) (next : Nat) : Tree Delta :=
  match x, i.bind numOf with
  | some (.agg cs), some (c, _, n) =>
    match P.underlying t with
    | some (.array len elem) =>
      match sizeT P elem with
      | some sz =>
        match c with
        | true => bif decide (0 ≤ n) && decide (n < (len : Int)) then stepPart P elem cs (n.toNat * sz) next else .fail "index out of range"
        | false =>
          bif Nat.beq cs.length (len * sz) && (isAggT P elem || Nat.beq sz 1) then
            match selN n sz len sz cs with
            | some r =>
              match mkTv (isAggT P elem) r with
              | some v => .req (0 ≤ n ∧ n < (len : Int)) (.leaf ⟨v, [], next⟩)
              | none => .fail "index"
            | none => .fail "index unlike cells"
          else .fail "index"
      | none => .fail "index"
    | _ => .fail "index"
  | some (.one (.str s)), some (_, _, n) =>
    match P.underlying t with
    | some .string => .req (0 ≤ n ∧ n < (s.size : Int)) (.leaf ⟨.one (.int .u8 (byteAt s n)), [], next⟩)
    | _ => .fail "index"
  | _, _ => .fail "index"

theorem stepIndexV_ok {d : Delta} {t : TypeId} {x y : Operand} (ho : o.op = .index t x y) (hC : Ctx a R ρ gh next d.next w ev) (h : (stepIndexV P t (ev x) (ev y) next).reach d) : OpOK P o a R ρ gh next w d := by
  unfold stepIndexV at h
  have fin : ∀ {vx : Tv} {vy : Tv} {c : Bool} {k : IntKind} {n : Int}, ev x = some vx → (ev y).bind numOf = some (c, k, n) → d.upd = [] → d.next = next →
      (Instr.index t (vx.den ρ) (.int k n)).run P w = .ok (d.val.den ρ) w → OpOK P o a R ρ gh next w d := by
    intro vx vy c k n hx hy h1 h2 h4
    cases hv : ev y with
    | none => rw [hv] at hy; cases hy
    | some vy =>
      rw [hv] at hy
      simp only [Option.bind] at hy
      have ex := hC.val x _ hx
      have ey := hC.val y _ hv
      rw [numOf_den hy] at ey
      obtain ⟨v, u, nn⟩ := d
      simp only at h1 h2
      subst h1; subst h2
      refine OpOK.value hC.rep ?_
      simp only [execOp, ho, ex, ey, Sem.run_bind, h4, Result.andThen_ok, Sem.run_pure]
  split at h
  · rename_i cs c k n hx hy
    split at h
    · rename_i len elem hu
      split at h
      · rename_i sz hs
        split at h
        · cases hb : decide (0 ≤ n) && decide (n < (len : Int)) with
          | false => rw [hb] at h; exact h.elim
          | true =>
            rw [hb] at h
            rw [Bool.and_eq_true] at hb
            obtain ⟨h1, h2, h3⟩ := stepPart_sound (ρ := ρ) (w := w) h
            refine fin (vy := .undef) hx hy h1 h2 ?_
            simp only [Instr.index, Tv.den, asIntOf, Sem.run_bind, Sem.run_pure, Result.andThen_ok, run_underlying hu, if_pos (show 0 ≤ n ∧ n < (len : Int) from ⟨of_decide_eq_true hb.1, of_decide_eq_true hb.2⟩), run_sizeOf' hs, h3]
        · cases hb : Nat.beq cs.length (len * sz) && (isAggT P elem || Nat.beq sz 1) with
          | false => rw [hb] at h; exact h.elim
          | true =>
            rw [hb] at h
            simp only [cond_true] at h
            simp only [Bool.and_eq_true, Bool.or_eq_true] at hb
            have hl := beq_iff.1 hb.1
            split at h
            · rename_i r hr
              split at h
              · rename_i v hv
                obtain ⟨⟨h0, h1⟩, h⟩ := h
                cases h
                have e : len * sz = (len - 1) * sz + sz := by
                  conv => lhs; rw [show len = (len - 1) + 1 by omega]
                  rw [Nat.succ_mul]
                obtain ⟨q1, q2, q3⟩ := selN_sound (ρ := ρ) (show n.toNat < len by omega) hr (by omega)
                have hm : n.toNat * sz + sz ≤ len * sz := by rw [← Nat.succ_mul]; exact Nat.mul_le_mul_right _ (by omega)
                have hp := run_part (P := P) (w := w) (ρ := ρ) (cs := cs) (off := n.toNat * sz) hs (by omega) (fun hg => by rcases hb.2 with h | h; · rw [hg] at h; cases h
                                                                                                                            · exact beq_iff.1 h)
                have hseg : dens ρ (seg cs (n.toNat * sz) sz) = dens ρ r := by
                  apply List.ext_getElem?
                  intro m
                  by_cases hm' : m < sz
                  · rw [q3 m hm']
                    simp only [seg, dens, List.map_take, List.map_drop]
                    rw [List.getElem?_take, if_pos hm', List.getElem?_drop]
                  · rw [List.getElem?_eq_none (by simp [seg]; omega), List.getElem?_eq_none (by simp; omega)]
                refine fin (vy := .undef) hx hy rfl rfl ?_
                have hfin : valOf P ρ elem (seg cs (n.toNat * sz) sz) = v.den ρ := by rw [mkTv_den hv]; unfold valOf; rw [hseg]
                rw [← hfin]
                simp only [Instr.index, Tv.den, asIntOf, Sem.run_bind, Sem.run_pure, Result.andThen_ok, run_underlying hu, if_pos (show 0 ≤ n ∧ n < (len : Int) from ⟨h0, h1⟩), run_sizeOf' hs, hp]
              · exact h.elim
            · exact h.elim
      · exact h.elim
    · exact h.elim
  · rename_i s c k n hx hy
    split at h
    · rename_i hu
      obtain ⟨⟨h0, h1⟩, h⟩ := h
      cases h
      refine fin (vy := .undef) hx hy rfl rfl ?_
      have hlt : n.toNat < s.size := by omega
      have hg : s[n.toNat]? = some (s.data.toList.getD n.toNat 0) := by
        have hlt' : n.toNat < s.data.toList.length := by simpa using hlt
        rw [List.getD, List.getElem?_eq_getElem hlt']
        simp only [Option.getD_some]
        rw [getElem?_pos s n.toNat hlt]
        rfl
      simp only [Instr.index, Tv.den, SV.den, asIntOf, Sem.run_bind, Sem.run_pure, Result.andThen_ok, run_underlying hu, if_pos h0, hg, byteAt]
    · exact h.elim
  · exact h.elim

def stepExtract (x : Option Tv) (i next : Nat) : Tree Delta :=
  match x with
  | some (.tup vs) =>
    match vs[i]? with
    | some (true, cs) => .leaf ⟨.agg cs, [], next⟩
    | some (false, [c]) => .leaf ⟨.one c, [], next⟩
    | _ => .fail "extract"
  | _ => .fail "extract"

theorem stepExtract_ok {d : Delta} {x : Operand} {i : Nat} (ho : o.op = .extract x i) (hC : Ctx a R ρ gh next d.next w ev) (h : (stepExtract (ev x) i next).reach d) : OpOK P o a R ρ gh next w d := by
  unfold stepExtract at h
  split at h
  · rename_i vs hv
    have hx := hC.val x _ hv
    have key : ∀ p, vs[i]? = some p → (Instr.extract (Tv.den ρ (.tup vs)) i).run P w = .ok (denPart ρ p) w := by
      intro p hp
      simp only [Tv.den, Instr.extract]
      have : (vs.map (denPart ρ)).toArray[i]? = some (denPart ρ p) := by simp [hp]
      rw [this]; rfl
    split at h
    · rename_i cs hp
      cases h
      refine OpOK.value hC.rep ?_
      simp only [execOp, ho, hx, Sem.run_bind, key _ hp, Result.andThen_ok, Sem.run_pure]
      rfl
    · rename_i c hp
      cases h
      refine OpOK.value hC.rep ?_
      simp only [execOp, ho, hx, Sem.run_bind, key _ hp, Result.andThen_ok, Sem.run_pure]
      rfl
    · exact h.elim
  · exact h.elim

def ptrs : List (Option Tv) → Option (List (Nat × Nat))
  | [] => some []
  | some (.one (.ptr id off)) :: r => (ptrs r).map ((id, off) :: ·)
  | _ :: _ => none

def stepMkFn (fn : Fn) (first caps : List (Option Tv)) (next : Nat) : Tree Delta :=
  match fn, ptrs first, ptrs caps with
  | .func f, some p, some q => .leaf ⟨.one (.fn f p q), [], next⟩
  | _, _, _ => .fail "a function value"

theorem ptrs_sound {ρ : Env} {a : Act} {ev : Operand → Option Tv} (hv : ∀ x v, ev x = some v → a.eval x = v.den ρ) : ∀ {l : List Operand} {p : List (Nat × Nat)}, ptrs (l.map ev) = some p →
    l.map a.eval = p.map fun q => Value.pointer (ρ.at q.1 q.2)
  | [], p, h => by simp only [List.map_nil, ptrs] at h; injection h with h; subst h; rfl
  | x :: l, p, h => by
    simp only [List.map_cons] at h
    unfold ptrs at h
    split at h
    · rename_i e; cases e
    · rename_i id off r e
      injection e with e1 e2
      subst e2
      cases hp : ptrs (l.map ev) with
      | none => rw [hp] at h; cases h
      | some q =>
        rw [hp] at h
        simp only [Option.map] at h
        injection h with h; subst h
        simp only [List.map_cons]
        rw [hv x _ e1, ptrs_sound hv hp]; rfl
    · cases h

theorem stepMkFn_ok {d : Delta} {fn : Fn} {first caps : Array Operand} (ho : o.op = .makeFunc fn first caps) (hC : Ctx a R ρ gh next d.next w ev)
    (h : (stepMkFn fn (first.toList.map ev) (caps.toList.map ev) next).reach d) : OpOK P o a R ρ gh next w d := by
  unfold stepMkFn at h
  split at h
  · rename_i f p q hp hq
    cases h
    refine OpOK.value hC.rep ?_
    have e1 := ptrs_sound hC.val hp
    have e2 := ptrs_sound hC.val hq
    have f1 : first.map a.eval = (p.map fun q => Value.pointer (ρ.at q.1 q.2)).toArray := by rw [← e1, ← Array.toList_map]
    have f2 : caps.map a.eval = (q.map fun q => Value.pointer (ρ.at q.1 q.2)).toArray := by rw [← e2, ← Array.toList_map]
    simp only [execOp, ho, Instr.makeFunc, Sem.run_bind, Sem.run_pure, Result.andThen_ok, f1, f2, Tv.den, SV.den]
  · exact h.elim
end
end Sx
