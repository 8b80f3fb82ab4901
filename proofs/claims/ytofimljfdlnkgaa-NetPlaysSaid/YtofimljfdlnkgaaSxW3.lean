/- A symbolic executor for the model's code: parts of a row of one's own, where they lie; blocks that hold data. -/
import Derived.Test.YtofimljfdlnkgaaSxW2
import Derived.Lib.SliceRun
namespace Sx
open Go Go.RowKit

/-! ### a row of one's own, written to -/
theorem OwnRow.splice {R : Nat → Prop} {w w' : World} {ρ : Env} {id : Nat} {t : Ty} {xs ys : List (TD t)} {b o : Nat} {cs : Array Value} {T : TypeId} {news : List Value} {p : Nat}
    (h1 : xs.length = (ρ id).len) (h2 : xs.length ≤ (ρ id).cap) (ha : (ρ id).addr = some ⟨b, o, none⟩) (hs : o + (ρ id).cap * t.size ≤ cs.size)
    (hx : ∀ i x, xs[i]? = some x → ∃ c : List Value, c.length = t.size ∧ (∀ j, j < t.size → cs[o + i * t.size + j]? = c[j]?) ∧ ReadsC R w t x c)
    (hR : ∀ k, R k → w'.heap[k]? = w.heap[k]?) (hn : news.length = ys.length * t.size)
    (hy : ∀ i y, ys[i]? = some y → ∃ c : List Value, c.length = t.size ∧ (∀ j, j < t.size → news[i * t.size + j]? = c[j]?) ∧ ReadsC R w t y c)
    (hp : p + ys.length ≤ xs.length)
    (hh : w'.heap[b]? = some (.cells (cs.toList.take (o + p * t.size) ++ news ++ cs.toList.drop (o + p * t.size + news.length)).toArray T (0, 0))) :
    OwnRow R w' ρ id t (xs.take p ++ ys ++ xs.drop (p + ys.length)) := by
  have hm : p * t.size + ys.length * t.size ≤ xs.length * t.size := by rw [← Nat.add_mul]; exact Nat.mul_le_mul_right _ hp
  have hm2 : xs.length * t.size ≤ (ρ id).cap * t.size := Nat.mul_le_mul_right _ h2
  have hcl : (cs.toList.take (o + p * t.size)).length = o + p * t.size := by simp; omega
  have hget : ∀ q, (cs.toList.take (o + p * t.size) ++ news ++ cs.toList.drop (o + p * t.size + news.length)).toArray[q]? =
      if q < o + p * t.size then cs[q]? else if q < o + p * t.size + news.length then news[q - (o + p * t.size)]? else cs[q]? := by
    intro q
    rw [List.getElem?_toArray]
    by_cases q1 : q < o + p * t.size
    · rw [if_pos q1, List.append_assoc, List.getElem?_append_left (by omega), List.getElem?_take, if_pos q1]; simp
    · rw [if_neg q1]
      by_cases q2 : q < o + p * t.size + news.length
      · rw [if_pos q2, List.append_assoc, List.getElem?_append_right (by omega), hcl, List.getElem?_append_left (by omega)]
      · rw [if_neg q2, List.getElem?_append_right (by simp only [List.length_append, hcl]; omega), List.getElem?_drop]
        simp only [List.length_append, hcl, Array.getElem?_toList]
        congr 1; omega
  have hmono : ∀ x c, ReadsC R w t x c → ReadsC R w' t x c := fun x c h => ReadsC.mono (fun k hk => ⟨hk, hR k hk⟩) t x c h
  refine ⟨by simp; omega, by simp; omega, .inr ⟨b, o, _, T, ha, hh, ?_, fun i x hi => ?_⟩⟩
  · simp only [List.size_toArray, List.length_append, hcl, List.length_drop, Array.length_toList]
    omega
  · have hil : i < xs.length := by
      have := (List.getElem?_eq_some_iff.1 hi).1
      simp at this; omega
    have hmi : i * t.size + t.size ≤ xs.length * t.size := by rw [← Nat.succ_mul]; exact Nat.mul_le_mul_right _ hil
    by_cases i1 : i < p
    · have hmp : i * t.size + t.size ≤ p * t.size := by rw [← Nat.succ_mul]; exact Nat.mul_le_mul_right _ i1
      rw [List.append_assoc, List.getElem?_append_left (by simp; omega), List.getElem?_take, if_pos i1] at hi
      obtain ⟨c, c1, c2, c3⟩ := hx i x hi
      refine ⟨c, c1, fun j hj => ?_, hmono _ _ c3⟩
      rw [hget, if_pos (by omega)]
      exact c2 j hj
    · by_cases i2 : i < p + ys.length
      · rw [List.append_assoc, List.getElem?_append_right (by simp; omega), List.getElem?_append_left (by simp; omega)] at hi
        have e : i - (xs.take p).length = i - p := by simp; omega
        rw [e] at hi
        obtain ⟨c, c1, c2, c3⟩ := hy (i - p) x hi
        refine ⟨c, c1, fun j hj => ?_, hmono _ _ c3⟩
        have hmp : p * t.size ≤ i * t.size := Nat.mul_le_mul_right _ (by omega)
        have hmq : (i - p) * t.size + t.size ≤ ys.length * t.size := by rw [← Nat.succ_mul]; exact Nat.mul_le_mul_right _ (by omega)
        have hmr : i * t.size = p * t.size + (i - p) * t.size := by rw [← Nat.add_mul]; congr 1; omega
        rw [hget, if_neg (by omega), if_pos (by omega), ← c2 j hj]
        congr 1; omega
      · rw [List.getElem?_append_right (by simp; omega), List.getElem?_drop] at hi
        have e : p + ys.length + (i - (xs.take p ++ ys).length) = i := by simp; omega
        rw [e] at hi
        obtain ⟨c, c1, c2, c3⟩ := hx i x hi
        refine ⟨c, c1, fun j hj => ?_, hmono _ _ c3⟩
        have hmp : (p + ys.length) * t.size ≤ i * t.size := Nat.mul_le_mul_right _ (by omega)
        rw [Nat.add_mul] at hmp
        rw [hget, if_neg (by omega), if_neg (by omega)]
        exact c2 j hj

/-! ### a part of a row of one's own -/
def winOf (gh : Gh) : SV → Option (Nat × Nat × Nat × (t : Ty) × List (TD t))
  | .row id => match look gh id with | some (.own t xs) => some (id, 0, xs.length, ⟨t, xs⟩) | _ => none
  | .win id lo len sz => match look gh id with | some (.own t xs) => bif Nat.beq sz t.size then some (id, lo, min len (xs.length - lo), ⟨t, xs⟩) else none | _ => none
  | _ => none

section
variable {P : Program} {o : Oper} {a : Act} {R : Nat → Prop} {ρ : Env} {gh : Gh} {next : Nat} {w : World} {ev : Operand → Option Tv}

theorem winOf_sound (hG : RepG R ρ gh w) {s : SV} {id lo n : Nat} {t : Ty} {xs : List (TD t)} (h : winOf gh s = some (id, lo, n, ⟨t, xs⟩)) :
    look gh id = some (.own t xs) ∧ s.den ρ = .slice (if (ρ id).cap ≤ lo then (ρ id).addr else ρ.at id (lo * t.size)) n ((ρ id).cap - lo) ∧ n ≤ xs.length - lo := by
  unfold winOf at h
  split at h
  · rename_i id'
    cases hg : look gh id' with
    | none => rw [hg] at h; cases h
    | some g =>
      rw [hg] at h
      cases g <;> simp only at h <;> try (cases h; done)
      rename_i t' xs'
      injection h with h; injection h with h1 h; injection h with h2 h; injection h with h3 h4
      subst h1; subst h2; subst h3
      cases h4
      obtain ⟨f1, f2, f3⟩ := hG.facts _ _ hg
      refine ⟨hg, ?_, by omega⟩
      simp only [SV.den, f1, Nat.zero_mul, Nat.sub_zero]
      congr 1
      rcases f3 with ⟨e, _⟩ | ⟨b, oo, _, _, e, _⟩
      · simp [Env.at, e]
      · simp [Env.at, e]
  · rename_i id' lo' len' sz'
    cases hg : look gh id' with
    | none => rw [hg] at h; cases h
    | some g =>
      rw [hg] at h
      cases g <;> simp only at h <;> try (cases h; done)
      rename_i t' xs'
      cases hb : Nat.beq sz' t'.size with
      | false => rw [hb] at h; cases h
      | true =>
        rw [hb] at h
        simp only [cond_true] at h
        have hb := beq_iff.1 hb
        injection h with h; injection h with h1 h; injection h with h2 h; injection h with h3 h4
        subst h1; subst h2; subst h3
        cases h4
        subst hb
        obtain ⟨f1, f2, f3⟩ := hG.facts _ _ hg
        exact ⟨hg, by simp only [SV.den, f1], by omega⟩
  · cases h

def firstW : SV → Bool
  | .row _ => true
  | _ => false

def stepSliceW (P : Program) (t : TypeId) (x : Option Tv) (lo hi : Option (Option Tv)) (gh : Gh) (next : Nat) : Option (Tree Delta) :=
  match x, P.underlying t with
  | some (.one v), some (.slice elem) =>
    match winOf gh v, sizeT P elem with
    | some (id, lo0, n, ⟨ty, xs⟩), some sz =>
      match bndOf 0 lo, bndOf n hi with
      | some L, some H =>
        bif Nat.beq sz ty.size then
          match firstW v with
          | true => some (.req (0 ≤ L ∧ L ≤ H ∧ H ≤ (xs.length : Int)) (.leaf ⟨.one (.win id L.toNat (H.toNat - L.toNat) sz), [], next⟩))
          | false => some (.req (0 ≤ L ∧ L ≤ H ∧ (lo0 : Int) + H ≤ (xs.length : Int) ∧ (lo0 = 0 ∨ L < H)) (.leaf ⟨.one (.win id (lo0 + L.toNat) (H.toNat - L.toNat) sz), [], next⟩))
        else none
      | _, _ => none
    | _, _ => none
  | _, _ => none

theorem stepSliceW_ok {d : Delta} {t : TypeId} {x : Operand} {lo hi : Option Operand} {tr : Tree Delta} (ho : o.op = .slice t x lo hi none) (hC : Ctx a R ρ gh next d.next w ev)
    (ht : stepSliceW P t (ev x) (lo.map ev) (hi.map ev) gh next = some tr) (h : tr.reach d) : OpOK P o a R ρ gh next w d := by
  unfold stepSliceW at ht
  split at ht
  · rename_i v elem hx hu
    split at ht
    · rename_i id lo0 n ty xs sz hwin hs
      split at ht
      · rename_i L H hL hH
        cases hb : Nat.beq sz ty.size with
        | false => rw [hb] at ht; cases ht
        | true =>
          rw [hb] at ht
          simp only [cond_true] at ht
          have hb := beq_iff.1 hb
          obtain ⟨hg, hden, hn⟩ := winOf_sound hC.rep hwin
          obtain ⟨f1, f2, f3⟩ := hC.rep.facts _ _ hg
          have hat0 : ρ.at id (0 * ty.size) = (ρ id).addr := by
            rcases f3 with ⟨e, _⟩ | ⟨b, oo, _, _, e, _⟩ <;> simp [Env.at, e]
          clear f3
          have key : 0 ≤ L → L ≤ H → (lo0 : Int) + H ≤ (xs.length : Int) → (lo0 = 0 ∨ L < H) → d = ⟨.one (.win id (lo0 + L.toNat) (H.toNat - L.toNat) sz), [], next⟩ → OpOK P o a R ρ gh next w d := by
            intro h0 h1 h2 h3 e
            subst e
            refine OpOK.value hC.rep ?_
            have hbd := run_bounds (P := P) (w := w) (a := a) (ρ := ρ) (b := true) (n := n) (c := (ρ id).cap - lo0) hC.val hL hH h0 h1 (by omega)
            have hadr : (if (ρ id).cap - lo0 = L.toNat then (if (ρ id).cap ≤ lo0 then (ρ id).addr else ρ.at id (lo0 * ty.size)) else (if (ρ id).cap ≤ lo0 then (ρ id).addr else ρ.at id (lo0 * ty.size)).map (·.add (L.toNat * sz))) = (if (ρ id).cap ≤ lo0 + L.toNat then (ρ id).addr else ρ.at id ((lo0 + L.toNat) * sz)) := by
              subst hb
              rcases Nat.lt_or_ge lo0 (ρ id).cap with hc | hc
              · have hc' : ¬ (ρ id).cap ≤ lo0 := by omega
                simp only [if_neg hc']
                by_cases e : (ρ id).cap - lo0 = L.toNat
                · rw [if_pos e, if_pos (by omega)]
                  rcases h3 with h3 | h3
                  · subst h3; exact hat0
                  · omega
                · have : ¬ (ρ id).cap ≤ lo0 + L.toNat := by omega
                  rw [if_neg e, if_neg this, at_add, Nat.add_mul]
              · have e1 : (ρ id).cap - lo0 = L.toNat := by omega
                have e2 : (ρ id).cap ≤ lo0 + L.toNat := by omega
                simp only [if_pos hc, if_pos e1, if_pos e2]
            have hev : a.eval x = _ := (hC.val x _ hx).trans hden
            have hmin : min (H.toNat - L.toNat) ((ρ id).len - (lo0 + L.toNat)) = H.toNat - L.toNat := by rw [← f1]; omega
            have hres : (Tv.one (SV.win id (lo0 + L.toNat) (H.toNat - L.toNat) sz)).den ρ = .slice (if (ρ id).cap - lo0 = L.toNat then (if (ρ id).cap ≤ lo0 then (ρ id).addr else ρ.at id (lo0 * ty.size)) else (if (ρ id).cap ≤ lo0 then (ρ id).addr else ρ.at id (lo0 * ty.size)).map (·.add (L.toNat * sz))) (H.toNat - L.toNat) ((ρ id).cap - lo0 - L.toNat) := by
              simp only [Tv.den, SV.den, hmin, hadr, Nat.sub_sub]
            rw [hres]
            simp only [execOp, ho, hev, Option.map_none, Instr.sliceAt, Instr.slice, Sem.run_bind, run_underlying hu, Result.andThen_ok, Sem.run_pure, hbd, run_sizeOf' hs]
          split at ht
          · injection ht with ht; subst ht
            obtain ⟨⟨h0, h1, h2⟩, h⟩ := h
            cases h
            rename_i hv
            have hz : lo0 = 0 := by
              cases v <;> simp [firstW] at hv
              rename_i i0
              unfold winOf at hwin
              simp only at hwin
              split at hwin
              · injection hwin with hwin; injection hwin with _ hwin; injection hwin with hwin _; exact hwin.symm
              · cases hwin
            subst hz
            exact key h0 h1 (by omega) (.inl rfl) (by rw [Nat.zero_add])
          · injection ht with ht; subst ht
            obtain ⟨⟨h0, h1, h2, h3⟩, h⟩ := h
            cases h
            exact key h0 h1 h2 h3 rfl
      · cases ht
    · cases ht
  · cases ht

/-- s[i:j:k] -/
def stepSlice3 (P : Program) (t : TypeId) (x lo hi mx : Option Tv) (gh : Gh) (next : Nat) : Tree Delta :=
  match x, P.underlying t, lo.bind numOf, hi.bind numOf, mx.bind numOf with
  | some (.one (.row id)), some (.slice elem), some (_, _, L), some (_, _, H), some (_, _, M) =>
    match winOf gh (.row id), sizeT P elem with
    | some (_, _, n, _), some sz => .req (0 ≤ L ∧ L ≤ H ∧ H ≤ M ∧ M ≤ (n : Int)) (.leaf ⟨.one (.sub id (if M = L then 0 else L.toNat * sz) (H.toNat - L.toNat) (M.toNat - L.toNat)), [], next⟩)
    | _, _ => .fail "slice"
  | _, _, _, _, _ => .fail "slice"

theorem stepSlice3_ok {d : Delta} {t : TypeId} {x lo hi mx : Operand} (ho : o.op = .slice t x (some lo) (some hi) (some mx)) (hC : Ctx a R ρ gh next d.next w ev)
    (h : (stepSlice3 P t (ev x) (ev lo) (ev hi) (ev mx) gh next).reach d) : OpOK P o a R ρ gh next w d := by
  have num : ∀ (x : Operand) (q : Bool × IntKind × Int), (ev x).bind numOf = some q → a.eval x = .int q.2.1 q.2.2 := by
    intro x q h
    cases hx : ev x with
    | none => rw [hx] at h; cases h
    | some v =>
      rw [hx] at h
      simp only [Option.bind] at h
      rw [hC.val x v hx, numOf_den h]
  unfold stepSlice3 at h
  split at h
  · rename_i id elem _ kL L _ kH H _ kM M hx hu hL hH hM
    split at h
    · rename_i id0 lo0 n q sz hr hs
      obtain ⟨⟨h0, h1, h2, h3⟩, h⟩ := h
      cases h
      have hown : ∃ ty xs, look gh id = some (.own ty xs) ∧ n = xs.length := by
        unfold winOf at hr
        simp only at hr
        split at hr
        · rename_i ty xs hg
          injection hr with hr; injection hr with _ hr; injection hr with _ hr; injection hr with hr _
          exact ⟨ty, xs, hg, hr.symm⟩
        · cases hr
      obtain ⟨ty, xs, hg, rfl⟩ := hown
      obtain ⟨f1, f2, f3⟩ := hC.rep.facts _ _ hg
      have eL := num lo _ hL
      have eH := num hi _ hH
      have eM := num mx _ hM
      simp only at eL eH eM
      have hev := hC.val x _ hx
      simp only [Tv.den, SV.den] at hev
      have hb : (Instr.sliceBounds true (ρ id).len (ρ id).cap (some (a.eval lo)) (some (a.eval hi)) (some (a.eval mx))).run P w = .ok (L.toNat, H.toNat, M.toNat) w := by
        have e1 : (M.toNat : Int) = M := Int.toNat_of_nonneg (by omega)
        have e2 : (H.toNat : Int) = H := Int.toNat_of_nonneg (by omega)
        simp [Instr.sliceBounds, Instr.sliceBound, eL, eH, eM, asIntOf, show 0 ≤ M by omega, show M ≤ ((ρ id).cap : Int) by omega, show 0 ≤ H by omega, h0, h1, h2, e1, e2]
      refine OpOK.value hC.rep ?_
      have hadr : (if M.toNat = L.toNat then (ρ id).addr else (ρ id).addr.map (·.add (L.toNat * sz))) = ρ.at id (if M = L then 0 else L.toNat * sz) := by
        rcases f3 with ⟨q1, q2, q3⟩ | ⟨b, oo, _, _, ha, _⟩
        · simp [Env.at, q1]
        · by_cases e : M = L
          · subst e; simp [Env.at, ha]
          · rw [if_neg (by omega), if_neg e]; simp [Env.at, ha, addr_add]
      simp only [execOp, ho, hev, Option.map_some, Instr.sliceAt, Instr.slice, Sem.run_bind, run_underlying hu, Result.andThen_ok, Sem.run_pure, hb, run_sizeOf' hs, Tv.den, SV.den, hadr]
    · exact h.elim
  · exact h.elim

/-- a part's length -/
def stepLenW (P : Program) (t : TypeId) (x : Option Tv) (gh : Gh) (next : Nat) : Option (Tree Delta) :=
  match x, P.underlying t with
  | some (.one (.win id lo len sz)), some (.slice _) => match winOf gh (.win id lo len sz) with | some (_, _, n, _) => some (.leaf ⟨.one (.int .i64 (n : Int)), [], next⟩) | none => none
  | _, _ => none

theorem stepLenW_ok {d : Delta} {t : TypeId} {x : Operand} {T : Array TypeId} {tr : Tree Delta} (h0 : T[0]? = some t) (ho : o.op = .call { callee := .builtin .len, args := #[x], argTypes := T }) (hC : Ctx a R ρ gh next d.next w ev)
    (ht : stepLenW P t (ev x) gh next = some tr) (h : tr.reach d) : OpOK P o a R ρ gh next w d := by
  unfold stepLenW at ht
  split at ht
  · rename_i id lo len sz e hx hu
    split at ht
    · rename_i id' lo' n q hwin
      injection ht with ht; subst ht
      cases h
      obtain ⟨ty, xs⟩ := q
      obtain ⟨hg, hden, hn⟩ := winOf_sound hC.rep hwin
      have hev : a.eval x = _ := (hC.val x _ hx).trans hden
      refine OpOK.value hC.rep ?_
      simp only [execOp, ho, resolve, Sem.run_bind, Sem.run_pure, Result.andThen_ok, invoke, builtin]
      simp [hev, Builtin.len_, h0, run_underlying hu, Tv.den, SV.den, goInt]
    · cases ht
  · cases ht
end
end Sx
