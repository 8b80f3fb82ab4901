/- A symbolic executor for the model's code: stores, new variables, values built. -/
import Derived.Test.YtofimljfdlnkgaaSx5
namespace Sx
open Go Go.RowKit

/-! ### writing at a place -/
def mergeSV (c : Bool) : SV → SV → Option SV
  | .cint k a, .cint k' b | .cint k a, .int k' b | .int k a, .cint k' b | .int k a, .int k' b => if k = k' then some (.int k (bif c then a else b)) else none
  | .cbool a, .cbool b | .cbool a, .bool b | .bool a, .cbool b | .bool a, .bool b => some (.bool (bif c then a else b))
  | _, _ => none

def mergeL (c : Bool) : List SV → List SV → Option (List SV)
  | [], [] => some []
  | a :: as, b :: bs =>
    match mergeSV c a b with
    | none => none
    | some x =>
      match mergeL c as bs with
      | none => none
      | some r => some (x :: r)
  | _, _ => none

theorem mergeSV_sound (ρ : Env) {c : Bool} {a b x : SV} (h : mergeSV c a b = some x) : x.den ρ = (if c then a.den ρ else b.den ρ) := by
  cases a <;> cases b <;> simp only [mergeSV] at h <;> first
    | (cases h; done)
    | (split at h
       · rename_i e; subst e; injection h with h; subst h; cases c <;> rfl
       · cases h)
    | (injection h with h; subst h; cases c <;> rfl)

theorem mergeL_sound (ρ : Env) {c : Bool} : ∀ {as bs xs : List SV}, mergeL c as bs = some xs → dens ρ xs = (if c then dens ρ as else dens ρ bs) ∧ as.length = bs.length
  | [], [], xs, h => by simp only [mergeL] at h; injection h with h; subst h; cases c <;> exact ⟨rfl, rfl⟩
  | a :: as, b :: bs, xs, h => by
    simp only [mergeL] at h
    cases h1 : mergeSV c a b with
    | none => rw [h1] at h; cases h
    | some x =>
      rw [h1] at h
      simp only at h
      cases h2 : mergeL c as bs with
      | none => rw [h2] at h; cases h
      | some r =>
        rw [h2] at h
        simp only at h
        injection h with h; subst h
        have e1 := mergeSV_sound ρ h1
        obtain ⟨e2, e3⟩ := mergeL_sound ρ h2
        refine ⟨?_, by simp [e3]⟩
        simp only [dens, List.map_cons] at e2 ⊢
        rw [e1, e2]
        cases c <;> rfl
  | [], _ :: _, _, h => by simp [mergeL] at h
  | _ :: _, [], _, h => by simp [mergeL] at h

def setEvery (i : Int) (sz : Nat) (cells : List SV) : Nat → Nat → List SV → Option (List SV)
  | 0, _, cs => some cs
  | c + 1, j, cs =>
    match mergeL (decide (i = (j : Int))) cells (cs.take cells.length) with
    | none => none
    | some m =>
      match setEvery i sz cells c (j + 1) (cs.drop sz) with
      | none => none
      | some r => some (m ++ (cs.drop cells.length).take (sz - cells.length) ++ r)

theorem setEvery_sound (ρ : Env) {i : Int} {sz : Nat} {cells : List SV} (hn : cells.length ≤ sz) : ∀ {c j : Nat} {cs r : List SV}, setEvery i sz cells c j cs = some r →
    ((i < (j : Int) ∨ ((j + c : Nat) : Int) ≤ i) → dens ρ r = dens ρ cs) ∧
    ((j : Int) ≤ i → i < ((j + c : Nat) : Int) → dens ρ r = (dens ρ cs).take ((i.toNat - j) * sz) ++ dens ρ cells ++ (dens ρ cs).drop ((i.toNat - j) * sz + cells.length))
  | 0, j, cs, r, h => by
    simp only [setEvery] at h
    injection h with h; subst h
    exact ⟨fun _ => rfl, fun h1 h2 => by omega⟩
  | c + 1, j, cs, r, h => by
    simp only [setEvery] at h
    cases h1 : mergeL (decide (i = (j : Int))) cells (cs.take cells.length) with
    | none => rw [h1] at h; cases h
    | some m =>
      rw [h1] at h
      simp only at h
      cases h2 : setEvery i sz cells c (j + 1) (cs.drop sz) with
      | none => rw [h2] at h; cases h
      | some r' =>
        rw [h2] at h
        simp only at h
        injection h with h; subst h
        obtain ⟨e1, e2⟩ := mergeL_sound ρ h1
        obtain ⟨f1, f2⟩ := setEvery_sound ρ hn h2
        have hlen : cells.length ≤ cs.length := by rw [List.length_take] at e2; omega
        -- the cells ahead of the next step, as they were
        have hmid : ∀ (x : List Value), (dens ρ cs).take cells.length ++ ((dens ρ cs).drop cells.length).take (sz - cells.length) ++ x = (dens ρ cs).take sz ++ x := by
          intro x
          congr 1
          conv => rhs; rw [show sz = cells.length + (sz - cells.length) by omega]
          rw [List.take_add]
        have hd : dens ρ (m ++ (cs.drop cells.length).take (sz - cells.length) ++ r') = dens ρ m ++ ((dens ρ cs).drop cells.length).take (sz - cells.length) ++ dens ρ r' := by
          simp [dens]
        have hdrop : dens ρ (cs.drop sz) = (dens ρ cs).drop sz := by simp [dens]
        have htake : dens ρ (cs.take cells.length) = (dens ρ cs).take cells.length := by simp [dens]
        rw [hd]
        refine ⟨fun ho => ?_, fun h3 h4 => ?_⟩
        · have hne : decide (i = (j : Int)) = false := decide_eq_false (by omega)
          rw [hne] at e1
          simp only [Bool.false_eq_true, if_false] at e1
          rw [e1, f1 (by omega), hdrop, htake, hmid, List.take_append_drop]
        · by_cases he : i = (j : Int)
          · have hne : decide (i = (j : Int)) = true := decide_eq_true he
            rw [hne] at e1
            simp only [if_true] at e1
            have hz : i.toNat - j = 0 := by omega
            rw [e1, f1 (by omega), hdrop, hz]
            simp only [Nat.zero_mul, List.take_zero, List.nil_append, Nat.zero_add, List.append_assoc]
            congr 1
            have : (dens ρ cs).drop sz = ((dens ρ cs).drop cells.length).drop (sz - cells.length) := by
              rw [List.drop_drop, Nat.add_sub_of_le hn]
            rw [this, List.take_append_drop]
          · have hne : decide (i = (j : Int)) = false := decide_eq_false he
            rw [hne] at e1
            simp only [Bool.false_eq_true, if_false] at e1
            rw [e1, f2 (by omega) (by omega), hdrop, htake, List.append_assoc, List.append_assoc]
            rw [← List.append_assoc, hmid]
            have hs : (i.toNat - j) * sz = sz + (i.toNat - (j + 1)) * sz := by
              rw [show i.toNat - j = (i.toNat - (j + 1)) + 1 by omega, Nat.succ_mul, Nat.add_comm]
            rw [hs, List.take_add, List.drop_drop]
            simp only [List.append_assoc]
            congr 4
            omega

def setElem (t : Ty) (xs : List (TD t)) (i : Nat) : SV → Option (List (TD t)) :=
  match t, xs with
  | .int k, xs => fun
    | .cint k' n | .int k' n => if k' = k then some (List.set (α := Int) xs i n) else none
    | _ => none
  | .bool, xs => fun
    | .cbool b | .bool b => some (List.set (α := Bool) xs i b)
    | _ => none
  | _, _ => fun _ => none

theorem setElem_sound (ρ : Env) {R : Nat → Prop} {w : World} {t : Ty} {xs ys : List (TD t)} {i : Nat} {c : SV} (h : setElem t xs i c = some ys) :
    t.size = 1 ∧ ∃ y, ys = xs.set i y ∧ ReadsC R w t y [c.den ρ] := by
  cases t <;> simp only [setElem] at h <;> try (cases h; done)
  · cases c <;> simp only at h <;> try (cases h; done)
    all_goals
      split at h
      · rename_i e; subst e; injection h with h; exact ⟨rfl, _, h.symm, rfl⟩
      · cases h
  · cases c <;> simp only at h <;> try (cases h; done)
    all_goals
      injection h with h; exact ⟨rfl, _, h.symm, rfl⟩

def writeAt (gh : Gh) (s : SV) (cells : List SV) : Tree (List (Nat × Option Gb)) :=
  match s with
  | .ptr id off =>
    match look gh id with
    | some (.blk cs) =>
      bif Nat.ble (off + cells.length) cs.length then .leaf [(id, some (.blk (cs.take off ++ cells ++ cs.drop (off + cells.length))))] else .fail "store no such cells"
    | _ => .fail "store not one s own"
  | .elt id base i sz k cnt =>
    match look gh id with
    | some (.blk cs) =>
      bif Nat.ble (k + cells.length) sz && Nat.ble (base + cnt * sz) cs.length then
        match setEvery i sz cells cnt 0 (cs.drop (base + k)) with
        | some r => .req (0 ≤ i ∧ i < (cnt : Int)) (.leaf [(id, some (.blk (cs.take (base + k) ++ r)))])
        | none => .fail "store cells of unlike kinds"
      else .fail "store no such row"
    | some (.own t xs) =>
      bif Nat.beq base 0 && Nat.beq k 0 && Nat.beq sz t.size then
        match cells with
        | [c] =>
          match setElem t xs i.toNat c with
          | some ys => .req (0 ≤ i ∧ i < (xs.length : Int)) (.leaf [(id, some (.own t ys))])
          | none => .fail "store no such element"
        | _ => .fail "store no scalar"
      else .fail "store no part of an element"
    | _ => .fail "store not one s own"
  | _ => .fail "store no address"

section
variable {P : Program} {R : Nat → Prop} {w : World} {ρ : Env} {gh : Gh} {next : Nat}

/-- a store's world -/
theorem writeAt_sound (hG : RepG R ρ gh w) {t : TypeId} {s : SV} {cells : List SV} {v : Value} {upd : List (Nat × Option Gb)} {n' : Nat} (hv : v.cells = (dens ρ cells).toArray)
    (hs : sizeT P t = some cells.length) (h : (writeAt gh s cells).reach upd) :
    ∃ a w', s.den ρ = .pointer (some a) ∧ (storeVar t a v).run P w = .ok () w' ∧ RepG R ρ (applyUpd upd gh) w' ∧ Ext R ρ gh w next R ρ (applyUpd upd gh) w' n' := by
  have hsz : v.cells.size = cells.length := by rw [hv]; simp
  have h1 : ∀ x ∈ v.cells.toList, x.oneCell' = true := by
    intro x hx; rw [hv] at hx; simp only [dens, List.mem_map] at hx
    obtain ⟨c, _, rfl⟩ := hx
    exact SV.oneCell ρ c
  unfold writeAt at h
  split at h
  · rename_i id off
    cases hg : look gh id with
    | none => rw [hg] at h; exact h.elim
    | some gb =>
      rw [hg] at h
      cases gb with
      | rob _ => exact h.elim
      | opt _ _ => exact h.elim
      | pin _ _ => exact h.elim
      | obj _ _ _ => exact h.elim
      | ro _ _ => exact h.elim
      | own _ _ => exact h.elim
      | blk cs =>
        simp only at h
        cases hb : Nat.ble (off + cells.length) cs.length with
        | false => rw [hb] at h; exact h.elim
        | true =>
          rw [hb] at h
          cases h
          have hl := Nat.le_of_ble_eq_true hb
          obtain ⟨b, T, ha, hh⟩ := hG.facts id _ hg
          have hrun := run_storeVar (P := P) (w := w) (t := t) (b := b) (o := off) (v := v) (by rw [hsz]; exact hs) hh (by rw [hsz]; simpa using hl) h1
          refine ⟨⟨b, 0 + off, none⟩, _, by simp [SV.den, Env.at, ha], by rw [Nat.zero_add]; exact hrun, ?_⟩
          refine RepG.upd1 hG hg (b := b) (by simp [Gb.ownB, ha]) (by simp [Gb.ownB, ha]) ?_ (fun k hk => setRow_other w b k _ hk) (setRow_size _ _ _) rfl rfl rfl n'
          refine ⟨b, T, ha, ?_⟩
          rw [setRow_heap w b _ _ T (0, 0) hh, hsz, hv]
          simp [dens]
  · rename_i id base i sz k cnt
    cases hg : look gh id with
    | none => rw [hg] at h; exact h.elim
    | some gb =>
      rw [hg] at h
      cases gb with
      | rob _ => exact h.elim
      | opt _ _ => exact h.elim
      | pin _ _ => exact h.elim
      | obj _ _ _ => exact h.elim
      | ro _ _ => exact h.elim
      | blk cs =>
        simp only at h
        cases hb : Nat.ble (k + cells.length) sz && Nat.ble (base + cnt * sz) cs.length with
        | false => rw [hb] at h; exact h.elim
        | true =>
          rw [hb] at h
          simp only [cond_true] at h
          rw [Bool.and_eq_true] at hb
          have l1 := Nat.le_of_ble_eq_true hb.1
          have l2 := Nat.le_of_ble_eq_true hb.2
          cases he : setEvery i sz cells cnt 0 (cs.drop (base + k)) with
          | none => rw [he] at h; exact h.elim
          | some r =>
            rw [he] at h
            obtain ⟨⟨hi0, hi1⟩, h⟩ := h
            cases h
            obtain ⟨_, hr⟩ := setEvery_sound ρ (by omega) he
            have hr := hr (by omega) (by omega)
            obtain ⟨b, T, ha, hh⟩ := hG.facts id _ hg
            have hmul : i.toNat * sz + sz ≤ cnt * sz := by rw [← Nat.succ_mul]; exact Nat.mul_le_mul_right _ (by omega)
            have hrun := run_storeVar (P := P) (w := w) (t := t) (b := b) (o := base + i.toNat * sz + k) (v := v) (by rw [hsz]; exact hs) hh (by rw [hsz]; simp; omega) h1
            refine ⟨⟨b, 0 + (base + i.toNat * sz + k), none⟩, _, by simp [SV.den, Env.at, ha], by rw [Nat.zero_add]; exact hrun, ?_⟩
            refine RepG.upd1 hG hg (b := b) (by simp [Gb.ownB, ha]) (by simp [Gb.ownB, ha]) ?_ (fun k hk => setRow_other w b k _ hk) (setRow_size _ _ _) rfl rfl rfl n'
            refine ⟨b, T, ha, ?_⟩
            rw [setRow_heap w b _ _ T (0, 0) hh, hsz, hv]
            congr 3
            rw [dens_append, hr]
            have e1 : dens ρ (cs.drop (base + k)) = (dens ρ cs).drop (base + k) := by simp [dens]
            have e2 : dens ρ (cs.take (base + k)) = (dens ρ cs).take (base + k) := by simp [dens]
            rw [e1, e2, List.drop_drop]
            have e3 : (dens ρ cs).take (base + i.toNat * sz + k) = (dens ρ cs).take (base + k) ++ ((dens ρ cs).drop (base + k)).take (i.toNat * sz) := by
              rw [← List.take_add]; congr 1; omega
            simp only [Nat.sub_zero]
            rw [e3]
            simp only [List.append_assoc]
            congr 4
            omega
      | own t' xs =>
        simp only at h
        cases hb : Nat.beq base 0 && Nat.beq k 0 && Nat.beq sz t'.size with
        | false => rw [hb] at h; exact h.elim
        | true =>
          rw [hb] at h
          simp only [cond_true] at h
          simp only [Bool.and_eq_true] at hb
          obtain ⟨⟨hb1, hb2⟩, hb3⟩ := hb
          have e1 := beq_iff.1 hb1
          have e2 := beq_iff.1 hb2
          have e3 := beq_iff.1 hb3
          subst e1; subst e2; subst e3
          split at h
          · rename_i c
            cases he : setElem t' xs i.toNat c with
            | none => rw [he] at h; exact h.elim
            | some ys =>
              rw [he] at h
              obtain ⟨⟨hi0, hi1⟩, h⟩ := h
              cases h
              have hi : i.toNat < xs.length := by omega
              obtain ⟨hz1, hz2, hr⟩ := hG.facts id _ hg
              rcases hr with ⟨_, e, _⟩ | ⟨b, o, cs, T, ha, hh, hsz', hx⟩
              · subst e; simp at hi
              · obtain ⟨hone, y, hy, hry⟩ := setElem_sound ρ (R := R) (w := w) he
                rw [hone] at hsz' hx
                have hle : i.toNat * 1 + 1 ≤ (ρ id).cap * 1 := by omega
                have hrun := run_storeVar (P := P) (w := w) (t := t) (b := b) (o := o + i.toNat) (v := v) (by rw [hsz]; exact hs) hh (by rw [hsz]; simp; omega) h1
                refine ⟨⟨b, o + (0 + i.toNat * t'.size + 0), none⟩, _, by simp [SV.den, Env.at, ha], by rw [hone]; simp only [Nat.zero_add, Nat.mul_one, Nat.add_zero]; exact hrun, ?_⟩
                have hRb : ¬ R b := (hG.olt id _ b hg (by simp [Gb.ownB, ha])).2
                refine RepG.upd1 hG hg (b := b) (by simp [Gb.ownB, ha]) (by simp [Gb.ownB, ha]) ?_ (fun k hk => setRow_other w b k _ hk) (setRow_size _ _ _) rfl rfl rfl n'
                have hmono : ∀ x cs', ReadsC R w t' x cs' → ReadsC R (w.setRow b (cs.toList.take (o + i.toNat) ++ v.cells.toList ++ cs.toList.drop (o + i.toNat + v.cells.size)).toArray) t' x cs' :=
                  ReadsC.mono (fun k hk => ⟨hk, setRow_other w b k _ fun e => hRb (e ▸ hk)⟩) t'
                subst hy
                refine ⟨by rw [List.length_set]; exact hz1, by rw [List.length_set]; exact hz2, .inr ⟨b, o, _, T, ha, setRow_heap w b _ _ T (0, 0) hh, ?_, fun j x hj => ?_⟩⟩
                · rw [hone, hsz, hv]
                  simp only [List.size_toArray, List.length_append, List.length_take, List.length_drop, Array.length_toList, dens_length, List.length_cons, List.length_nil]
                  omega
                · have hj' : j < xs.length := by have := (List.getElem?_eq_some_iff.1 hj).1; simpa using this
                  have hvl : v.cells.toList = [c.den ρ] := by rw [hv]; simp [dens]
                  have hv1 : v.cells.size = 1 := by rw [hsz]; rfl
                  rw [List.getElem?_set] at hj
                  have hcur : o + i.toNat < cs.size := by omega
                  have hget : ∀ p, (cs.toList.take (o + i.toNat) ++ v.cells.toList ++ cs.toList.drop (o + i.toNat + v.cells.size)).toArray[p]? = if p = o + i.toNat then some (c.den ρ) else cs[p]? := by
                    intro p
                    rw [List.getElem?_toArray, hvl, hv1]
                    by_cases h1 : p < o + i.toNat
                    · rw [List.append_assoc, List.getElem?_append_left (by simp; omega), List.getElem?_take, if_pos h1, if_neg (by omega)]; simp
                    · by_cases h2 : p = o + i.toNat
                      · subst h2
                        rw [if_pos rfl, List.append_assoc, List.getElem?_append_right (by simp; omega)]
                        simp [Nat.min_eq_left (Nat.le_of_lt hcur)]
                      · rw [if_neg h2, List.getElem?_append_right (by simp; omega), List.getElem?_drop]
                        simp only [List.length_append, List.length_take, Array.length_toList, List.length_cons, List.length_nil, Array.getElem?_toList]
                        congr 1; omega
                  by_cases hij : i.toNat = j
                  · subst hij
                    rw [if_pos rfl, if_pos hi] at hj
                    injection hj with hj; subst hj
                    refine ⟨[c.den ρ], by rw [hone]; rfl, fun m hm => ?_, hmono _ _ hry⟩
                    rw [hone] at hm ⊢
                    have : m = 0 := by omega
                    subst this
                    rw [hget, if_pos (by omega)]
                    rfl
                  · rw [if_neg hij] at hj
                    obtain ⟨c', hl', hc', hr'⟩ := hx j x hj
                    refine ⟨c', by rw [hone]; exact hl', fun m hm => ?_, hmono _ _ hr'⟩
                    rw [hone] at hm ⊢
                    have : m = 0 := by omega
                    subst this
                    rw [hget, if_neg (by omega)]
                    exact hc' 0 (by omega)
          · exact h.elim
  · exact h.elim
end

def stepStore (P : Program) (t : TypeId) (a v : Option Tv) (gh : Gh) (next : Nat) : Tree Delta :=
  match a, v.bind tvCells, sizeT P t with
  | some (.one s), some cells, some n =>
    bif Nat.beq n cells.length then (writeAt gh s cells).bind fun u => .leaf ⟨.undef, u, next⟩ else .fail "store another size"
  | _, _, _ => .fail "store"

theorem stepStore_ok {P : Program} {o : Oper} {a : Act} {R : Nat → Prop} {ρ : Env} {gh : Gh} {next : Nat} {w : World} {ev : Operand → Option Tv} {d : Delta}
    {t : TypeId} {x y : Operand} (ho : o.op = .store t x y) (hC : Ctx a R ρ gh next d.next w ev) (h : (stepStore P t (ev x) (ev y) gh next).reach d) : OpOK P o a R ρ gh next w d := by
  unfold stepStore at h
  split at h
  · rename_i s cells n hx hy hs
    cases hb : Nat.beq n cells.length with
    | false => rw [hb] at h; exact h.elim
    | true =>
      rw [hb] at h
      have e := beq_iff.1 hb
      subst e
      obtain ⟨u, h1, h2⟩ := Tree.reach_bind.1 h
      cases h2
      cases hv : ev y with
      | none => rw [hv] at hy; cases hy
      | some v =>
        rw [hv] at hy
        simp only [Option.bind] at hy
        obtain ⟨addr, w', e1, e2, e3, e4⟩ := writeAt_sound (P := P) (next := next) (n' := next) hC.rep (tvCells_den hy) hs h1
        have hx' := hC.val x _ hx
        have hy' := hC.val y _ hv
        simp only [Tv.den] at hx'
        refine OpOK.of_skip ?_ rfl e4 e3
        simp only [execOp, ho, hx', hy', e1, Instr.storeAt, Instr.sureAddr, Sem.run_bind, Sem.run_pure, Result.andThen_ok, e2]
  · exact h.elim

end Sx
