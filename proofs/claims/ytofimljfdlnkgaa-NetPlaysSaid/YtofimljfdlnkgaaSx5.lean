/- A symbolic executor for the model's code: loads and stores. -/
import Derived.Test.YtofimljfdlnkgaaSx4
namespace Sx
open Go Go.RowKit

/-! ### types -/
def isAggT (P : Program) (t : TypeId) : Bool :=
  match P.underlying t with
  | some (.struct _) | some (.array _ _) => true
  | _ => false

def sizeT (P : Program) (t : TypeId) : Option Nat :=
  match P.underlying t, P.info? t with
  | some _, some i => some i.size
  | _, _ => none

def mkTv (g : Bool) (cs : List SV) : Option Tv :=
  match g, cs with
  | true, cs => some (.agg cs)
  | false, [c] => some (.one c)
  | _, _ => none

def tvCells : Tv → Option (List SV)
  | .one v => some [v]
  | .agg cs => some cs
  | _ => none

theorem tvCells_den {ρ : Env} {v : Tv} {cs : List SV} (h : tvCells v = some cs) : (v.den ρ).cells = (dens ρ cs).toArray := by
  cases v <;> simp only [tvCells] at h
  · rename_i v
    injection h with h; subst h
    cases v <;> rfl
  · injection h with h; subst h; rfl
  · cases h
  · cases h

theorem tvCells_ids {v : Tv} {cs : List SV} (h : tvCells v = some cs) : idsOf cs = v.ids := by
  cases v <;> simp only [tvCells] at h
  · injection h with h; subst h; simp [idsOf, Tv.ids]
  · injection h with h; subst h; rfl
  · cases h
  · cases h

theorem mkTv_den {ρ : Env} {g : Bool} {cs : List SV} {v : Tv} (h : mkTv g cs = some v) : v.den ρ = (if g then .agg (dens ρ cs).toArray else (dens ρ cs).headD undef) := by
  unfold mkTv at h
  split at h
  · injection h with h; subst h; rfl
  · injection h with h; subst h; rfl
  · cases h

theorem mkTv_one {cs : List SV} {v : Tv} (h : mkTv false cs = some v) : cs.length = 1 := by
  unfold mkTv at h
  split at h
  all_goals first | rfl | (cases h; done) | (simp_all; done)

theorem SV.oneCell (ρ : Env) (v : SV) : (v.den ρ).oneCell' = true := by cases v <;> rfl

theorem addr_add (b o j : Nat) : (⟨b, o, none⟩ : Addr).add j = ⟨b, o + j, none⟩ := by unfold Addr.add; split <;> simp_all

section
variable {P : Program} {w : World}

theorem run_sizeOf' {t : TypeId} {n : Nat} (h : sizeT P t = some n) : (Go.sizeOf t).run P w = .ok n w := by
  unfold sizeT at h
  cases hu : P.underlying t with
  | none => rw [hu] at h; cases h
  | some d =>
    rw [hu] at h
    cases hi : P.info? t with
    | none => rw [hi] at h; cases h
    | some i => rw [hi] at h; injection h with h; subst h; simp [Go.sizeOf, typeInfo, hi]

theorem run_isAgg {t : TypeId} {n : Nat} (h : sizeT P t = some n) : (isAgg t).run P w = .ok (isAggT P t) w := by
  unfold sizeT at h
  unfold isAggT
  cases hu : P.underlying t with
  | none => rw [hu] at h; cases h
  | some d =>
    simp only [isAgg, Sem.run_bind, run_underlying hu, Result.andThen_ok]
    cases d <;> rfl

theorem run_loadVar {t : TypeId} {b o : Nat} {cs : List Value} (hs : sizeT P t = some cs.length) (hc : CellsAt w b o cs) (h1 : isAggT P t = false → cs.length = 1) :
    (loadVar t ⟨b, o, none⟩).run P w = .ok (if isAggT P t then .agg cs.toArray else cs.headD undef) w := by
  unfold loadVar
  simp only [Sem.run_bind, run_isAgg hs, Result.andThen_ok]
  cases hg : isAggT P t with
  | true =>
    have hl : (loadCells ⟨b, o, none⟩ cs.length).run P w = .ok cs.toArray w := run_loadCells_list w ⟨b, o, none⟩ cs fun j v hj => by
      rw [addr_add]
      rw [hc j (List.getElem?_eq_some_iff.1 hj).1, hj]
    simp only [if_true, Sem.run_bind, run_sizeOf' hs, Result.andThen_ok, hl, Sem.run_pure]
  | false =>
    match cs, h1 hg with
    | [v], _ =>
      have := hc 0 (by simp)
      simp at this
      simp [this]

theorem run_storeVar {t : TypeId} {b o : Nat} {cur : Array Value} {T : TypeId} {v : Value} (hs : sizeT P t = some v.cells.size) (hb : w.heap[b]? = some (.cells cur T (0, 0)))
    (hl : o + v.cells.size ≤ cur.size) (h1 : ∀ x ∈ v.cells.toList, x.oneCell' = true) :
    (storeVar t ⟨b, o, none⟩ v).run P w = .ok () (w.setRow b (cur.toList.take o ++ v.cells.toList ++ cur.toList.drop (o + v.cells.size)).toArray) := by
  unfold storeVar
  simp only [Sem.run_bind, run_sizeOf' hs, Result.andThen_ok]
  have := run_storeCells_at (P := P) b o T v.cells.toList 0 cur w hb (by simpa using hl) h1
  simp only [Nat.add_zero, Array.length_toList] at this
  simp only [ne_eq, not_true_eq_false, if_false, this]

end

/-! ### reading at a place -/
/-- integers, each of one kind -/
def allInt (k : IntKind) : List SV → Option (List Int)
  | [] => some []
  | .cint k' n :: r | .int k' n :: r =>
    match (if k' = k then allInt k r else none) with
    | some l => some (n :: l)
    | none => none
  | _ :: _ => none

def allBool : List SV → Option (List Bool)
  | [] => some []
  | .cbool b :: r | .bool b :: r =>
    match allBool r with
    | some l => some (b :: l)
    | none => none
  | _ :: _ => none

def allStr : List SV → Option (List ByteArray)
  | [] => some []
  | .str b :: r =>
    match allStr r with
    | some l => some (b :: l)
    | none => none
  | _ :: _ => none

/-- the i-th of some cells -/
def sel1 (i : Int) (cs : List SV) : Option SV :=
  match cs with
  | .cint k _ :: _ | .int k _ :: _ => (allInt k cs).map fun l => .int k (l.getD i.toNat 0)
  | .cbool _ :: _ | .bool _ :: _ => (allBool cs).map fun l => .bool (l.getD i.toNat false)
  | .str _ :: _ => (allStr cs).map fun l => .str (l.getD i.toNat ByteArray.empty)
  | _ => none

/-- every sz-th cell, cnt of them -/
def every (sz : Nat) : Nat → List SV → List SV
  | 0, _ => []
  | c + 1, cs => cs.take 1 ++ every sz c (cs.drop sz)

def selN (i : Int) (sz cnt : Nat) : Nat → List SV → Option (List SV)
  | 0, _ => some []
  | n + 1, cs =>
    match sel1 i (every sz cnt cs) with
    | none => none
    | some c =>
      match selN i sz cnt n (cs.drop 1) with
      | none => none
      | some r => some (c :: r)

theorem allInt_sound (ρ : Env) {k : IntKind} : ∀ {cs : List SV} {l : List Int}, allInt k cs = some l → dens ρ cs = l.map (.int k ·)
  | [], l, h => by simp only [allInt] at h; injection h with h; subst h; rfl
  | c :: r, l, h => by
    have key : ∀ (k' : IntKind) (n : Int), (match (if k' = k then allInt k r else none) with | some l => some (n :: l) | none => none) = some l → ∃ l', k' = k ∧ allInt k r = some l' ∧ l = n :: l' := by
      intro k' n h
      by_cases e : k' = k
      · rw [if_pos e] at h
        cases hr : allInt k r with
        | none => rw [hr] at h; cases h
        | some l' => rw [hr] at h; injection h with h; exact ⟨l', e, rfl, h.symm⟩
      · rw [if_neg e] at h; cases h
    cases c <;> simp only [allInt] at h <;> first
      | (cases h; done)
      | (obtain ⟨l', e, h1, h2⟩ := key _ _ h
         subst h2
         have := allInt_sound ρ h1
         simp only [dens, List.map_cons] at this ⊢
         rw [this, ← e]; rfl)

theorem allBool_sound (ρ : Env) : ∀ {cs : List SV} {l : List Bool}, allBool cs = some l → dens ρ cs = l.map (.bool ·)
  | [], l, h => by simp only [allBool] at h; injection h with h; subst h; rfl
  | c :: r, l, h => by
    have key : ∀ n : Bool, (match allBool r with | some l => some (n :: l) | none => none) = some l → ∃ l', allBool r = some l' ∧ l = n :: l' := by
      intro n h
      cases hr : allBool r with
      | none => rw [hr] at h; cases h
      | some l' => rw [hr] at h; injection h with h; exact ⟨l', rfl, h.symm⟩
    cases c <;> simp only [allBool] at h <;> first
      | (cases h; done)
      | (obtain ⟨l', h1, h2⟩ := key _ h
         subst h2
         have := allBool_sound ρ h1
         simp only [dens, List.map_cons] at this ⊢
         rw [this]; rfl)

theorem allStr_sound (ρ : Env) : ∀ {cs : List SV} {l : List ByteArray}, allStr cs = some l → dens ρ cs = l.map (.string ·)
  | [], l, h => by simp only [allStr] at h; injection h with h; subst h; rfl
  | c :: r, l, h => by
    have key : ∀ n : ByteArray, (match allStr r with | some l => some (n :: l) | none => none) = some l → ∃ l', allStr r = some l' ∧ l = n :: l' := by
      intro n h
      cases hr : allStr r with
      | none => rw [hr] at h; cases h
      | some l' => rw [hr] at h; injection h with h; exact ⟨l', rfl, h.symm⟩
    cases c <;> simp only [allStr] at h <;> first
      | (cases h; done)
      | (obtain ⟨l', h1, h2⟩ := key _ h
         subst h2
         have := allStr_sound ρ h1
         simp only [dens, List.map_cons] at this ⊢
         rw [this]; rfl)

theorem sel1_sound {ρ : Env} {i : Int} {cs : List SV} {c : SV} (h : sel1 i cs = some c) (hi : i.toNat < cs.length) : (dens ρ cs)[i.toNat]? = some (c.den ρ) ∧ c.ids = [] := by
  have kint : ∀ k, (allInt k cs).map (fun l => SV.int k (l.getD i.toNat 0)) = some c → (dens ρ cs)[i.toNat]? = some (c.den ρ) ∧ c.ids = [] := by
    intro k h
    cases ha : allInt k cs with
    | none => rw [ha] at h; cases h
    | some l =>
      rw [ha] at h
      simp only [Option.map] at h
      injection h with h; subst h
      have e := allInt_sound ρ ha
      have hl : l.length = cs.length := by have := congrArg List.length e; simpa [dens] using this.symm
      refine ⟨?_, rfl⟩
      rw [e, List.getElem?_map, List.getElem?_eq_getElem (by omega)]
      simp [SV.den, List.getD, List.getElem?_eq_getElem (show i.toNat < l.length by omega)]
  have kbool : (allBool cs).map (fun l => SV.bool (l.getD i.toNat false)) = some c → (dens ρ cs)[i.toNat]? = some (c.den ρ) ∧ c.ids = [] := by
    intro h
    cases ha : allBool cs with
    | none => rw [ha] at h; cases h
    | some l =>
      rw [ha] at h
      simp only [Option.map] at h
      injection h with h; subst h
      have e := allBool_sound ρ ha
      have hl : l.length = cs.length := by have := congrArg List.length e; simpa [dens] using this.symm
      refine ⟨?_, rfl⟩
      rw [e, List.getElem?_map, List.getElem?_eq_getElem (by omega)]
      simp [SV.den, List.getD, List.getElem?_eq_getElem (show i.toNat < l.length by omega)]
  have kstr : (allStr cs).map (fun l => SV.str (l.getD i.toNat ByteArray.empty)) = some c → (dens ρ cs)[i.toNat]? = some (c.den ρ) ∧ c.ids = [] := by
    intro h
    cases ha : allStr cs with
    | none => rw [ha] at h; cases h
    | some l =>
      rw [ha] at h
      simp only [Option.map] at h
      injection h with h; subst h
      have e := allStr_sound ρ ha
      have hl : l.length = cs.length := by have := congrArg List.length e; simpa [dens] using this.symm
      refine ⟨?_, rfl⟩
      rw [e, List.getElem?_map, List.getElem?_eq_getElem (by omega)]
      simp [SV.den, List.getD, List.getElem?_eq_getElem (show i.toNat < l.length by omega)]
  unfold sel1 at h
  split at h
  · exact kint _ h
  · exact kint _ h
  · exact kbool h
  · exact kbool h
  · exact kstr h
  · cases h

theorem every_length {sz : Nat} : ∀ {cnt : Nat} {cs : List SV}, (cnt - 1) * sz < cs.length ∨ cnt = 0 → (every sz cnt cs).length = cnt
  | 0, _, _ => rfl
  | c + 1, cs, h => by
    have h' : c * sz < cs.length := by
      rcases h with h | h
      · simpa using h
      · omega
    have h0 : 0 < cs.length := by omega
    simp only [every, List.length_append, List.length_take]
    rw [every_length (cnt := c) (cs := cs.drop sz)]
    · omega
    · cases c with
      | zero => exact .inr rfl
      | succ c =>
        left
        simp only [List.length_drop, Nat.add_sub_cancel]
        rw [Nat.succ_mul] at h'
        omega

theorem every_get {sz : Nat} : ∀ {cnt : Nat} {cs : List SV} {j : Nat}, (cnt - 1) * sz < cs.length → j < cnt → (every sz cnt cs)[j]? = cs[j * sz]?
  | 0, _, _, _, h => by omega
  | c + 1, cs, j, h, hj => by
    have h' : c * sz < cs.length := by simpa using h
    have h0 : 0 < cs.length := by omega
    have h1 : (cs.take 1).length = 1 := by simp; omega
    simp only [every]
    cases j with
    | zero =>
      rw [List.getElem?_append_left (by omega)]
      simp
    | succ j =>
      rw [List.getElem?_append_right (by omega), h1]
      have hc : 0 < c := by omega
      have e : c * sz = (c - 1) * sz + sz := by
        conv => lhs; rw [show c = (c - 1) + 1 by omega]
        rw [Nat.succ_mul]
      rw [Nat.add_sub_cancel, every_get (cnt := c) (cs := cs.drop sz) (j := j) (by simp; omega) (by omega), List.getElem?_drop, Nat.succ_mul, Nat.add_comm]

theorem selN_sound {ρ : Env} {i : Int} {sz cnt : Nat} (hi : i.toNat < cnt) : ∀ {n : Nat} {cs r : List SV}, selN i sz cnt n cs = some r → (cnt - 1) * sz + n ≤ cs.length →
    idsOf r = [] ∧ r.length = n ∧ ∀ m, m < n → (dens ρ r)[m]? = (dens ρ cs)[i.toNat * sz + m]?
  | 0, cs, r, h, _ => by
    simp only [selN] at h
    injection h with h; subst h
    exact ⟨rfl, rfl, fun m hm => by omega⟩
  | n + 1, cs, r, h, hl => by
    simp only [selN] at h
    cases h1 : sel1 i (every sz cnt cs) with
    | none => rw [h1] at h; cases h
    | some c =>
      rw [h1] at h
      simp only at h
      cases h2 : selN i sz cnt n (cs.drop 1) with
      | none => rw [h2] at h; cases h
      | some r' =>
        rw [h2] at h
        simp only at h
        injection h with h; subst h
        obtain ⟨a1, a2, a3⟩ := selN_sound hi h2 (by simp; omega)
        have he := every_length (sz := sz) (cnt := cnt) (cs := cs) (.inl (by omega))
        obtain ⟨b1, b2⟩ := sel1_sound (ρ := ρ) h1 (by omega)
        refine ⟨by simp [idsOf, b2] at a1 ⊢; exact a1, by simp [a2], fun m hm => ?_⟩
        cases m with
        | zero =>
          simp only [dens, List.map_cons, List.getElem?_cons_zero, Nat.add_zero]
          rw [← b1, dens, List.getElem?_map, every_get (by omega) hi, List.getElem?_map]
        | succ m =>
          have := a3 m (by omega)
          simp only [dens, List.map_cons, List.getElem?_cons_succ] at this ⊢
          rw [this, List.map_drop, List.getElem?_drop]
          congr 1; omega

def readAt (gh : Gh) (s : SV) (n next : Nat) : Tree (List SV × Gh × Nat) :=
  match s with
  | .ptr id off =>
    match look gh id with
    | some (.opt t x) =>
      bif Nat.ble (off + n) t.size then
        match expand t (x.getD (TD.z t)) next with
        | some (c, g, n') => .req (x.isSome = true) (.leaf ((c.drop off).take n, g, n'))
        | none => .fail "load no data behind a pointer"
      else .fail "load past what is pointed to"
    | _ =>
      match blkAt gh id off n with
      | some c => .leaf (c, [], next)
      | none => .fail "load no such cells"
  | .elt id base i sz k cnt =>
    match look gh id with
    | some (.blk cs) | some (.rob cs) =>
      bif Nat.ble (k + n) sz && Nat.ble (base + cnt * sz) cs.length then
        match selN i sz cnt n (cs.drop (base + k)) with
        | some c => .req (0 ≤ i ∧ i < (cnt : Int)) (.leaf (c, [], next))
        | none => .fail "load cells of unlike kinds"
      else .fail "load no such row"
    | some (.ro t xs) | some (.own t xs) =>
      bif Nat.beq base 0 && Nat.beq sz t.size && Nat.ble (k + n) sz then
        match expand t (xs.getD i.toNat (TD.z t)) next with
        | some (c, g, n') => .req (0 ≤ i ∧ i < (xs.length : Int)) (.leaf ((c.drop k).take n, g, n'))
        | none => .fail "load no data"
      else .fail "load no part of an element"
    | some (.opt _ _) | some (.pin _ _) | some (.obj _ _ _) | none => .fail "load no such block"
  | _ => .fail "load no address"

section
variable {R : Nat → Prop} {w : World} {ρ : Env} {gh : Gh}

theorem readAt_sound (hG : RepG R ρ gh w) {s : SV} {n next n' : Nat} {c : List SV} {g : Gh} (h : (readAt gh s n next).reach (c, g, n')) :
    ∃ b o vals ρ', s.den ρ = .pointer (some ⟨b, o, none⟩) ∧ CellsAt w b o vals ∧ vals.length = n ∧ Exq R w ρ next g n' ρ' ∧ vals = dens ρ' c := by
  unfold readAt at h
  split at h
  · rename_i id off
    split at h
    · rename_i t x hg
      cases hb : Nat.ble (off + n) t.size with
      | false => rw [hb] at h; exact h.elim
      | true =>
        rw [hb] at h
        simp only [cond_true] at h
        have h1 := Nat.le_of_ble_eq_true hb
        have hf : OptR R w t x (ρ id).addr := hG.facts id _ hg
        cases x with
        | none =>
          cases he : expand t ((none : Option (TD t)).getD (TD.z t)) next with
          | none => rw [he] at h; exact h.elim
          | some r => rw [he] at h; exact absurd h.1 (by simp)
        | some y =>
          simp only [Option.getD_some] at h
          cases he : expand t y next with
          | none => rw [he] at h; exact h.elim
          | some r =>
            obtain ⟨c', g', n''⟩ := r
            rw [he] at h
            obtain ⟨_, h⟩ := h
            cases h
            obtain ⟨b, o, ha, _, cs, hl, hc, hr⟩ := hf
            obtain ⟨ρ', hE⟩ := expand_sound t _ next c' g n' ρ cs he hr
            refine ⟨b, o + off, (cs.drop off).take n, ρ', by simp [SV.den, Env.at, ha], hc.part off n (by omega), by simp; omega, hE.q, ?_⟩
            rw [hE.vals]; simp [dens]
    · cases hk : blkAt gh id off n with
      | none => rw [hk] at h; exact h.elim
      | some c' =>
        rw [hk] at h
        cases h
        obtain ⟨b, o, ha, _, hl, hc⟩ := blkAt_sound hG hk
        exact ⟨b, o + off, dens ρ c, ρ, by simp [SV.den, Env.at, ha], hc, by simp [hl], .nil, rfl⟩
  · rename_i id base i sz k cnt
    cases hg : look gh id with
    | none => rw [hg] at h; exact h.elim
    | some gb =>
      rw [hg] at h
      have kblk : ∀ (cs : List SV) (b o : Nat), (ρ id).addr = some ⟨b, o, none⟩ → CellsAt w b o (dens ρ cs) →
          (bif Nat.ble (k + n) sz && Nat.ble (base + cnt * sz) cs.length then
            match selN i sz cnt n (cs.drop (base + k)) with
            | some c => Tree.req (0 ≤ i ∧ i < (cnt : Int)) (.leaf (c, ([] : Gh), next))
            | none => .fail "load cells of unlike kinds"
          else .fail "load no such row").reach (c, g, n') →
          ∃ b o vals ρ', (SV.elt id base i sz k cnt).den ρ = .pointer (some ⟨b, o, none⟩) ∧ CellsAt w b o vals ∧ vals.length = n ∧ Exq R w ρ next g n' ρ' ∧ vals = dens ρ' c := by
        intro cs b o ha hc h
        cases hb : Nat.ble (k + n) sz && Nat.ble (base + cnt * sz) cs.length with
        | false => rw [hb] at h; exact h.elim
        | true =>
          rw [hb] at h
          simp only [cond_true] at h
          rw [Bool.and_eq_true] at hb
          have h1 := Nat.le_of_ble_eq_true hb.1
          have h2 := Nat.le_of_ble_eq_true hb.2
          cases hs : selN i sz cnt n (cs.drop (base + k)) with
          | none => rw [hs] at h; exact h.elim
          | some c' =>
            rw [hs] at h
            obtain ⟨⟨hi0, hi1⟩, h⟩ := h
            cases h
            have hi : i.toNat < cnt := by omega
            have e : cnt * sz = (cnt - 1) * sz + sz := by
              conv => lhs; rw [show cnt = (cnt - 1) + 1 by omega]
              rw [Nat.succ_mul]
            obtain ⟨_, e2, e3⟩ := selN_sound (ρ := ρ) hi hs (by simp; omega)
            have hm : i.toNat * sz ≤ (cnt - 1) * sz := Nat.mul_le_mul_right _ (by omega)
            refine ⟨b, o + (base + i.toNat * sz + k), dens ρ c, ρ, by simp [SV.den, Env.at, ha], fun j hj => ?_, by simp [e2], .nil, rfl⟩
            simp only [dens_length] at hj
            have h3 := hc (base + i.toNat * sz + k + j) (by simp; omega)
            rw [← Nat.add_assoc] at h3
            rw [h3, e3 j (by omega)]
            simp only [dens]
            rw [List.map_drop, List.getElem?_drop]
            congr 1; omega
      have krow : ∀ (t : Ty) (xs : List (TD t)),
          (0 ≤ i → i < (xs.length : Int) → ∃ b o, (ρ id).addr = some ⟨b, o, none⟩ ∧ ∃ cs, cs.length = t.size ∧ CellsAt w b (o + i.toNat * t.size) cs ∧ ReadsC R w t (xs.getD i.toNat (TD.z t)) cs) →
          (bif Nat.beq base 0 && Nat.beq sz t.size && Nat.ble (k + n) sz then
            match expand t (xs.getD i.toNat (TD.z t)) next with
            | some (c, g, n') => Tree.req (0 ≤ i ∧ i < (xs.length : Int)) (.leaf ((c.drop k).take n, g, n'))
            | none => .fail "load no data"
          else .fail "load no part of an element").reach (c, g, n') →
          ∃ b o vals ρ', (SV.elt id base i sz k cnt).den ρ = .pointer (some ⟨b, o, none⟩) ∧ CellsAt w b o vals ∧ vals.length = n ∧ Exq R w ρ next g n' ρ' ∧ vals = dens ρ' c := by
        intro t xs hx hk
        cases hb : Nat.beq base 0 && Nat.beq sz t.size && Nat.ble (k + n) sz with
        | false => rw [hb] at hk; exact hk.elim
        | true =>
          rw [hb] at hk
          simp only [cond_true] at hk
          simp only [Bool.and_eq_true] at hb
          obtain ⟨⟨hb1, hb2⟩, hb3⟩ := hb
          have h1 := beq_iff.1 hb1
          have h2 := beq_iff.1 hb2
          have h3 := Nat.le_of_ble_eq_true hb3
          subst h1; subst h2
          cases he : expand t (xs.getD i.toNat (TD.z t)) next with
          | none => rw [he] at hk; exact hk.elim
          | some r =>
            obtain ⟨c', g', n''⟩ := r
            rw [he] at hk
            obtain ⟨⟨hi0, hi1⟩, hk⟩ := hk
            cases hk
            obtain ⟨b, o, ha, cs, hl, hc, hr⟩ := hx hi0 hi1
            obtain ⟨ρ', hE⟩ := expand_sound t _ next c' g n' ρ cs he hr
            refine ⟨b, o + (i.toNat * t.size + k), (cs.drop k).take n, ρ', by simp [SV.den, Env.at, ha], ?_, by simp; omega, hE.q, ?_⟩
            · have := hc.part k n (by omega)
              rwa [Nat.add_assoc] at this
            · rw [hE.vals]; simp [dens]
      have hf := hG.facts id gb hg
      cases gb with
      | blk cs =>
        obtain ⟨b, T, ha, hh⟩ := hf
        refine kblk cs b 0 ha (fun j hj => ?_) h
        simp only [World.cell?, hh]
        simp
      | rob cs =>
        obtain ⟨b, o, ha, _, hc⟩ := hf
        exact kblk cs b o ha hc h
      | ro t xs =>
        refine krow t xs (fun hi0 hi1 => ?_) h
        obtain ⟨_, _, hr⟩ := hf
        have hi : i.toNat < xs.length := by omega
        obtain ⟨b, o, ha, _, cs, hl, hc, hp⟩ := hr i.toNat _ (List.getElem?_eq_getElem hi)
        refine ⟨b, o, ha, cs, hl, hc, ?_⟩
        rwa [List.getD, List.getElem?_eq_getElem hi]
      | own t xs =>
        refine krow t xs (fun hi0 hi1 => ?_) h
        have hi : i.toNat < xs.length := by omega
        obtain ⟨_, _, hr⟩ := hf
        rcases hr with ⟨_, e, _⟩ | ⟨b, o, cs, T, ha, hh, hs, hx⟩
        · subst e; simp at hi
        · obtain ⟨c', hl, hc, hp⟩ := hx i.toNat _ (List.getElem?_eq_getElem hi)
          refine ⟨b, o, ha, c', hl, fun j hj => ?_, ?_⟩
          · simp only [World.cell?, hh]
            simpa using hc j (by omega)
          · rwa [List.getD, List.getElem?_eq_getElem hi]
      | opt _ _ => exact h.elim
      | pin _ _ => exact h.elim
      | obj _ _ _ => exact h.elim
  · exact h.elim

end

/-- load -/
def stepLoad (P : Program) (t : TypeId) (v : Option Tv) (gh : Gh) (next : Nat) : Tree Delta :=
  match sizeT P t, v with
  | some n, some (.one s) =>
    (readAt gh s n next).bind fun r =>
      match mkTv (isAggT P t) r.1 with
      | some tv => .leaf ⟨tv, updOf r.2.1, r.2.2⟩
      | none => .fail "load one cell expected"
  | _, _ => .fail "load"

theorem stepLoad_ok {P : Program} {o : Oper} {a : Act} {R : Nat → Prop} {ρ : Env} {gh : Gh} {next : Nat} {w : World} {ev : Operand → Option Tv} {d : Delta}
    {t : TypeId} {x : Operand} (ho : o.op = .load t x) (hC : Ctx a R ρ gh next d.next w ev) (h : (stepLoad P t (ev x) gh next).reach d) : OpOK P o a R ρ gh next w d := by
  unfold stepLoad at h
  split at h
  · rename_i n s hs hv
    obtain ⟨⟨c, g, n'⟩, h1, h2⟩ := Tree.reach_bind.1 h
    simp only at h2
    cases hm : mkTv (isAggT P t) c with
    | none => rw [hm] at h2; exact h2.elim
    | some tv =>
      rw [hm] at h2
      cases h2
      obtain ⟨b, off, vals, ρ', hd, hc, hl, hq, hvals⟩ := readAt_sound hC.rep h1
      have hev := hC.val x _ hv
      simp only [Tv.den] at hev
      refine OpOK.exp hC.rep (fun id g hg => hC.bd id g hg) hq (V := if isAggT P t then .agg vals.toArray else vals.headD undef) ?_ ?_
      · have hr : (loadVar t ⟨b, off, none⟩).run P w = _ := run_loadVar (by rw [hl]; exact hs) hc fun hg => by
          rw [hg] at hm
          have := mkTv_one hm
          rw [hvals]; simpa using this
        simp only [execOp, ho, hev, hd, Instr.loadAt, Instr.sureAddr, Sem.run_bind, Sem.run_pure, Result.andThen_ok, hr]
      · rw [hvals]; exact (mkTv_den hm).symm
  · exact h.elim

end Sx
