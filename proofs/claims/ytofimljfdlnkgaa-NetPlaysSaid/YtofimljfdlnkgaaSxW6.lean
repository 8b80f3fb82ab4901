/- A symbolic executor for the model's code: loads and stores where data lie; parts of rows, put by: the steps. -/
import Derived.Test.YtofimljfdlnkgaaSxW5
namespace Sx
open Go Go.RowKit

def objB (gh : Gh) : SV → Bool
  | .ptr id _ | .elt id _ _ _ _ _ => match look gh id with | some (.obj _ _ _) => true | _ => false
  | _ => false

/-- the cells ahead of an object's data -/
def preOf (gh : Gh) (s : SV) (n : Nat) : Option (Nat × Nat × List SV × (t : Ty) × TD t) :=
  match s with
  | .ptr id off =>
    match look gh id with
    | some (.obj cs t x) => bif Nat.ble (off + n) cs.length then some (id, off, cs, ⟨t, x⟩) else none
    | _ => none
  | _ => none

def stepLoadW (P : Program) (t : TypeId) (v : Option Tv) (gh : Gh) (next : Nat) : Option (Tree Delta) :=
  match sizeT P t, v with
  | some n, some (.one s) =>
    match objB gh s with
    | false => none
    | true =>
      match preOf gh s n with
      | some (_, off, cs, _) =>
        match mkTv (isAggT P t) ((cs.drop off).take n) with
        | some tv => some (.leaf ⟨tv, [], next⟩)
        | none => some (.fail "load one cell expected")
      | none =>
        match lensOf gh s n with
        | some (_, p, ⟨t', y, _⟩) =>
          match expand t' y next with
          | some (c, g, n') =>
            match mkTv (isAggT P t) c with
            | some tv => some (.req p (.leaf ⟨tv, updOf g, n'⟩))
            | none => some (.fail "load one cell expected")
          | none => some (.fail "load no data")
        | none => some (.fail "load no part of the data")
  | _, _ => none

section
variable {P : Program} {o : Oper} {a : Act} {R : Nat → Prop} {ρ : Env} {gh : Gh} {next : Nat} {w : World} {ev : Operand → Option Tv}

theorem preOf_sound {s : SV} {n id off : Nat} {cs : List SV} {t : Ty} {x : TD t} (h : preOf gh s n = some (id, off, cs, ⟨t, x⟩)) :
    s = .ptr id off ∧ look gh id = some (.obj cs t x) ∧ off + n ≤ cs.length := by
  unfold preOf at h
  split at h
  · split at h
    · rename_i id0 off0 _ cs0 t0 x0 hg
      cases hb : Nat.ble (off0 + n) cs0.length with
      | false => rw [hb] at h; cases h
      | true =>
        rw [hb] at h
        simp only [cond_true] at h
        injection h with h; injection h with h1 h; injection h with h2 h; injection h with h3 h
        subst h1; subst h2; subst h3; cases h
        exact ⟨rfl, hg, Nat.le_of_ble_eq_true hb⟩
    · cases h
  · cases h

theorem stepLoadW_ok {d : Delta} {t : TypeId} {x : Operand} {tr : Tree Delta} (ho : o.op = .load t x) (hC : Ctx a R ρ gh next d.next w ev)
    (ht : stepLoadW P t (ev x) gh next = some tr) (h : tr.reach d) : OpOK P o a R ρ gh next w d := by
  unfold stepLoadW at ht
  split at ht
  · rename_i n s hs hv
    have hev := hC.val x _ hv
    simp only [Tv.den] at hev
    split at ht
    · cases ht
    · split at ht
      · rename_i id off cs q hpre
        obtain ⟨t0, x0⟩ := q
        obtain ⟨rfl, hg, hl⟩ := preOf_sound hpre
        cases hm : mkTv (isAggT P t) ((cs.drop off).take n) with
        | none => rw [hm] at ht; injection ht with ht; subst ht; exact h.elim
        | some tv =>
          rw [hm] at ht
          injection ht with ht; subst ht
          cases h
          obtain ⟨b, T, vs, ha, hh, _⟩ := hC.rep.facts _ _ hg
          have hc : CellsAt w b off (dens ρ ((cs.drop off).take n)) := fun j hj => by
            simp [dens] at hj
            simp only [World.cell?, hh]
            simp only [Option.isSome_none, Bool.false_eq_true, if_false, dens]
            rw [List.getElem?_toArray, List.getElem?_append_left (by simp; omega), List.map_take, List.map_drop, List.getElem?_take, if_pos (by omega), List.getElem?_drop]
          have hl2 : (dens ρ ((cs.drop off).take n)).length = n := by simp; omega
          refine OpOK.exp hC.rep (fun id g hg => hC.bd id g hg) .nil (V := if isAggT P t then .agg (dens ρ ((cs.drop off).take n)).toArray else (dens ρ ((cs.drop off).take n)).headD undef) ?_ ((mkTv_den hm).symm)
          have hr : (loadVar t ⟨b, off, none⟩).run P w = _ := run_loadVar (by rw [hl2]; exact hs) hc fun hg => by
            rw [hg] at hm
            have := mkTv_one hm
            simpa using this
          have hat : ρ.at id off = some ⟨b, off, none⟩ := by simp [Env.at, ha]
          simp only [execOp, ho, hev, SV.den, hat, Instr.loadAt, Instr.sureAddr, Sem.run_bind, Sem.run_pure, Result.andThen_ok, hr]
      · split at ht
        · rename_i id p t' y f hlens
          split at ht
          · rename_i c g n' he
            cases hm : mkTv (isAggT P t) c with
            | none => rw [hm] at ht; injection ht with ht; subst ht; exact h.elim
            | some tv =>
              rw [hm] at ht
              injection ht with ht; subst ht
              obtain ⟨hp, h⟩ := h
              cases h
              obtain ⟨g0, b, oo, cur, T, hP⟩ := lensOf_sound hC.rep hlens hp
              obtain ⟨ρ', hE⟩ := expand_sound t' y next c g n' ρ _ he hP.reads
              have hvl : ((cur.toList.drop oo).take n).length = n := by have := hP.fit; simp; omega
              have hc : CellsAt w b oo ((cur.toList.drop oo).take n) := fun j hj => by
                have hj : j < n := by omega
                simp only [World.cell?, hP.heap]
                simp only [Option.isSome_none, Bool.false_eq_true, if_false]
                rw [List.getElem?_take, if_pos hj, List.getElem?_drop]; simp
              refine OpOK.exp hC.rep (fun id g hg => hC.bd id g hg) hE.q (V := if isAggT P t then .agg ((cur.toList.drop oo).take n).toArray else ((cur.toList.drop oo).take n).headD undef) ?_ ?_
              · have hr : (loadVar t ⟨b, oo, none⟩).run P w = _ := run_loadVar (by rw [hvl]; exact hs) hc fun hg => by
                  rw [hg] at hm
                  have := mkTv_one hm
                  rw [hE.vals]; simpa using this
                simp only [execOp, ho, hev, hP.den, Instr.loadAt, Instr.sureAddr, Sem.run_bind, Sem.run_pure, Result.andThen_ok, hr]
              · rw [hE.vals]; exact (mkTv_den hm).symm
          · injection ht with ht; subst ht; exact h.elim
        · injection ht with ht; subst ht; exact h.elim
  · cases ht

/-! ### what is stored lets go what it names -/
theorem RepG.letgo (hG : RepG R ρ gh w) {gh2 : Gh} (C : Nat → Bool) (h2 : ∀ id, look gh2 id = (look gh id).map fun g => bif C id then g.abs else g) :
    ∃ R2, RepG R2 ρ gh2 w ∧ (∀ b, R b → R2 b) ∧ (∀ b, R2 b → R b ∨ OwnB ρ gh b) ∧ (∀ b, OwnB ρ gh2 b → OwnB ρ gh b) := by
  let R2 : Nat → Prop := fun b => R b ∨ ∃ id g, look gh id = some g ∧ g.ownB ρ id = some b ∧ C id = true
  have hsub : ∀ b, R b → R2 b := fun b hb => .inl hb
  have hown : ∀ id g2 b, look gh2 id = some g2 → g2.ownB ρ id = some b → look gh id = some g2 ∧ C id = false := by
    intro id g2 b h1 hb
    rw [h2] at h1
    cases hg : look gh id with
    | none => rw [hg] at h1; cases h1
    | some g =>
      rw [hg] at h1
      simp only [Option.map] at h1
      injection h1 with h1
      cases hc : C id with
      | false => rw [hc] at h1; exact ⟨by rw [← h1]; rfl, rfl⟩
      | true => rw [hc] at h1; simp only [cond_true] at h1; subst h1; rw [Gb.abs_own] at hb; cases hb
  refine ⟨R2, ⟨fun id g2 hg2 => ?_, ?_, fun id g b h1 hb => ?_, fun id id' g g' b h1 h1' hb hb' => ?_⟩, hsub, ?_, ?_⟩
  · rw [h2] at hg2
    cases hg : look gh id with
    | none => rw [hg] at hg2; cases hg2
    | some g =>
      rw [hg] at hg2
      simp only [Option.map] at hg2
      injection hg2 with hg2
      cases hc : C id with
      | false => rw [hc] at hg2; subst hg2; exact Gfact.mono (p := fun _ => True) (fun b hb => ⟨hsub b hb, rfl⟩) (fun _ _ => rfl) trivial (fun _ _ => trivial) (fun _ _ => rfl) (hG.facts id g hg)
      | true => rw [hc] at hg2; simp only [cond_true] at hg2; subst hg2; exact Gfact.abs hG hg hsub fun b hb => .inr ⟨id, g, hg, hb, hc⟩
  · rintro b (hb | ⟨id, g, h1, hb, _⟩)
    · exact hG.rlt b hb
    · exact (hG.olt id g b h1 hb).1
  · obtain ⟨h3, h4⟩ := hown id g b h1 hb
    refine ⟨(hG.olt id g b h3 hb).1, ?_⟩
    rintro (hr | ⟨id', g', h5, h6, h7⟩)
    · exact (hG.olt id g b h3 hb).2 hr
    · have := hG.sep id id' g g' b h3 h5 hb h6
      subst this
      rw [h4] at h7; cases h7
  · exact hG.sep id id' g g' b (hown id g b h1 hb).1 (hown id' g' b h1' hb').1 hb hb'
  · rintro b (hb | ⟨id, g, h1, hb, _⟩)
    · exact .inl hb
    · exact .inr ⟨id, g, h1, hb⟩
  · rintro b ⟨id, g, h1, hb⟩
    exact ⟨id, g, (hown id g b h1 hb).1, hb⟩

theorem Ext.letgo {R2 : Nat → Prop} {gh2 : Gh} (h1 : ∀ b, R b → R2 b) (h2 : ∀ b, R2 b → R b ∨ OwnB ρ gh b) (h3 : ∀ b, OwnB ρ gh2 b → OwnB ρ gh b) : Ext R ρ gh w next R2 ρ gh2 w next :=
  ⟨Nat.le_refl _, rfl, rfl, rfl, fun _ _ _ => rfl, fun _ _ => rfl, h1, fun b hb => (h2 b hb).imp (fun h => h) .inl, fun b hb => .inl (h3 b hb)⟩

def gone (gh : Gh) (C : List Nat) : List (Nat × Option Gb) := absorbO gh (restrict gh C)

theorem look_gone (gh : Gh) (C : List Nat) (k : Nat) : look (applyUpd (gone gh C) gh) k = (look gh k).map fun g => bif memN k C then g.abs else g := by
  unfold gone
  rw [look_applyUpd, look_absorbO, look_restrict]
  cases hg : look gh k with
  | none => simp
  | some g =>
    by_cases hm : C.any (Nat.beq k) = true
    · have : memN k C = true := hm
      rw [if_pos hm, this]
      simp only [Option.isSome_some, if_true, Option.elim, cond_true, Option.map]
      cases g <;> rfl
    · have : memN k C = false := by unfold memN; exact Bool.eq_false_iff.2 hm
      rw [if_neg hm, this]
      simp

/-- a datum, stored -/
def putD (gh : Gh) (id : Nat) (p : Prop) (t' : Ty) (f : TD t' → Gb) (cells : List SV) (C : List Nat) (next : Nat) : Tree Delta :=
  match memN id C with
  | true => .fail "store what names itself"
  | false =>
    match once (applyUpd (gone gh C) gh) with
    | false => .fail "a number told twice"
    | true =>
      match collect (calm (applyUpd (gone gh C) gh)) t' cells with
      | some z => .req p (.leaf ⟨.undef, (id, some (f z)) :: gone gh C, next⟩)
      | none => .fail "store no such data"

theorem putD_ok {d : Delta} {t : TypeId} {x y : Operand} (ho : o.op = .store t x y) (hC : Ctx a R ρ gh next d.next w ev) {s : SV} {cells : List SV} {V : Value} {n id : Nat} {p : Prop} {t' : Ty} {u : TD t'} {f : TD t' → Gb}
    (hx : a.eval x = s.den ρ) (hy : a.eval y = V) (hV : V.cells = (dens ρ cells).toArray) (hn : n = cells.length) (hs : sizeT P t = some n) (hl : lensOf gh s n = some (id, p, ⟨t', u, f⟩)) {C : List Nat} (h : (putD gh id p t' f cells C next).reach d) : OpOK P o a R ρ gh next w d := by
  unfold putD at h
  split at h
  · exact h.elim
  · rename_i hself
    split at h
    · exact h.elim
    · rename_i honce
      split at h
      · rename_i z hz
        obtain ⟨hp, h⟩ := h
        cases h
        obtain ⟨g0, b, oo, cur, T, hP⟩ := lensOf_sound hC.rep hl hp
        obtain ⟨gh2, hgh2⟩ : ∃ gh2, gh2 = applyUpd (gone gh C) gh := ⟨_, rfl⟩
        have hlk : ∀ k, look gh2 k = (look gh k).map fun g => bif memN k C then g.abs else g := fun k => by rw [hgh2]; exact look_gone gh C k
        rw [← hgh2] at honce hz
        obtain ⟨R2, hG2, k1, k2, k3⟩ := RepG.letgo hC.rep (gh2 := gh2) (fun k => memN k C) hlk
        have hg2 : look gh2 id = some g0 := by rw [hlk, hP.gh]; simp only [Option.map, hself, cond_false]
        have hRb : ¬ R2 b := (hG2.olt id g0 b hg2 hP.own).2
        have hzr := calm_reads hG2 honce hz
        have hVs : V.cells.size = n := by rw [hV]; simp [hn]
        have h1c : ∀ v ∈ V.cells.toList, v.oneCell' = true := by
          intro v hv; rw [hV] at hv; simp only [dens, List.mem_map] at hv
          obtain ⟨c, _, rfl⟩ := hv
          exact SV.oneCell ρ c
        have hrun := run_storeVar (P := P) (w := w) (t := t) (b := b) (o := oo) (v := V) (by rw [hVs]; exact hs) hP.heap (by rw [hVs]; exact hP.fit) h1c
        obtain ⟨W, hW⟩ : ∃ W, W = w.setRow b (cur.toList.take oo ++ V.cells.toList ++ cur.toList.drop (oo + V.cells.size)).toArray := ⟨_, rfl⟩
        rw [← hW] at hrun
        have hother : ∀ k, k ≠ b → W.heap[k]? = w.heap[k]? := fun k hk => by rw [hW]; exact setRow_other w b k _ hk
        have hfact : Gfact R2 W ρ id (f z) := by
          refine hP.put R2 W z (dens ρ cells) (fun k hk => ⟨k1 k hk, hother k fun e => hRb (e ▸ k1 k hk)⟩) (ReadsC.mono (fun k hk => ⟨hk, hother k fun e => hRb (e ▸ hk)⟩) _ _ _ hzr) ?_
          rw [hW, setRow_heap w b _ _ T (0, 0) hP.heap, hVs, hV]
        obtain ⟨p1, p2⟩ := RepG.upd1 (next := next) hG2 hg2 hP.own (hP.put2 z).1 hfact hother (by rw [hW]; exact setRow_size _ _ _) (by rw [hW]; rfl) (by rw [hW]; rfl) (by rw [hW]; rfl) next
        have heq : applyUpd ((id, some (f z)) :: gone gh C) gh = applyUpd [(id, some (f z))] gh2 := by rw [hgh2]; rfl
        refine OpOK.of_skip (ρ' := ρ) (R' := R2) (w' := W) ?_ rfl ?_ ?_
        · simp only [execOp, ho, hx, hy, hP.den, Instr.storeAt, Instr.sureAddr, Sem.run_bind, Sem.run_pure, Result.andThen_ok, hrun]
        · simp only [heq]
          exact (Ext.letgo k1 k2 k3).trans p2 (Nat.le_refl _) (Nat.le_refl _)
        · simp only [heq]
          exact p1
      · exact h.elim

/-- an object's cells ahead of its data, written to -/
def putPre (id off : Nat) (cs : List SV) (t : Ty) (x : TD t) (cells : List SV) (next : Nat) : Tree Delta :=
  .leaf ⟨.undef, [(id, some (.obj (cs.take off ++ cells ++ cs.drop (off + cells.length)) t x))], next⟩

theorem putPre_ok {d : Delta} {t : TypeId} {x y : Operand} (ho : o.op = .store t x y) (hC : Ctx a R ρ gh next d.next w ev) {cells : List SV} {V : Value} {id off : Nat} {cs : List SV} {t0 : Ty} {x0 : TD t0}
    (hx : a.eval x = (SV.ptr id off).den ρ) (hy : a.eval y = V) (hV : V.cells = (dens ρ cells).toArray) (hs : sizeT P t = some cells.length) (hg : look gh id = some (.obj cs t0 x0)) (hl : off + cells.length ≤ cs.length)
    (h : (putPre id off cs t0 x0 cells next).reach d) : OpOK P o a R ρ gh next w d := by
  cases h
  obtain ⟨b, T, vs, ha, hh, hr⟩ := hC.rep.facts _ _ hg
  have hVs : V.cells.size = cells.length := by rw [hV]; simp
  have h1c : ∀ v ∈ V.cells.toList, v.oneCell' = true := by
    intro v hv; rw [hV] at hv; simp only [dens, List.mem_map] at hv
    obtain ⟨c, _, rfl⟩ := hv
    exact SV.oneCell ρ c
  have hRb : ¬ R b := (hC.rep.olt id _ b hg (by simp [Gb.ownB, ha])).2
  have hrun := run_storeVar (P := P) (w := w) (t := t) (b := b) (o := off) (v := V) (by rw [hVs]; exact hs) hh (by rw [hVs]; simp; omega) h1c
  obtain ⟨W, hW⟩ : ∃ W, W = w.setRow b ((dens ρ cs ++ vs).toArray.toList.take off ++ V.cells.toList ++ (dens ρ cs ++ vs).toArray.toList.drop (off + V.cells.size)).toArray := ⟨_, rfl⟩
  rw [← hW] at hrun
  have hother : ∀ k, k ≠ b → W.heap[k]? = w.heap[k]? := fun k hk => by rw [hW]; exact setRow_other w b k _ hk
  have hfact : Gfact R W ρ id (.obj (cs.take off ++ cells ++ cs.drop (off + cells.length)) t0 x0) := by
    refine ⟨b, T, vs, ha, ?_, ReadsC.mono (fun k hk => ⟨hk, hother k fun e => hRb (e ▸ hk)⟩) _ _ _ hr⟩
    rw [hW, setRow_heap w b _ _ T (0, 0) hh, hVs, hV]
    congr 3
    simp only [dens_append]
    rw [List.take_append_of_le_length (by simp; omega), List.drop_append_of_le_length (by simp; omega)]
    simp [dens]
  obtain ⟨p1, p2⟩ := RepG.upd1 (next := next) hC.rep hg (b := b) (g1 := .obj (cs.take off ++ cells ++ cs.drop (off + cells.length)) t0 x0) (by simp [Gb.ownB, ha]) (by simp [Gb.ownB, ha]) hfact hother (by rw [hW]; exact setRow_size _ _ _) (by rw [hW]; rfl) (by rw [hW]; rfl) (by rw [hW]; rfl) next
  refine OpOK.of_skip (ρ' := ρ) (R' := R) (w' := W) ?_ rfl p2 p1
  have hat : ρ.at id off = some ⟨b, off, none⟩ := by simp [Env.at, ha]
  simp only [execOp, ho, hx, hy, SV.den, hat, Instr.storeAt, Instr.sureAddr, Sem.run_bind, Sem.run_pure, Result.andThen_ok, hrun]

/-! ### a part of a row of one's own, put by -/
def normU (gh : Gh) (v : SV) (next : Nat) : Option (List (Nat × Option Gb)) :=
  match v with
  | .win id lo len sz =>
    match look gh id with
    | some (.own t xs) => bif Nat.beq sz t.size then some [(next, some (.own t ((xs.drop lo).take len))), (id, none)] else none
    | _ => none
  | _ => none

theorem normU_sound (hG : RepG R ρ gh w) (hbd : ∀ id g, look gh id = some g → (id < next ∨ next + 1 ≤ id) ∧ ∀ i ∈ g.ids, i < next ∨ next + 1 ≤ i) {v : SV} {u : List (Nat × Option Gb)} (h : normU gh v next = some u) :
    ∃ S : Slot, v.den ρ = (SV.row next).den (ρ.set next S) ∧ RepG R (ρ.set next S) (applyUpd u gh) w ∧ Ext R ρ gh w next R (ρ.set next S) (applyUpd u gh) w (next + 1) := by
  unfold normU at h
  split at h
  · rename_i id lo len sz
    split at h
    · rename_i t xs hg
      cases hb : Nat.beq sz t.size with
      | false => rw [hb] at h; cases h
      | true =>
        rw [hb] at h
        simp only [cond_true] at h
        injection h with h; subst h
        have hb := beq_iff.1 hb
        subst hb
        obtain ⟨f1, f2, f3⟩ := hG.facts _ _ hg
        have hG1 : RepG R ρ (erase id gh) w := hG.without fun i g h => by
          rw [look_erase] at h
          split at h
          · cases h
          · exact h
        have hl1 : ∀ k g, look (erase id gh) k = some g → id ≠ k ∧ look gh k = some g := fun k g h => by
          rw [look_erase] at h
          by_cases e : id = k
          · rw [if_pos e] at h; cases h
          · rw [if_neg e] at h; exact ⟨e, h⟩
        have hbd1 : ∀ k g, look (erase id gh) k = some g → (k < next ∨ next + 1 ≤ k) ∧ ∀ i ∈ g.ids, i < next ∨ next + 1 ≤ i := fun k g h => hbd k g (hl1 k g h).2
        obtain ⟨S, hS⟩ : ∃ S : Slot, S = ⟨(if (ρ id).cap ≤ lo then (ρ id).addr else ρ.at id (lo * t.size)), min len ((ρ id).len - lo), (ρ id).cap - lo⟩ := ⟨_, rfl⟩
        have hSown : OwnRow R w (ρ.set next S) next t ((xs.drop lo).take len) := by
          refine ⟨by rw [Env.set_at, hS]; simp [f1], by rw [Env.set_at, hS]; simp; omega, ?_⟩
          rw [Env.set_at, hS]
          rcases f3 with ⟨e1, e2, e3⟩ | ⟨b, off, cur, T, ha, hh, hs, hx⟩
          · refine .inl ⟨by simp [Env.at, e1], by rw [e2]; simp, by simp only; omega⟩
          · refine .inr ⟨b, if (ρ id).cap ≤ lo then off else off + lo * t.size, cur, T, ?_, hh, ?_, fun i x hi => ?_⟩
            · by_cases hl : (ρ id).cap ≤ lo
              · simp only [if_pos hl, ha]
              · simp only [if_neg hl]; simp [Env.at, ha]
            · by_cases hl : (ρ id).cap ≤ lo
              · simp only [if_pos hl, Nat.sub_eq_zero_of_le hl]; omega
              · simp only [if_neg hl]; rw [Nat.add_assoc, ← Nat.add_mul, Nat.add_sub_of_le (by omega)]; exact hs
            · rw [List.getElem?_take] at hi
              split at hi
              · rw [List.getElem?_drop] at hi
                have hlt := (List.getElem?_eq_some_iff.1 hi).1
                have hl : ¬ (ρ id).cap ≤ lo := by omega
                obtain ⟨c, c1, c2, c3⟩ := hx (lo + i) x hi
                refine ⟨c, c1, fun j hj => ?_, c3⟩
                rw [if_neg hl, ← c2 j hj, Nat.add_mul]
                congr 1; omega
              · cases hi
        have hSb : ∀ A, S.addr = some A → (Gb.own t xs).ownB ρ id = some A.block := fun A hA => by
          rw [hS] at hA
          simp only at hA
          cases hr : (ρ id).addr with
          | none => rw [hr] at hA; simp [Env.at, hr] at hA
          | some B =>
            simp only [Gb.ownB, hr, Option.map]
            split at hA
            · rw [hr] at hA; injection hA with hA; rw [hA]
            · simp [Env.at, hr] at hA; rw [← hA]
        have hno : ∀ A, S.addr = some A → ¬ OwnB ρ (erase id gh) A.block := fun A hA ⟨k, g, hk, hkb⟩ => by
          obtain ⟨n1, n2⟩ := hl1 k g hk
          exact n1 (hG.sep id k _ g A.block hg n2 (hSb A hA) hkb)
        have heq : applyUpd [(next, some (.own t ((xs.drop lo).take len))), (id, none)] gh = (next, .own t ((xs.drop lo).take len)) :: erase next (erase id gh) := rfl
        rw [heq]
        have hrep := RepG.addOwn (w' := w) hG1 hbd1 (fun _ _ => rfl) (Nat.le_refl _) hSown (fun A hA => ⟨(hG.olt id _ A.block hg (hSb A hA)).1, (hG.olt id _ A.block hg (hSb A hA)).2, hno A hA⟩)
        refine ⟨S, ?_, hrep, ?_⟩
        · simp only [SV.den, Env.set_at, hS]
        · refine ⟨Nat.le_refl _, rfl, rfl, rfl, fun _ _ _ => rfl, fun k hk => Env.set_same ρ next S k hk, fun _ h => h, fun _ h => .inl h, ?_⟩
          rintro b ⟨k, g, hk, hkb⟩
          rw [look_cons, look_erase] at hk
          by_cases e : next = k
          · subst e
            rw [if_pos rfl] at hk; injection hk with hk; subst hk
            simp only [Gb.ownB, Env.set_at] at hkb
            cases hA : S.addr with
            | none => rw [hA] at hkb; cases hkb
            | some A => rw [hA] at hkb; simp at hkb; subst hkb; exact .inl ⟨id, _, hg, hSb A hA⟩
          · rw [if_neg e, if_neg e] at hk
            rw [ownB_same (Env.set_same ρ next S k (hbd1 k g hk).1)] at hkb
            exact .inl ⟨k, g, (hl1 k g hk).2, hkb⟩
    · cases h
  · cases h

def stepStoreN (P : Program) (t : TypeId) (s : SV) (v : SV) (n : Nat) (gh : Gh) (next : Nat) : Option (Tree Delta) :=
  match normU gh v next with
  | none => none
  | some u =>
    bif Nat.beq n 1 then
      some (match preOf (applyUpd u gh) s 1 with
        | some (id, off, cs, ⟨t0, x0⟩) => .leaf ⟨.undef, (id, some (.obj (cs.take off ++ [.row next] ++ cs.drop (off + 1)) t0 x0)) :: u, next + 1⟩
        | none => (writeAt (applyUpd u gh) s [.row next]).bind fun u2 => .leaf ⟨.undef, u2 ++ u, next + 1⟩)
    else none

def stepStoreW (P : Program) (t : TypeId) (a v : Option Tv) (gh : Gh) (next : Nat) : Option (Tree Delta) :=
  match a, v.bind tvCells, sizeT P t with
  | some (.one s), some cells, some n =>
    match (match v with | some (.one c) => stepStoreN P t s c n gh next | _ => none) with
    | some tr => some tr
    | none =>
      bif Nat.beq n cells.length then
        match objB gh s with
        | true =>
          match preOf gh s n with
          | some (id, off, cs, ⟨t0, x0⟩) => some (putPre id off cs t0 x0 cells next)
          | none =>
            match lensOf gh s n with
            | some (id, p, ⟨t', _, f⟩) => some (putD gh id p t' f cells (reachN gh 6 (idsOf cells)) next)
            | none => some (.fail "store no part of the data")
        | false =>
          match lensOf gh s n with
          | some (id, p, ⟨t', y, f⟩) =>
            match t' with
            | .int _ | .bool => none
            | t' => some (putD gh id p t' f cells (reachN gh 6 (idsOf cells)) next)
          | none => none
      else none
  | _, _, _ => none

theorem stepStoreN_ok {d : Delta} {t : TypeId} {x y : Operand} {tr : Tree Delta} (ho : o.op = .store t x y) (hC : Ctx a R ρ gh next d.next w ev) {s v : SV} {n : Nat}
    (hs : ev x = some (.one s)) (hv : ev y = some (.one v)) (hn : sizeT P t = some n) (ht : stepStoreN P t s v n gh next = some tr) (h : tr.reach d) : OpOK P o a R ρ gh next w d := by
  unfold stepStoreN at ht
  split at ht
  · cases ht
  · rename_i u hu
    cases hb : Nat.beq n 1 with
    | false => rw [hb] at ht; cases ht
    | true =>
      rw [hb] at ht
      simp only [cond_true] at ht
      injection ht with ht; subst ht
      have e1 := beq_iff.1 hb
      subst e1
      have hdn : d.next = next + 1 := by
        split at h
        · cases h; rfl
        · obtain ⟨u2, _, h2⟩ := Tree.reach_bind.1 h; cases h2; rfl
      have hbd := hC.bd
      have hevb := hC.evb
      rw [hdn] at hbd hevb
      obtain ⟨S, hden, hG2, hE2⟩ := normU_sound hC.rep hbd hu
      have hex := hC.val x _ hs
      have hey := hC.val y _ hv
      simp only [Tv.den] at hex hey
      have hsd : s.den (ρ.set next S) = s.den ρ := SV.den_same (Env.set_same ρ next S) fun i hi => hevb x _ hs i hi
      rw [← hsd] at hex
      rw [hden] at hey
      have hVc : ((SV.row next).den (ρ.set next S)).cells = (dens (ρ.set next S) [SV.row next]).toArray := by simp [SV.den, dens, Value.cells]
      split at h
      · rename_i id off cs t0 x0 hpre
        obtain ⟨rfl, hg, hl⟩ := preOf_sound hpre
        cases h
        obtain ⟨b, T, vs, ha, hh, hr⟩ := hG2.facts _ _ hg
        have hRb : ¬ R b := (hG2.olt id _ b hg (by simp [Gb.ownB, ha])).2
        have hrun := run_storeVar (P := P) (w := w) (t := t) (b := b) (o := off) (v := (SV.row next).den (ρ.set next S)) (by rw [hVc]; simpa using hn) hh (by rw [hVc]; simp; omega) (by rw [hVc]; simp [dens]; rfl)
        obtain ⟨W, hW⟩ : ∃ W, W = w.setRow b ((dens (ρ.set next S) cs ++ vs).toArray.toList.take off ++ ((SV.row next).den (ρ.set next S)).cells.toList ++ (dens (ρ.set next S) cs ++ vs).toArray.toList.drop (off + ((SV.row next).den (ρ.set next S)).cells.size)).toArray := ⟨_, rfl⟩
        rw [← hW] at hrun
        have hother : ∀ k, k ≠ b → W.heap[k]? = w.heap[k]? := fun k hk => by rw [hW]; exact setRow_other w b k _ hk
        have hfact : Gfact R W (ρ.set next S) id (.obj (cs.take off ++ [.row next] ++ cs.drop (off + 1)) t0 x0) := by
          refine ⟨b, T, vs, ha, ?_, ReadsC.mono (fun k hk => ⟨hk, hother k fun e => hRb (e ▸ hk)⟩) _ _ _ hr⟩
          rw [hW, setRow_heap w b _ _ T (0, 0) hh, hVc]
          congr 3
          simp only [dens_append]
          rw [List.take_append_of_le_length (by simp; omega), List.drop_append_of_le_length (by simp [dens]; omega)]
          simp [dens]
        obtain ⟨p1, p2⟩ := RepG.upd1 (next := next + 1) hG2 hg (b := b) (g1 := .obj (cs.take off ++ [.row next] ++ cs.drop (off + 1)) t0 x0) (by simp [Gb.ownB, ha]) (by simp [Gb.ownB, ha]) hfact hother (by rw [hW]; exact setRow_size _ _ _) (by rw [hW]; rfl) (by rw [hW]; rfl) (by rw [hW]; rfl) (next + 1)
        have heq : applyUpd ((id, some (.obj (cs.take off ++ [.row next] ++ cs.drop (off + 1)) t0 x0)) :: u) gh = applyUpd [(id, some (.obj (cs.take off ++ [.row next] ++ cs.drop (off + 1)) t0 x0))] (applyUpd u gh) := rfl
        refine OpOK.of_skip (ρ' := ρ.set next S) (R' := R) (w' := W) ?_ rfl ?_ ?_
        · have hat : (ρ.set next S).at id off = some ⟨b, off, none⟩ := by simp [Env.at, ha]
          simp only [SV.den] at hex
          simp only [execOp, ho, hex, hey, hat, Instr.storeAt, Instr.sureAddr, Sem.run_bind, Sem.run_pure, Result.andThen_ok, hrun]
        · simp only [heq]
          exact hE2.trans p2 (Nat.le_succ _) (Nat.le_refl _)
        · simp only [heq]
          exact p1
      · obtain ⟨u2, h1, h2⟩ := Tree.reach_bind.1 h
        cases h2
        obtain ⟨addr, W, e1, e2, e3, e4⟩ := writeAt_sound (P := P) (next := next + 1) (n' := next + 1) hG2 hVc (by simpa using hn) h1
        refine OpOK.of_skip (ρ' := ρ.set next S) (R' := R) (w' := W) ?_ rfl ?_ ?_
        · simp only [execOp, ho, hex, hey, e1, Instr.storeAt, Instr.sureAddr, Sem.run_bind, Sem.run_pure, Result.andThen_ok, e2]
        · simp only [applyUpd_append]
          exact hE2.trans e4 (Nat.le_succ _) (Nat.le_refl _)
        · simp only [applyUpd_append]
          exact e3

attribute [local irreducible] reachN in
theorem stepStoreW_ok {d : Delta} {t : TypeId} {x y : Operand} {tr : Tree Delta} (ho : o.op = .store t x y) (hC : Ctx a R ρ gh next d.next w ev)
    (ht : stepStoreW P t (ev x) (ev y) gh next = some tr) (h : tr.reach d) : OpOK P o a R ρ gh next w d := by
  unfold stepStoreW at ht
  split at ht
  · rename_i s cells n hx hy hn
    cases hv : ev y with
    | none => rw [hv] at hy; cases hy
    | some v =>
      rw [hv] at hy
      simp only [Option.bind] at hy
      have hex := hC.val x _ hx
      have hey := hC.val y _ hv
      simp only [Tv.den] at hex
      have hVc := tvCells_den (ρ := ρ) hy
      split at ht
      · rename_i tr0 hN
        injection ht with ht; subst ht
        cases v with
        | one c => exact stepStoreN_ok ho hC hx hv hn (by rw [hv] at hN; exact hN) h
        | agg _ => rw [hv] at hN; cases hN
        | tup _ => rw [hv] at hN; cases hN
        | undef => rw [hv] at hN; cases hN
      · cases hb : Nat.beq n cells.length with
        | false => rw [hb] at ht; cases ht
        | true =>
          rw [hb] at ht
          simp only [cond_true] at ht
          have hnl := beq_iff.1 hb
          split at ht
          · split at ht
            · rename_i id off cs t0 x0 hpre
              injection ht with ht; subst ht
              obtain ⟨rfl, hg, hl⟩ := preOf_sound hpre
              exact putPre_ok ho hC hex hey hVc (hnl ▸ hn) hg (hnl ▸ hl) h
            · split at ht
              · rename_i id p t' u f hlens
                injection ht with ht; subst ht
                exact putD_ok ho hC hex hey hVc hnl hn hlens h
              · injection ht with ht; subst ht; exact h.elim
          · split at ht
            · rename_i id p t' u f hlens
              split at ht
              · cases ht
              · cases ht
              · injection ht with ht; subst ht
                exact putD_ok ho hC hex hey hVc hnl hn hlens h
            · cases ht
  · cases ht
end
end Sx
