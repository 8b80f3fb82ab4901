/- A symbolic executor for the model's code: built values, builtins, slices of slices. -/
import Derived.Test.YtofimljfdlnkgaaSx10
namespace Sx
open Go Go.RowKit

/-! ### build -/
def fillS (place : Nat → Option (Nat × Nat)) : List SV → List (Nat × List SV) → Option (List SV)
  | cells, [] => some cells
  | cells, (i, v) :: rest =>
    match place i with
    | none => none
    | some (off, size) =>
      bif Nat.beq v.length size && Nat.ble (off + v.length) cells.length then fillS place (cells.take off ++ v ++ cells.drop (off + v.length)) rest else none

def partsS : List (Nat × Option Tv) → Option (List (Nat × List SV))
  | [] => some []
  | (i, v) :: r =>
    match v.bind tvCells with
    | none => none
    | some cs =>
      match partsS r with
      | none => none
      | some l => some ((i, cs) :: l)

def placesT (P : Program) (t : TypeId) : Option (Nat → Option (Nat × Nat)) :=
  match P.underlying t with
  | some (.array _ e) => (P.info? e).map fun ie i => some (i * ie.size, ie.size)
  | some (.struct fields) => (fields.toList.mapM fun f => (P.info? f.type).map fun i => (f.offset, i.size)).map fun places i => places[i]?
  | _ => none

def stepBuild (P : Program) (t : TypeId) (parts : List (Nat × Option Tv)) (next : Nat) : Tree Delta :=
  match placesT P t, zeroS P t, partsS parts with
  | some place, some z, some ps =>
    match fillS place z ps with
    | some cs => .leaf ⟨.agg cs, [], next⟩
    | none => .fail "build"
  | _, _, _ => .fail "build"

inductive All2 {α β : Type} (r : α → β → Prop) : List α → List β → Prop
  | nil : All2 r [] []
  | cons {x : α} {y : β} {xs : List α} {ys : List β} : r x y → All2 r xs ys → All2 r (x :: xs) (y :: ys)

theorem foldl_set (off : Nat) : ∀ (l : List Value) (k : Nat) (arr : Array Value), off + k + l.length ≤ arr.size →
    ((l.zipIdx k).foldl (fun cs p => cs.setIfInBounds (off + p.2) p.1) arr).toList = arr.toList.take (off + k) ++ l ++ arr.toList.drop (off + k + l.length)
  | [], k, arr, _ => by simp
  | v :: r, k, arr, h => by
    simp only [List.length_cons] at h
    rw [List.zipIdx_cons, List.foldl_cons, foldl_set off r (k + 1) _ (by simp; omega)]
    have := list_seg_step arr.toList (off + k) v r (by simp; omega)
    simp only [Array.toList_setIfInBounds, List.length_cons, ← Nat.add_assoc] at this ⊢
    rw [this]

section
variable {P : Program} {o : Oper} {a : Act} {R : Nat → Prop} {ρ : Env} {gh : Gh} {next : Nat} {w : World} {ev : Operand → Option Tv}

theorem fillS_sound {place : Nat → Option (Nat × Nat)} : ∀ {ps : List (Nat × List SV)} {vs : List (Nat × Value)} {cells r : List SV} {arr : Array Value},
    (All2 (fun p q => p.1 = q.1 ∧ q.2.cells = (dens ρ p.2).toArray) ps vs) → arr = (dens ρ cells).toArray → fillS place cells ps = some r → Instr.fill place arr vs = some (dens ρ r).toArray
  | [], vs, cells, r, arr, hf, ha, h => by
    cases hf
    simp only [fillS] at h; injection h with h; subst h; subst ha
    rfl
  | (i, v) :: ps, vs, cells, r, arr, hf, ha, h => by
    cases hf with
    | cons h1 h2 =>
      rename_i q qs
      obtain ⟨j, x⟩ := q
      obtain ⟨e1, e2⟩ := h1
      simp only at e1 e2
      subst e1
      simp only [fillS] at h
      cases hp : place i with
      | none => rw [hp] at h; cases h
      | some pl =>
        obtain ⟨off, size⟩ := pl
        rw [hp] at h
        simp only at h
        cases hb : Nat.beq v.length size && Nat.ble (off + v.length) cells.length with
        | false => rw [hb] at h; cases h
        | true =>
          rw [hb] at h
          simp only [cond_true] at h
          rw [Bool.and_eq_true] at hb
          have l1 := beq_iff.1 hb.1
          have l2 := Nat.le_of_ble_eq_true hb.2
          have hsz : x.cells.size = v.length := by rw [e2]; simp
          simp only [Instr.fill, hp]
          rw [if_neg (by subst ha; rw [hsz]; simp; omega)]
          refine fillS_sound h2 ?_ h
          subst ha
          apply Array.ext'
          rw [← Array.foldl_toList, Array.toList_zipIdx, e2]
          rw [foldl_set off (dens ρ v) 0 _ (by simp; omega)]
          simp [dens]

theorem partsS_sound {P : Program} {a : Act} {ev : Operand → Option Tv} (hv : ∀ x v, ev x = some v → a.eval x = v.den ρ) : ∀ {l : List (Nat × Operand)} {ps : List (Nat × List SV)},
    partsS (l.map fun p => (p.1, ev p.2)) = some ps → All2 (fun p q => p.1 = q.1 ∧ q.2.cells = (dens ρ p.2).toArray) ps (l.map fun p => (p.1, a.eval p.2))
  | [], ps, h => by simp only [List.map_nil, partsS] at h; injection h with h; subst h; exact .nil
  | (i, x) :: l, ps, h => by
    simp only [List.map_cons, partsS] at h
    cases hx : ev x with
    | none => rw [hx] at h; cases h
    | some v =>
      rw [hx] at h
      simp only [Option.bind] at h
      cases hc : tvCells v with
      | none => rw [hc] at h; cases h
      | some cs =>
        rw [hc] at h
        simp only at h
        cases hr : partsS (l.map fun p => (p.1, ev p.2)) with
        | none => rw [hr] at h; cases h
        | some q =>
          rw [hr] at h
          simp only at h
          injection h with h; subst h
          exact .cons ⟨rfl, by simp only [hv x v hx]; exact tvCells_den hc⟩ (partsS_sound (P := P) hv hr)

theorem stepBuild_ok {d : Delta} {t : TypeId} {parts : Array (Nat × Operand)} (ho : o.op = .build t parts) (hC : Ctx a R ρ gh next d.next w ev)
    (h : (stepBuild P t (parts.toList.map fun p => (p.1, ev p.2)) next).reach d) : OpOK P o a R ρ gh next w d := by
  unfold stepBuild at h
  split at h
  · rename_i place z ps hp hz hps
    cases hf : fillS place z ps with
    | none => rw [hf] at h; exact h.elim
    | some cs =>
      rw [hf] at h
      cases h
      have h1 := partsS_sound (P := P) hC.val hps
      have hb : P.built t (parts.map fun (i, x) => (i, a.eval x)).toList = some (dens ρ cs).toArray := by
        unfold zeroS at hz
        cases hi : P.info? t with
        | none => rw [hi] at hz; cases hz
        | some it =>
          rw [hi] at hz
          simp only [Option.bind] at hz
          cases hzz : it.zero with
          | none => rw [hzz] at hz; cases hz
          | some zv =>
            rw [hzz] at hz
            simp only at hz
            obtain ⟨hz1, _⟩ := cSVs_sound ρ hz
            have hzc : zv.cells = (dens ρ z).toArray := by rw [hz1]
            unfold placesT at hp
            unfold Program.built
            rw [hi]
            have hmap : (parts.map fun (x : Nat × Operand) => (x.1, a.eval x.2)).toList = parts.toList.map fun p => (p.1, a.eval p.2) := by simp
            cases hu : P.underlying t with
            | none => rw [hu] at hp; cases hp
            | some td =>
              rw [hu] at hp
              cases td <;> simp only at hp <;> try (cases hp; done)
              · rename_i n e
                cases hie : P.info? e with
                | none => rw [hie] at hp; cases hp
                | some ie =>
                  rw [hie] at hp
                  simp only [Option.map] at hp
                  injection hp with hp; subst hp
                  simp only [hzz, hie]
                  exact fillS_sound (by rw [hmap]; exact h1) hzc hf
              · rename_i fields
                cases hm : fields.toList.mapM (fun f => (P.info? f.type).map fun i => (f.offset, i.size)) with
                | none => rw [hm] at hp; cases hp
                | some places =>
                  rw [hm] at hp
                  simp only [Option.map] at hp
                  injection hp with hp; subst hp
                  simp only [hzz, hm]
                  refine fillS_sound (by rw [hmap]; exact h1) hzc ?_
                  rw [← hf]
                  congr 1
                  funext i
                  simp
      refine OpOK.value hC.rep ?_
      simp only [execOp, ho, Sem.run_bind, run_build w t _ _ hb, Result.andThen_ok, Sem.run_pure, Tv.den]
  · exact h.elim

/-! ### buildSlice -/
def repL : Nat → List SV → List SV
  | 0, _ => []
  | n + 1, z => z ++ repL n z

theorem repL_length (n : Nat) (z : List SV) : (repL n z).length = n * z.length := by
  induction n with
  | zero => simp [repL]
  | succ n ih => simp [repL, ih, Nat.succ_mul, Nat.add_comm]

theorem repL_get (z : List SV) (hz : 0 < z.length) : ∀ (n i : Nat), i < n * z.length → (repL n z)[i]? = z[i % z.length]?
  | 0, i, h => by simp at h
  | n + 1, i, h => by
    rw [Nat.succ_mul] at h
    simp only [repL]
    by_cases hi : i < z.length
    · rw [List.getElem?_append_left hi, Nat.mod_eq_of_lt hi]
    · rw [List.getElem?_append_right (by omega), repL_get z hz n (i - z.length) (by omega)]
      congr 1
      exact (Nat.mod_eq_sub_mod (by omega)).symm

theorem repL_ids {z : List SV} (hz : idsOf z = []) : ∀ n, idsOf (repL n z) = []
  | 0 => rfl
  | n + 1 => by simp [repL, idsOf_append, hz, repL_ids hz n]

def stepBuildS (P : Program) (t : TypeId) (len : Nat) (parts : List (Nat × Option Tv)) (next : Nat) : Tree Delta :=
  match P.underlying t with
  | some (.slice elem) =>
    match sizeT P elem, zeroS P elem, partsS parts with
    | some sz, some z, some ps =>
      bif Nat.ble (len * sz) (2 ^ 24) && Nat.beq z.length sz && Nat.ble 1 sz then
        match fillS (fun i => some (i * sz, sz)) (repL len z) ps with
        | some cs => .leaf ⟨.one (.sub next 0 len len), [(next, some (.blk cs))], next + 1⟩
        | none => .fail "a slice s literal"
      else .fail "a slice s literal"
    | _, _, _ => .fail "a slice s literal"
  | _ => .fail "a slice s literal"

theorem fillS_ids {place : Nat → Option (Nat × Nat)} {q : Nat → Prop} : ∀ {ps : List (Nat × List SV)} {cells r : List SV}, (∀ i ∈ idsOf cells, q i) → (∀ p ∈ ps, ∀ i ∈ idsOf p.2, q i) → fillS place cells ps = some r → ∀ i ∈ idsOf r, q i
  | [], cells, r, hc, _, h => by simp only [fillS] at h; injection h with h; subst h; exact hc
  | (j, v) :: ps, cells, r, hc, hp, h => by
    simp only [fillS] at h
    cases hpl : place j with
    | none => rw [hpl] at h; cases h
    | some pl =>
      obtain ⟨off, size⟩ := pl
      rw [hpl] at h
      simp only at h
      cases hb : Nat.beq v.length size && Nat.ble (off + v.length) cells.length with
      | false => rw [hb] at h; cases h
      | true =>
        rw [hb] at h
        simp only [cond_true] at h
        refine fillS_ids (fun i hi => ?_) (fun p hp' => hp p (List.mem_cons_of_mem _ hp')) h
        rw [idsOf_append, idsOf_append] at hi
        simp only [List.mem_append] at hi
        rcases hi with (hi | hi) | hi
        · obtain ⟨c, hc1, hc2⟩ := List.mem_flatMap.1 hi
          exact hc i (List.mem_flatMap.2 ⟨c, List.mem_of_mem_take hc1, hc2⟩)
        · exact hp (j, v) (List.mem_cons_self) i hi
        · obtain ⟨c, hc1, hc2⟩ := List.mem_flatMap.1 hi
          exact hc i (List.mem_flatMap.2 ⟨c, List.mem_of_mem_drop hc1, hc2⟩)

theorem partsS_ids {q : Nat → Prop} : ∀ {l : List (Nat × Operand)} {ps : List (Nat × List SV)}, (∀ x v, ev x = some v → ∀ i ∈ v.ids, q i) → partsS (l.map fun p => (p.1, ev p.2)) = some ps → ∀ p ∈ ps, ∀ i ∈ idsOf p.2, q i
  | [], ps, _, h => by simp only [List.map_nil, partsS] at h; injection h with h; subst h; simp
  | (i, x) :: l, ps, hq, h => by
    simp only [List.map_cons, partsS] at h
    cases hx : ev x with
    | none => rw [hx] at h; cases h
    | some v =>
      rw [hx] at h
      simp only [Option.bind] at h
      cases hc : tvCells v with
      | none => rw [hc] at h; cases h
      | some cs =>
        rw [hc] at h
        simp only at h
        cases hr : partsS (l.map fun p => (p.1, ev p.2)) with
        | none => rw [hr] at h; cases h
        | some r =>
          rw [hr] at h
          simp only at h
          injection h with h; subst h
          intro p hp
          rcases List.mem_cons.1 hp with rfl | hp
          · intro j hj; exact hq x v hx j (by rw [← tvCells_ids hc]; exact hj)
          · exact partsS_ids hq hr p hp

theorem stepBuildS_ok {d : Delta} {t : TypeId} {len : Nat} {parts : Array (Nat × Operand)} (ho : o.op = .buildSlice t len parts) (hC : Ctx a R ρ gh next d.next w ev)
    (h : (stepBuildS P t len (parts.toList.map fun p => (p.1, ev p.2)) next).reach d) : OpOK P o a R ρ gh next w d := by
  unfold stepBuildS at h
  split at h
  · rename_i elem hu
    split at h
    · rename_i sz z ps hs hz hps
      cases hb : Nat.ble (len * sz) (2 ^ 24) && Nat.beq z.length sz && Nat.ble 1 sz with
      | false => rw [hb] at h; exact h.elim
      | true =>
        rw [hb] at h
        simp only [cond_true] at h
        simp only [Bool.and_eq_true] at hb
        have l1 := Nat.le_of_ble_eq_true hb.1.1
        have l2 := beq_iff.1 hb.1.2
        have l3 := Nat.le_of_ble_eq_true hb.2
        split at h
        · rename_i cs hf
          cases h
          have h1 := partsS_sound (P := P) hC.val hps
          obtain ⟨zv, z1, z2, z3⟩ := zeroS_sound ρ hz
          have hids : ∀ i ∈ idsOf cs, i < next ∨ next + 1 ≤ i := fillS_ids (by simp [repL_ids z3]) (partsS_ids hC.evb hps) hf
          obtain ⟨g1, g2⟩ := RepG.alloc (next := next) (cs := cs) (T := elem) hC.rep hC.bd hids
          refine OpOK.of_run (V := .slice (some ⟨w.heap.size, 0, none⟩) len len) ?_ ?_ g2 g1
          · have hmap : (parts.map fun (x : Nat × Operand) => (x.1, a.eval x.2)).toList = parts.toList.map fun p => (p.1, a.eval p.2) := by simp
            have hrep : (Array.range (len * sz)).map (fun x => zv.cells[x % zv.cells.size]!) = (dens ρ (repL len z)).toArray ∨ len = 0 := by
              by_cases hl0 : len = 0
              · exact .inr hl0
              left
              have hzs : zv.cells.size = sz := by rw [z2]; simp [l2]
              apply Array.ext'
              apply List.ext_getElem?
              intro i
              by_cases hi : i < len * sz
              · have e1 : ((Array.range (len * sz)).map (fun x => zv.cells[x % zv.cells.size]!)).toList[i]? = some (zv.cells[i % sz]!) := by
                  simp [hi, hzs]
                rw [e1]
                simp only [dens]
                rw [List.getElem?_map, repL_get z (by omega) len i (by rw [l2]; exact hi), l2]
                have hm : i % sz < z.length := by rw [l2]; exact Nat.mod_lt _ (by omega)
                rw [List.getElem?_eq_getElem hm]
                simp only [Option.map_some]
                congr 1
                rw [getElem!_pos zv.cells (i % sz) (by rw [hzs]; omega)]
                simp only [z2, dens, List.getElem_toArray, List.getElem_map]
              · rw [List.getElem?_eq_none (by simp; omega), List.getElem?_eq_none (by simp [repL_length, l2]; omega)]
            have hfill : Instr.fill (fun i => some (i * sz, sz)) (if len = 0 then #[] else (Array.range (len * sz)).map (fun x => zv.cells[x % zv.cells.size]!)) (parts.map fun (x : Nat × Operand) => (x.1, a.eval x.2)).toList = some (dens ρ cs).toArray := by
              by_cases hl0 : len = 0
              · subst hl0; rw [if_pos rfl]; exact fillS_sound (by rw [hmap]; exact h1) (by rfl) hf
              · rw [if_neg hl0]; exact fillS_sound (by rw [hmap]; exact h1) (hrep.resolve_right hl0) hf
            have hnot : ¬ len * sz > 2 ^ 24 := by omega
            by_cases hl0 : len = 0
            · subst hl0
              rw [if_pos rfl] at hfill
              have hr : Array.range 0 = #[] := rfl
              have hn0 : ¬ 0 > 2 ^ 24 := by omega
              simp only [execOp, ho, Instr.buildSlice, Sem.run_bind, run_underlying hu, Result.andThen_ok, run_sizeOf' hs, Nat.zero_mul, if_neg hn0, if_true, Sem.run_pure]
              simp only [hr, Array.map_empty]
              simp only [hfill, newRow, Sem.run_bind, run_newObj, Result.andThen_ok, Sem.run_pure]
              rfl
            · rw [if_neg hl0] at hfill
              have hne : ¬ len * sz = 0 := by
                intro h0
                rcases Nat.mul_eq_zero.1 h0 with h0 | h0 <;> omega
              simp only [execOp, ho, Instr.buildSlice, Sem.run_bind, run_underlying hu, Result.andThen_ok, run_sizeOf' hs, if_neg hnot, if_neg hne, z1, Sem.run_pure]
              simp only [hfill, newRow, Sem.run_bind, run_newObj, Result.andThen_ok, Sem.run_pure]
              rfl
          · simp [Tv.den, SV.den, Env.at, Env.set_at]
        · exact h.elim
    · exact h.elim
  · exact h.elim
end
end Sx
