/- A symbolic executor for the model's code: make, len, min, max, slices of slices. -/
import Derived.Test.YtofimljfdlnkgaaSx13
namespace Sx
open Go Go.RowKit

section
variable {P : Program} {o : Oper} {a : Act} {R : Nat → Prop} {ρ : Env} {gh : Gh} {next : Nat} {w : World} {ev : Operand → Option Tv}

/-! ### make -/
def stepMake (P : Program) (t : TypeId) (l c : Option Tv) (next : Nat) : Tree Delta :=
  match P.underlying t, l.bind numOf, c.bind numOf with
  | some (.slice elem), some (_, _, l), some (_, _, c) =>
    match tyOf P 20 elem, (P.info? elem).map fun i => (i.size, i.bytes), zeroS P elem with
    | some ty, some (sz, bytes), some z =>
      bif Nat.beq sz ty.size && Nat.ble 1 sz && Nat.beq z.length sz && ty.flat then
        match collect [] ty z with
        | some x => .req (0 ≤ l ∧ l ≤ c ∧ (bytes : Int) * c ≤ 140737488355328 ∧ c ≤ 140737488355328) (.leaf ⟨.one (.row next), [(next, some (.own ty (List.replicate l.toNat x)))], next + 1⟩)
        | none => .fail "make zero"
      else .fail "make sizes"
    | _, _, _ => .fail "make type"
  | _, _, _ => .fail "make"

theorem RepG.empty {R : Nat → Prop} (hR : ∀ b, R b → b < w.heap.size) : RepG R ρ [] w :=
  ⟨by simp [look], hR, by simp [look], by simp [look]⟩

theorem stepMake_ok {d : Delta} {t : TypeId} {x y : Operand} (ho : o.op = .makeSlice t x y) (hC : Ctx a R ρ gh next d.next w ev) (h : (stepMake P t (ev x) (ev y) next).reach d) : OpOK P o a R ρ gh next w d := by
  unfold stepMake at h
  split at h
  · rename_i elem cl kl l cc kc c hu hl hc
    split at h
    · rename_i ty sz bytes z hty hinfo hz
      cases hb : Nat.beq sz ty.size && Nat.ble 1 sz && Nat.beq z.length sz && ty.flat with
      | false => rw [hb] at h; exact h.elim
      | true =>
        rw [hb] at h
        simp only [cond_true] at h
        simp only [Bool.and_eq_true] at hb
        obtain ⟨⟨⟨hb1, hb2⟩, hb3⟩, hflat⟩ := hb
        have s1 := beq_iff.1 hb1
        have s2 := Nat.le_of_ble_eq_true hb2
        have s3 := beq_iff.1 hb3
        cases hi : P.info? elem with
        | none => rw [hi] at hinfo; cases hinfo
        | some info =>
          rw [hi] at hinfo
          simp only [Option.map] at hinfo
          injection hinfo with hinfo; injection hinfo with i1 i2
          split at h
          · rename_i x0 hx0
            obtain ⟨⟨r1, r2, r3, r4⟩, h⟩ := h
            cases h
            have hG := hC.rep
            obtain ⟨zv, z1, z2, z3⟩ := zeroS_sound ρ hz
            have hzi : info.zero = some zv := by
              unfold zeroS at hz
              rw [hi] at hz
              simp only [Option.bind] at hz
              cases hzz : info.zero with
              | none => rw [hzz] at hz; cases hz
              | some zv' =>
                have := z1 w
                simp [zeroValue, typeInfo, hi, hzz] at this
                rw [this]
            have hzsz : zv.cells.size = ty.size := by rw [z2]; simp [s3, s1]
            have hread : ∀ (R' : Nat → Prop) (w' : World), ReadsC R' w' ty x0 (dens ρ z) := fun R' w' =>
              ReadsC.flat ty x0 _ hflat (collect_sound (RepG.empty (w := w) (ρ := ρ) (R := fun _ => False) (by simp)) ty z x0 hx0)
            cases hv : ev x with
            | none => rw [hv] at hl; cases hl
            | some vx =>
              rw [hv] at hl
              simp only [Option.bind] at hl
              cases hw : ev y with
              | none => rw [hw] at hc; cases hc
              | some vy =>
                rw [hw] at hc
                simp only [Option.bind] at hc
                have ex := hC.val x _ hv
                have ey := hC.val y _ hw
                rw [numOf_den hl] at ex
                rw [numOf_den hc] at ey
                have hrun := run_make (P := P) w t elem info zv hu hi hzi kl kc l c r1 r2 (by rw [i2]; omega) (by omega)
                obtain ⟨S, hS⟩ : ∃ S : Slot, S = ⟨some ⟨w.heap.size, 0, none⟩, l.toNat, c.toNat⟩ := ⟨_, rfl⟩
                obtain ⟨w', hw'⟩ : ∃ w', w' = w.alloc (.cells (madeCells zv.cells (c.toNat * info.size)) elem) := ⟨_, rfl⟩
                rw [← hw'] at hrun
                have hold : ∀ k, k < w.heap.size → w'.heap[k]? = w.heap[k]? := fun k hk => by rw [hw']; exact Below.heap_alloc w _ k hk
                have hnew : w'.heap[w.heap.size]? = some (.cells (madeCells zv.cells (c.toNat * info.size)) elem (0, 0)) := by rw [hw']; exact heap_alloc_new w _
                have hcells : ∀ k, k < c.toNat * ty.size → (madeCells zv.cells (c.toNat * info.size))[k]? = (dens ρ z)[k % ty.size]? := by
                  intro k hk
                  have hm : k % ty.size < zv.cells.size := by rw [hzsz]; exact Nat.mod_lt _ (by omega)
                  simp only [madeCells, i1, s1]
                  rw [Array.getElem?_map, Array.getElem?_range, if_pos hk, Option.map_some, hzsz, getElem!_pos zv.cells (k % ty.size) hm]
                  simp only [z2, dens]
                  rw [List.getElem?_eq_getElem (by simpa [z2, dens] using hm)]
                  simp
                have hrow : OwnRow R w' (ρ.set next S) next ty (List.replicate l.toNat x0) := by
                  refine ⟨by rw [Env.set_at, hS]; simp, by rw [Env.set_at, hS]; simp; omega, .inr ⟨w.heap.size, 0, _, elem, by rw [Env.set_at, hS], hnew, ?_, fun i y' hi' => ⟨dens ρ z, by simp [s3, s1], fun j hj => ?_, ?_⟩⟩⟩
                  · rw [Env.set_at, hS]
                    simp [size_madeCells, i1, s1]
                  · have hil := (List.getElem?_eq_some_iff.1 hi').1
                    simp only [List.length_replicate] at hil
                    have hm : i * ty.size + ty.size ≤ c.toNat * ty.size := by rw [← Nat.succ_mul]; exact Nat.mul_le_mul_right _ (by omega)
                    rw [Nat.zero_add, hcells _ (by omega)]
                    congr 1
                    rw [Nat.mul_comm, Nat.mul_add_mod, Nat.mod_eq_of_lt hj]
                  · have : y' = x0 := by
                      have := List.mem_of_getElem? hi'
                      exact (List.mem_replicate.1 this).2
                    subst this
                    exact hread _ _
                have hbdl : ∀ k, (R k ∨ OwnB ρ gh k) → k < w.heap.size := by
                  rintro k (hk | ⟨id, g, h1, h2⟩)
                  · exact hG.rlt k hk
                  · exact (hG.olt id g k h1 h2).1
                have hsz : w'.heap.size = w.heap.size + 1 := by rw [hw']; simp
                have hrep := RepG.addOwn (w' := w') (t := ty) (zs := List.replicate l.toNat x0) (S := S) hG hC.bd (fun k hk => hold k (hbdl k hk)) (by omega) hrow (by
                  intro A hA
                  rw [hS] at hA
                  injection hA with hA; subst hA
                  exact ⟨by simp only; omega, fun h => by have := hbdl _ (.inl h); simp at this, fun h => by have := hbdl _ (.inr h); simp at this⟩)
                have heq : applyUpd [(next, some (.own ty (List.replicate l.toNat x0)))] gh = (next, .own ty (List.replicate l.toNat x0)) :: erase next gh := rfl
                refine OpOK.of_run (ρ' := ρ.set next S) (R' := R) (w' := w') (V := .slice S.addr S.len S.cap) ?_ ?_ ?_ ?_
                · simp only [execOp, ho, ex, ey, Sem.run_bind, hrun, Result.andThen_ok, Sem.run_pure, hS]
                · simp [Tv.den, SV.den, Env.set_at]
                · rw [heq]
                  refine ⟨by omega, by rw [hw']; rfl, by rw [hw']; rfl, by rw [hw']; rfl, fun k hk _ => hold k hk, fun id hid => Env.set_same ρ next S id hid, fun _ h => h, fun _ h => .inl h, ?_⟩
                  rintro b ⟨k, g, hk, hb⟩
                  rw [look_cons, look_erase] at hk
                  by_cases e : next = k
                  · subst e
                    rw [if_pos rfl] at hk; injection hk with hk; subst hk
                    simp only [Gb.ownB, Env.set_at, hS] at hb
                    simp at hb
                    exact .inr (Nat.le_of_eq hb)
                  · rw [if_neg e, if_neg e] at hk
                    rw [ownB_same (Env.set_same ρ next S k (hC.bd k g hk).1)] at hb
                    exact .inl ⟨k, g, hk, hb⟩
                · rw [heq]; exact hrep
          · exact h.elim
    · exact h.elim
  · exact h.elim

/-! ### make of a size that is known, copy between literals: told cell by cell -/
def stepMakeC (P : Program) (t : TypeId) (l c : Option Tv) (next : Nat) : Tree Delta :=
  match P.underlying t, l.bind numOf, c.bind numOf with
  | some (.slice elem), some (true, _, l), some (true, _, c) =>
    match (P.info? elem).map fun i => (i.size, i.bytes), zeroS P elem with
    | some (sz, bytes), some z =>
      bif Nat.beq z.length sz && Nat.ble 1 sz && decide (0 ≤ l) && decide (l = c) && decide (c ≤ 1024) && Nat.ble bytes 65536 then
        .leaf ⟨.one (.sub next 0 l.toNat c.toNat), [(next, some (.blk (repL c.toNat z)))], next + 1⟩
      else .fail "make of this size"
    | _, _ => .fail "make type"
  | _, _, _ => .fail "make of a size not known"

theorem stepMakeC_ok {d : Delta} {t : TypeId} {x y : Operand} (ho : o.op = .makeSlice t x y) (hC : Ctx a R ρ gh next d.next w ev) (h : (stepMakeC P t (ev x) (ev y) next).reach d) : OpOK P o a R ρ gh next w d := by
  unfold stepMakeC at h
  split at h
  · rename_i elem kl l kc c hu hl hc
    split at h
    · rename_i sz bytes z hinfo hz
      cases hb : Nat.beq z.length sz && Nat.ble 1 sz && decide (0 ≤ l) && decide (l = c) && decide (c ≤ 1024) && Nat.ble bytes 65536 with
      | false => rw [hb] at h; exact h.elim
      | true =>
        rw [hb] at h
        simp only [Bool.and_eq_true, decide_eq_true_eq] at hb
        obtain ⟨⟨⟨⟨⟨hb1, hb2⟩, hb3⟩, hb4⟩, hb5⟩, hb6⟩ := hb
        have s1 := beq_iff.1 hb1
        have s2 := Nat.le_of_ble_eq_true hb2
        have s6 := Nat.le_of_ble_eq_true hb6
        cases hi : P.info? elem with
        | none => rw [hi] at hinfo; cases hinfo
        | some info =>
          rw [hi] at hinfo
          simp only [Option.map] at hinfo
          injection hinfo with hinfo; injection hinfo with i1 i2
          cases h
          have hG := hC.rep
          obtain ⟨zv, z1, z2, z3⟩ := zeroS_sound ρ hz
          have hzi : info.zero = some zv := by
            unfold zeroS at hz
            rw [hi] at hz
            simp only [Option.bind] at hz
            cases hzz : info.zero with
            | none => rw [hzz] at hz; cases hz
            | some zv' =>
              have := z1 w
              simp [zeroValue, typeInfo, hi, hzz] at this
              rw [this]
          have hzsz : zv.cells.size = sz := by rw [z2]; simp [s1]
          cases hv : ev x with
          | none => rw [hv] at hl; cases hl
          | some vx =>
            rw [hv] at hl
            simp only [Option.bind] at hl
            cases hw : ev y with
            | none => rw [hw] at hc; cases hc
            | some vy =>
              rw [hw] at hc
              simp only [Option.bind] at hc
              have ex := hC.val x _ hv
              have ey := hC.val y _ hw
              rw [numOf_den hl] at ex
              rw [numOf_den hc] at ey
              have hbytes : (info.bytes : Int) * c ≤ 281474976710656 := by
                rw [i2]
                have h1 : (bytes : Int) * c ≤ 65536 * 1024 := by
                  have hc0 : 0 ≤ c := by omega
                  have := Int.mul_le_mul (a := (bytes : Int)) (b := c) (c := 65536) (d := 1024) (by omega) hb5 hc0 (by omega)
                  exact this
                omega
              have hrun := run_make (P := P) w t elem info zv hu hi hzi kl kc l c hb3 (by omega) hbytes (by omega)
              have hcells : madeCells zv.cells (c.toNat * info.size) = (dens ρ (repL c.toNat z)).toArray := by
                apply Array.ext_getElem?
                intro k
                rcases Nat.lt_or_ge k (c.toNat * sz) with hk | hk
                · have hm : k % sz < zv.cells.size := by rw [hzsz]; exact Nat.mod_lt _ (by omega)
                  simp only [madeCells, i1]
                  rw [Array.getElem?_map, Array.getElem?_range, if_pos hk, Option.map_some, hzsz, getElem!_pos zv.cells (k % sz) hm]
                  simp only [List.getElem?_toArray, dens, List.getElem?_map]
                  rw [repL_get z (by omega) c.toNat k (by rw [s1]; exact hk), s1]
                  have hm' : k % sz < z.length := by rw [s1]; exact Nat.mod_lt _ (by omega)
                  rw [List.getElem?_eq_getElem hm']
                  simp [z2, dens]
                · rw [Array.getElem?_eq_none (by simp [size_madeCells, i1]; omega), Array.getElem?_eq_none (by simp [repL_length, s1]; omega)]
              rw [hcells] at hrun
              have hids : ∀ i ∈ idsOf (repL c.toNat z), i < next ∨ next + 1 ≤ i := fun i hi' => by rw [repL_ids z3] at hi'; cases hi'
              obtain ⟨q1, q2⟩ := RepG.alloc (T := elem) hG hC.bd hids
              refine OpOK.of_run (ρ' := ρ.set next ⟨some ⟨w.heap.size, 0, none⟩, 0, 0⟩) (R' := R) (V := .slice (some ⟨w.heap.size, 0, none⟩) l.toNat c.toNat) ?_ ?_ q2 q1
              · simp only [execOp, ho, ex, ey, Sem.run_bind, hrun, Result.andThen_ok, Sem.run_pure]
              · simp [Tv.den, SV.den, Env.at, Env.set_at]
    · exact h.elim
  · exact h.elim

def stepCopy (P : Program) (t : TypeId) (x y : Option Tv) (gh : Gh) (next : Nat) : Tree Delta :=
  match x, y, P.underlying t with
  | some (.one (.sub id off len cap)), some (.one (.sub id2 off2 len2 cap2)), some (.slice elem) =>
    match (P.info? elem).map (·.size), blkAt gh id2 off2 (Nat.min len2 len), look gh id with
    | some 1, some src, some (.blk cs) =>
      bif Nat.ble (off + src.length) cs.length then .leaf ⟨.one (.cint .i64 (src.length : Int)), [(id, some (.blk (cs.take off ++ src ++ cs.drop (off + src.length))))], next⟩ else .fail "copy no such cells"
    | _, _, _ => .fail "copy"
  | _, _, _ => .fail "copy what"

theorem stepCopy_ok {d : Delta} {x y : Operand} {t t' : TypeId} (ho : o.op = .call { callee := .builtin .copy, args := ⟨[x, y]⟩, argTypes := ⟨[t, t']⟩ }) (hC : Ctx a R ρ gh next d.next w ev) (h : (stepCopy P t (ev x) (ev y) gh next).reach d) : OpOK P o a R ρ gh next w d := by
  unfold stepCopy at h
  split at h
  · rename_i id off len cap id2 off2 len2 cap2 elem hx hy hu
    split at h
    · rename_i src cs hsz hsrc hl
      cases hb : Nat.ble (off + src.length) cs.length with
      | false => rw [hb] at h; exact h.elim
      | true =>
        rw [hb] at h
        cases h
        have hle := Nat.le_of_ble_eq_true hb
        have hG := hC.rep
        obtain ⟨b, T, ha, hh⟩ := hG.facts id _ hl
        obtain ⟨b2, o2, ha2, _, hlen, hcells⟩ := blkAt_sound hG hsrc
        have ex := hC.val x _ hx
        have ey := hC.val y _ hy
        have hrun := run_copy_row (P := P) w t t' o.type elem b off len cap ⟨b2, o2 + off2, none⟩ len2 cap2 (dens ρ cs).toArray T (dens ρ src) hu hsz hh (by rw [dens_length, hlen])
          (fun j v hj => by
            have hjl := (List.getElem?_eq_some_iff.1 hj).1
            have := hcells j hjl
            rw [hj] at this
            by_cases hj0 : j = 0
            · subst hj0; simpa [Addr.add] using this
            · simpa [Addr.add, hj0] using this) (by simpa using hle) (fun v hv => by
            obtain ⟨s, hs, rfl⟩ := List.mem_map.1 hv
            cases s <;> rfl)
        have hob : (Gb.blk cs).ownB ρ id = some b := by simp [Gb.ownB, ha]
        have hfact : Gfact R (w.setRow b ((dens ρ cs).toArray.toList.take off ++ dens ρ src ++ (dens ρ cs).toArray.toList.drop (off + (dens ρ src).length)).toArray) ρ id (.blk (cs.take off ++ src ++ cs.drop (off + src.length))) := by
          refine ⟨b, T, ha, ?_⟩
          rw [setRow_heap w b _ _ T (0, 0) hh]
          simp [dens, List.map_take, List.map_drop]
        obtain ⟨q1, q2⟩ := RepG.upd1 (next := next) hG hl hob (g1 := .blk (cs.take off ++ src ++ cs.drop (off + src.length))) (by simp [Gb.ownB, ha]) hfact (fun k hk => setRow_other w b k _ hk) (setRow_size _ _ _) rfl rfl rfl next
        refine OpOK.of_run (V := goInt (dens ρ src).length) ?_ ?_ q2 q1
        · have e1 : (a.eval x) = .slice (some ⟨b, off, none⟩) len cap := by rw [ex]; simp [Tv.den, SV.den, Env.at, ha]
          have e2 : (a.eval y) = .slice (some ⟨b2, o2 + off2, none⟩) len2 cap2 := by rw [ey]; simp [Tv.den, SV.den, Env.at, ha2]
          simp only [execOp, ho, resolve, Deferred.ofValue, Sem.run_bind, Sem.run_pure, Result.andThen_ok, invoke, builtin, List.map_toArray, List.map_cons, List.map_nil, e1, e2]
          simp only [Sem.run_map, Sem.run_bind, hrun, Result.andThen_ok, Sem.run_pure]
        · simp [Tv.den, SV.den, goInt]
    · exact h.elim
  · exact h.elim

/-! ### len, min, max -/
def stepLen (P : Program) (t : TypeId) (x : Option Tv) (gh : Gh) (next : Nat) : Tree Delta :=
  match x, P.underlying t with
  | some (.one (.row id)), some (.slice _) => match rowLen gh id with | some (_, n) => .leaf ⟨.one (.int .i64 (n : Int)), [], next⟩ | none => .fail "len"
  | some (.one (.sub _ _ n _)), some (.slice _) => .leaf ⟨.one (.cint .i64 (n : Int)), [], next⟩
  | some (.one .nils), some (.slice _) => .leaf ⟨.one (.cint .i64 0), [], next⟩
  | some (.one (.str s)), some .string => .leaf ⟨.one (.int .i64 (s.size : Int)), [], next⟩
  | some _, some (.array n _) => .leaf ⟨.one (.cint .i64 (n : Int)), [], next⟩
  | _, _ => .fail "len"

theorem stepLen_ok {d : Delta} {t : TypeId} {x : Operand} {T : Array TypeId} (hT : T[0]? = some t) (ho : o.op = .call { callee := .builtin .len, args := #[x], argTypes := T }) (hC : Ctx a R ρ gh next d.next w ev)
    (h : (stepLen P t (ev x) gh next).reach d) : OpOK P o a R ρ gh next w d := by
  have fin : ∀ (vx v : Tv), ev x = some vx → d = ⟨v, [], next⟩ → (Builtin.len_ T o.type #[vx.den ρ]).run P w = .ok (v.den ρ) w → OpOK P o a R ρ gh next w d := by
    rintro vx v hx rfl hr
    refine OpOK.value hC.rep ?_
    simp only [execOp, ho, resolve, Sem.run_bind, Sem.run_pure, Result.andThen_ok, invoke, builtin]
    simp only [List.map_toArray, List.map_cons, List.map_nil, hC.val x vx hx, hr, Result.andThen_ok]
  unfold stepLen at h
  split at h
  · rename_i id e hx hu
    cases hr : rowLen gh id with
    | none => rw [hr] at h; exact h.elim
    | some p =>
      obtain ⟨sz, n⟩ := p
      rw [hr] at h
      cases h
      obtain ⟨e1, _⟩ := rowLen_sound hC.rep hr
      exact fin _ _ hx rfl (by simp [Builtin.len_, hT, run_underlying hu, Tv.den, SV.den, e1, goInt])
  · rename_i id off n c e hx hu
    cases h
    exact fin _ _ hx rfl (by simp [Builtin.len_, hT, run_underlying hu, Tv.den, SV.den, goInt])
  · rename_i e hx hu
    cases h
    exact fin _ _ hx rfl (by simp [Builtin.len_, hT, run_underlying hu, Tv.den, SV.den, goInt])
  · rename_i s hx hu
    cases h
    exact fin _ _ hx rfl (by simp [Builtin.len_, hT, run_underlying hu, Tv.den, SV.den, goInt])
  · rename_i v n e hx hu
    cases h
    exact fin _ _ hx rfl (by simp [Builtin.len_, hT, run_underlying hu, Tv.den, SV.den, goInt])
  · exact h.elim

def foldMM (mx : Bool) : Bool × IntKind × Int → List (Option Tv) → Option (Bool × IntKind × Int)
  | r, [] => some r
  | (c, k, x), v :: l =>
    match v.bind numOf with
    | some (c', _, y) => foldMM mx (c && c', k, bif mx then (if y > x then y else x) else (if y < x then y else x)) l
    | none => none

def stepMM (mx : Bool) (xs : List (Option Tv)) (next : Nat) : Tree Delta :=
  match xs with
  | some v :: r =>
    match numOf v with
    | some q => match foldMM mx q r with | some (c, k, n) => .leaf ⟨mkI c k n, [], next⟩ | none => .fail "min max"
    | none => .fail "min max"
  | _ => .fail "min max"

theorem foldMM_sound (mx : Bool) (hv : ∀ x v, ev x = some v → a.eval x = v.den ρ) : ∀ (l : List Operand) (c : Bool) (k : IntKind) (n : Int) (q : Bool × IntKind × Int), foldMM mx (c, k, n) (l.map ev) = some q →
    ((l.map a.eval).foldlM (bif mx then Builtin.max2 else Builtin.min2) (.int k n)).run P w = .ok (.int q.2.1 q.2.2) w
  | [], c, k, n, q, h => by simp only [List.map_nil, foldMM] at h; injection h with h; subst h; rfl
  | x :: l, c, k, n, q, h => by
    simp only [List.map_cons, foldMM] at h
    cases hx : ev x with
    | none => rw [hx] at h; cases h
    | some v =>
      rw [hx] at h
      simp only [Option.bind] at h
      cases hn : numOf v with
      | none => rw [hn] at h; cases h
      | some r =>
        obtain ⟨c', k', y⟩ := r
        rw [hn] at h
        simp only at h
        have := foldMM_sound mx hv l _ _ _ q h
        simp only [List.map_cons, List.foldlM_cons, hv x v hx, numOf_den hn, Sem.run_bind]
        cases mx <;> simp only [cond_true, cond_false] at this ⊢ <;> simp only [Builtin.max2, Builtin.min2, Sem.run_pure, Result.andThen_ok, this]

theorem stepMM_ok {d : Delta} {mx : Bool} {xs : Array Operand} {T : Array TypeId} (ho : o.op = .call { callee := .builtin (bif mx then .max else .min), args := xs, argTypes := T }) (hC : Ctx a R ρ gh next d.next w ev)
    (h : (stepMM mx (xs.toList.map ev) next).reach d) : OpOK P o a R ρ gh next w d := by
  unfold stepMM at h
  split at h
  · rename_i v r he
    cases hl : xs.toList with
    | nil => rw [hl] at he; cases he
    | cons x l =>
      rw [hl] at he
      injection he with h1 h2
      subst h2
      split at h
      · rename_i q hq
        obtain ⟨c, k, n⟩ := q
        split at h
        · rename_i c' k' n' hf
          cases h
          have hfs := foldMM_sound (P := P) (w := w) mx hC.val l c k n _ hf
          have hx := hC.val x _ h1
          rw [numOf_den hq] at hx
          have hmap : (xs.map a.eval).toList = .int k n :: l.map a.eval := by rw [Array.toList_map, hl, List.map_cons, hx]
          refine OpOK.value hC.rep ?_
          cases mx <;> simp only [cond_true, cond_false] at ho hfs <;>
            simp only [execOp, ho, resolve, Sem.run_bind, Sem.run_pure, Result.andThen_ok, invoke, builtin, Builtin.max_, Builtin.min_, hmap, hfs, mkI_den]
        · exact h.elim
      · exact h.elim
  · exact h.elim

/-! ### a slice of a slice -/
def bndOf (d : Int) : Option (Option Tv) → Option Int
  | none => some d
  | some v => (v.bind numOf).map fun q => q.2.2

theorem run_bounds {b : Bool} {n c : Nat} {lo hi : Option Operand} {L H : Int} (hv : ∀ x v, ev x = some v → a.eval x = v.den ρ)
    (hl : bndOf 0 (lo.map ev) = some L) (hh : bndOf n (hi.map ev) = some H) (h0 : 0 ≤ L) (h1 : L ≤ H) (h2 : H ≤ (c : Int)) :
    (Instr.sliceBounds b n c (lo.map a.eval) (hi.map a.eval) none).run P w = .ok (L.toNat, H.toNat, c) w := by
  have num : ∀ (x : Operand) (z : Int), ((ev x).bind numOf).map (fun q => q.2.2) = some z → ∃ k, a.eval x = .int k z := by
    intro x z h
    cases hx : ev x with
    | none => rw [hx] at h; cases h
    | some v =>
      rw [hx] at h
      simp only [Option.bind] at h
      cases hn : numOf v with
      | none => rw [hn] at h; cases h
      | some q =>
        obtain ⟨q1, q2, q3⟩ := q
        rw [hn] at h
        simp only [Option.map] at h
        injection h with h; subst h
        exact ⟨q2, by rw [hv x v hx, numOf_den hn]⟩
  have e1 : (H.toNat : Int) = H := Int.toNat_of_nonneg (by omega)
  cases lo with
  | none =>
    simp only [bndOf, Option.map_none] at hl
    injection hl with hl; subst hl
    cases hi with
    | none =>
      simp only [bndOf, Option.map_none] at hh
      injection hh with hh; subst hh
      simp [Instr.sliceBounds]
    | some y =>
      obtain ⟨k, hy⟩ := num y H (by simpa [bndOf] using hh)
      simp [Instr.sliceBounds, Instr.sliceBound, hy, asIntOf, show 0 ≤ H by omega, h2]
  | some x =>
    obtain ⟨kx, hx⟩ := num x L (by simpa [bndOf] using hl)
    cases hi with
    | none =>
      simp only [bndOf, Option.map_none] at hh
      injection hh with hh; subst hh
      simp [Instr.sliceBounds, Instr.sliceBound, hx, asIntOf, h0, h1]
    | some y =>
      obtain ⟨k, hy⟩ := num y H (by simpa [bndOf] using hh)
      simp [Instr.sliceBounds, Instr.sliceBound, hx, hy, asIntOf, show 0 ≤ H by omega, h2, h0, e1, h1]

/-- what a row reads -/
def rowAt (gh : Gh) (id : Nat) : Option (Bool × (t : Ty) × List (TD t)) :=
  match look gh id with
  | some (.ro t xs) => some (false, ⟨t, xs⟩)
  | some (.own t xs) => some (true, ⟨t, xs⟩)
  | _ => none

def stepSlice (P : Program) (t : TypeId) (x : Option Tv) (lo hi : Option (Option Tv)) (gh : Gh) (next : Nat) : Tree Delta :=
  match x, P.underlying t with
  | some (.one (.str s)), some .string =>
    match bndOf 0 lo, bndOf s.size hi with
    | some L, some H => .req (0 ≤ L ∧ L ≤ H ∧ H ≤ (s.size : Int)) (.leaf ⟨.one (.str (s.extract L.toNat H.toNat)), [], next⟩)
    | _, _ => .fail "slice"
  | some (.one (.row id)), some (.slice elem) =>
    match rowAt gh id, sizeT P elem with
    | some (ow, ⟨ty, xs⟩), some sz =>
      match bndOf 0 lo, bndOf xs.length hi with
      | some L, some H =>
        bif Nat.beq sz ty.size then
          .req (0 ≤ L ∧ L ≤ H ∧ H ≤ (xs.length : Int)) (.leaf ⟨.one (.row next), (next, some (.ro ty ((xs.drop L.toNat).take (H.toNat - L.toNat)))) :: (match ow with | true => [(id, some (.ro ty xs))] | false => []), next + 1⟩)
        else .fail "slice sizes"
      | _, _ => .fail "slice"
    | _, _ => .fail "slice no row"
  | some (.one (.sub id off len cap)), some (.slice elem) =>
    match sizeT P elem, bndOf 0 lo, bndOf len hi with
    | some sz, some L, some H =>
      bif decide (0 ≤ L) && decide (L ≤ H) && decide (H ≤ (cap : Int)) then
        .leaf ⟨.one (.sub id (bif Nat.beq cap L.toNat then off else off + L.toNat * sz) (H.toNat - L.toNat) (cap - L.toNat)), [], next⟩
      else .fail "slice bounds"
    | _, _, _ => .fail "slice"
  | some (.one (.ptr id off)), some (.array n elem) =>
    match sizeT P elem, bndOf 0 lo, bndOf n hi with
    | some sz, some L, some H =>
      bif decide (0 ≤ L) && decide (L ≤ H) && decide (H ≤ (n : Int)) && sureP gh (.ptr id off) then
        .leaf ⟨.one (.sub id (bif Nat.beq n L.toNat then off else off + L.toNat * sz) (H.toNat - L.toNat) (n - L.toNat)), [], next⟩
      else .fail "slice bounds"
    | _, _, _ => .fail "slice"
  | _, _ => .fail "slice"

theorem at_add (id off k : Nat) : (ρ.at id off).map (·.add k) = ρ.at id (off + k) := by
  unfold Env.at
  cases (ρ id).addr with
  | none => rfl
  | some A => simp [addr_add, Nat.add_assoc]

theorem stepSlice_ok {d : Delta} {t : TypeId} {x : Operand} {lo hi : Option Operand} (ho : o.op = .slice t x lo hi none) (hC : Ctx a R ρ gh next d.next w ev)
    (h : (stepSlice P t (ev x) (lo.map ev) (hi.map ev) gh next).reach d) : OpOK P o a R ρ gh next w d := by
  unfold stepSlice at h
  split at h
  · rename_i s hx hu
    split at h
    · rename_i L H hL hH
      obtain ⟨⟨h0, h1, h2⟩, h⟩ := h
      cases h
      refine OpOK.value hC.rep ?_
      have hb := run_bounds (P := P) (w := w) (a := a) (ρ := ρ) (b := false) (c := s.size) hC.val hL hH h0 h1 h2
      simp only [execOp, ho, hC.val x _ hx, Tv.den, SV.den, Option.map_none, Instr.sliceAt, Instr.slice, Sem.run_bind, run_underlying hu, Result.andThen_ok, Sem.run_pure]
      simp [hb]
    · exact h.elim
  · rename_i id elem hx hu
    split at h
    · rename_i ow ty xs sz hr hs
      split at h
      · rename_i L H hL hH
        cases hb : Nat.beq sz ty.size with
        | false => rw [hb] at h; exact h.elim
        | true =>
          rw [hb] at h
          obtain ⟨⟨h0, h1, h2⟩, h⟩ := h
          cases h
          have e := beq_iff.1 hb
          subst e
          have hG := hC.rep
          -- what the row is
          have hrow : ∃ g, look gh id = some g ∧ (ow = true → g = .own ty xs) ∧ (ow = false → g = .ro ty xs) := by
            unfold rowAt at hr
            cases hg : look gh id with
            | none => rw [hg] at hr; cases hr
            | some g =>
              rw [hg] at hr
              cases g with
              | blk _ => cases hr
              | rob _ => cases hr
              | opt _ _ => cases hr
              | pin _ _ => cases hr
              | obj _ _ _ => cases hr
              | ro t' ys =>
                simp only at hr
                injection hr with hr; injection hr with e1 e2; injection e2 with e2 e3
                subst e1; subst e2; cases e3
                exact ⟨_, rfl, by simp, fun _ => rfl⟩
              | own t' ys =>
                simp only at hr
                injection hr with hr; injection hr with e1 e2; injection e2 with e2 e3
                subst e1; subst e2; cases e3
                exact ⟨_, rfl, fun _ => rfl, by simp⟩
          obtain ⟨g, hg, hg1, hg2⟩ := hrow
          obtain ⟨R1, hR1⟩ : ∃ R1 : Nat → Prop, R1 = fun b => R b ∨ g.ownB ρ id = some b := ⟨_, rfl⟩
          have hRR : ∀ b, R b → R1 b := fun b hb => by rw [hR1]; exact .inl hb
          have hR1lt : ∀ b, R1 b → b < w.heap.size := fun b hb => by rw [hR1] at hb; exact hb.elim (hG.rlt b) fun h => (hG.olt id g b hg h).1
          have hro : Gfact R1 w ρ id (.ro ty xs) := by
            have := Gfact.abs hG hg hRR (fun b hb => by rw [hR1]; exact .inr hb)
            cases ow with
            | true => rw [hg1 rfl] at this; exact this
            | false => rw [hg2 rfl] at this; exact this
          obtain ⟨f1, f2, f3⟩ := hro
          obtain ⟨S, hS⟩ : ∃ S : Slot, S = ⟨(if (ρ id).cap = L.toNat then (ρ id).addr else (ρ id).addr.map (·.add (L.toNat * ty.size))), H.toNat - L.toNat, (ρ id).cap - L.toNat⟩ := ⟨_, rfl⟩
          have hnew : Gfact R1 w (ρ.set next S) next (.ro ty ((xs.drop L.toNat).take (H.toNat - L.toNat))) := by
            refine ⟨by rw [Env.set_at, hS]; simp; omega, by rw [Env.set_at, hS]; simp; omega, ?_⟩
            rw [Env.set_at, hS]
            intro i y hi
            rw [List.getElem?_take] at hi
            split at hi
            · rename_i hlt
              rw [List.getElem?_drop] at hi
              obtain ⟨b, oo, ha, hb, cs, c1, c2, c3⟩ := f3 (L.toNat + i) y hi
              have hil := (List.getElem?_eq_some_iff.1 hi).1
              refine ⟨b, oo + L.toNat * ty.size, ?_, hb, cs, c1, ?_, c3⟩
              · rw [if_neg (by omega), ha]; simp [addr_add]
              · rw [Nat.add_mul, ← Nat.add_assoc] at c2; exact c2
            · cases hi
          have hbd : ∀ id g, look gh id = some g → (id < next ∨ next + 1 ≤ id) ∧ ∀ i ∈ g.ids, i < next ∨ next + 1 ≤ i := hC.bd
          have hSame : SameOn (fun i => i < next ∨ next + 1 ≤ i) ρ (ρ.set next S) := Env.set_same ρ next S
          -- the memory behind
          have hupd : ∀ k, look (applyUpd ((next, some (.ro ty ((xs.drop L.toNat).take (H.toNat - L.toNat)))) :: (match ow with | true => [(id, some (.ro ty xs))] | false => [])) gh) k =
              if next = k then some (.ro ty ((xs.drop L.toNat).take (H.toNat - L.toNat))) else if id = k then some (.ro ty xs) else look gh k := by
            intro k
            rw [look_applyUpd, look_cons]
            by_cases e : next = k
            · simp [e]
            · rw [if_neg e, if_neg e]
              cases ow with
              | true =>
                simp only [look_cons]
                by_cases e2 : id = k
                · subst e2; simp
                · simp [e2, look]
              | false =>
                simp only [look, Option.elim]
                by_cases e2 : id = k
                · subst e2; simp [hg, hg2]
                · simp [e2]
          have hnx : id ≠ next := by have := (hbd id g hg).1; omega
          have hcase : ∀ k b, look (applyUpd ((next, some (.ro ty ((xs.drop L.toNat).take (H.toNat - L.toNat)))) :: (match ow with | true => [(id, some (.ro ty xs))] | false => [])) gh) k = some b →
              (k = next ∧ b = .ro ty ((xs.drop L.toNat).take (H.toNat - L.toNat))) ∨ (k = id ∧ b = .ro ty xs) ∨ (k ≠ next ∧ k ≠ id ∧ look gh k = some b) := by
            intro k b hb
            rw [hupd] at hb
            by_cases e : next = k
            · rw [if_pos e] at hb; injection hb with hb; exact .inl ⟨e.symm, hb.symm⟩
            · rw [if_neg e] at hb
              by_cases e2 : id = k
              · rw [if_pos e2] at hb; injection hb with hb; exact .inr (.inl ⟨e2.symm, hb.symm⟩)
              · rw [if_neg e2] at hb; exact .inr (.inr ⟨fun h => e h.symm, fun h => e2 h.symm, hb⟩)
          have hown : ∀ k b c, look (applyUpd ((next, some (.ro ty ((xs.drop L.toNat).take (H.toNat - L.toNat)))) :: (match ow with | true => [(id, some (.ro ty xs))] | false => [])) gh) k = some b →
              b.ownB (ρ.set next S) k = some c → k ≠ id ∧ look gh k = some b ∧ b.ownB ρ k = some c := by
            intro k b c hb hc
            rcases hcase k b hb with ⟨_, rfl⟩ | ⟨_, rfl⟩ | ⟨n1, n2, h3⟩
            · cases hc
            · cases hc
            · rw [ownB_same (hSame k (hbd k b h3).1)] at hc; exact ⟨n2, h3, hc⟩
          refine OpOK.of_run (ρ' := ρ.set next S) (R' := R1) (w' := w) (V := .slice S.addr S.len S.cap) ?_ ?_ ?_ ?_
          · have hb := run_bounds (P := P) (w := w) (a := a) (ρ := ρ) (b := true) (c := (ρ id).cap) (n := (ρ id).len) hC.val hL (by rw [← f1]; exact hH) h0 h1 (by omega)
            simp only [execOp, ho, hC.val x _ hx, Tv.den, SV.den, Option.map_none, Instr.sliceAt, Instr.slice, Sem.run_bind, run_underlying hu, Result.andThen_ok, hb, run_sizeOf' hs, Sem.run_pure, hS]
          · simp [Tv.den, SV.den, Env.set_at]
          · refine ⟨Nat.le_refl _, rfl, rfl, rfl, fun _ _ _ => rfl, fun k hk => hSame k hk, hRR, fun b hb => ?_, ?_⟩
            · rw [hR1] at hb; exact hb.elim .inl fun h => .inr (.inl ⟨id, g, hg, h⟩)
            · rintro b ⟨k, gb, hk, hb⟩
              obtain ⟨_, h3, h4⟩ := hown k gb b hk hb
              exact .inl ⟨k, gb, h3, h4⟩
          · refine ⟨fun k b hk => ?_, hR1lt, fun k b c hk hc => ?_, fun k k' b b' c h1 h2 h3 h4 => ?_⟩
            · rcases hcase k b hk with ⟨rfl, rfl⟩ | ⟨rfl, rfl⟩ | ⟨n1, n2, h3⟩
              · exact hnew
              · refine Gfact.mono (fun b hb => ⟨hb, rfl⟩) hSame (hbd k g hg).1 (by simp [Gb.ids]) (fun _ _ => rfl) ⟨f1, f2, f3⟩
              · exact Gfact.mono (fun b hb => ⟨hRR b hb, rfl⟩) hSame (hbd k b h3).1 (hbd k b h3).2 (fun _ _ => rfl) (hG.facts k b h3)
            · obtain ⟨n2, h3, h4⟩ := hown k b c hk hc
              refine ⟨(hG.olt k b c h3 h4).1, fun h => ?_⟩
              rw [hR1] at h
              rcases h with h | h
              · exact (hG.olt k b c h3 h4).2 h
              · exact n2 (hG.sep k id b g c h3 hg h4 h)
            · obtain ⟨_, h5, h6⟩ := hown k b c h1 h3
              obtain ⟨_, h7, h8⟩ := hown k' b' c h2 h4
              exact hG.sep k k' b b' c h5 h7 h6 h8
      · exact h.elim
    · exact h.elim
  · rename_i id off len cap elem hx hu
    split at h
    · rename_i sz L H hs hL hH
      cases hb : decide (0 ≤ L) && decide (L ≤ H) && decide (H ≤ (cap : Int)) with
      | false => rw [hb] at h; exact h.elim
      | true =>
        rw [hb] at h
        cases h
        simp only [Bool.and_eq_true, decide_eq_true_eq] at hb
        refine OpOK.value hC.rep ?_
        have hbd := run_bounds (P := P) (w := w) (a := a) (ρ := ρ) (b := true) (c := cap) hC.val hL hH hb.1.1 hb.1.2 hb.2
        simp only [execOp, ho, hC.val x _ hx, Tv.den, SV.den, Option.map_none, Instr.sliceAt, Instr.slice, Sem.run_bind, run_underlying hu, Result.andThen_ok, hbd, run_sizeOf' hs, Sem.run_pure]
        congr 3
        by_cases hc : cap = L.toNat
        · rw [if_pos hc, beq_iff.2 hc]; rfl
        · rw [if_neg hc, beq_false_iff.2 hc]; simp only [cond_false]; exact at_add id off _
    · exact h.elim
  · rename_i id off n elem hx hu
    split at h
    · rename_i sz L H hs hL hH
      cases hb : decide (0 ≤ L) && decide (L ≤ H) && decide (H ≤ (n : Int)) && sureP gh (.ptr id off) with
      | false => rw [hb] at h; exact h.elim
      | true =>
        rw [hb] at h
        cases h
        simp only [Bool.and_eq_true, decide_eq_true_eq] at hb
        obtain ⟨b, oo, hd⟩ := sureP_sound hC.rep hb.2
        have hd' : ρ.at id off = some ⟨b, oo, none⟩ := by simpa [SV.den] using hd
        refine OpOK.value hC.rep ?_
        have hbd := run_bounds (P := P) (w := w) (a := a) (ρ := ρ) (b := false) (c := n) hC.val hL hH hb.1.1.1 hb.1.1.2 hb.1.2
        simp only [execOp, ho, hC.val x _ hx, Tv.den, SV.den, hd', Option.map_none, Instr.sliceAt, Instr.sureAddr, Sem.run_bind, run_underlying hu, Result.andThen_ok, hbd, run_sizeOf' hs, Sem.run_pure]
        congr 3
        by_cases hc : n = L.toNat
        · rw [if_pos hc, beq_iff.2 hc]; simp only [cond_true]; exact hd'.symm
        · rw [if_neg hc, beq_false_iff.2 hc]; simp only [cond_false]
          rw [← at_add id off _, hd']; rfl
    · exact h.elim
  · exact h.elim
end
end Sx
