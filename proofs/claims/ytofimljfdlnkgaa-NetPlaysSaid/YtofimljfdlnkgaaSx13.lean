/- A symbolic executor for the model's code: append, told by what it makes. -/
import Derived.Test.YtofimljfdlnkgaaSx12
namespace Sx
open Go Go.RowKit

theorem AllR_len {α : Type} {p : α → List Value → Prop} {sz : Nat} (h : ∀ x cs, p x cs → cs.length = sz) : ∀ {xs : List α} {cs : List Value}, AllR p xs cs → cs.length = xs.length * sz
  | [], cs, hc => by have : cs = [] := hc; subst this; simp
  | x :: xs, cs, ⟨c1, c2, e, h1, h2⟩ => by
    subst e
    simp only [List.length_append, List.length_cons, h _ _ h1, AllR_len h h2, Nat.succ_mul]
    omega

theorem AllR_one {α : Type} {p : α → List Value → Prop} (h : ∀ x cs, p x cs → ∀ v ∈ cs, v.oneCell' = true) : ∀ {xs : List α} {cs : List Value}, AllR p xs cs → ∀ v ∈ cs, v.oneCell' = true
  | [], cs, hc, v, hv => by have : cs = [] := hc; subst this; simp at hv
  | x :: xs, cs, ⟨c1, c2, e, h1, h2⟩, v, hv => by
    subst e
    rcases List.mem_append.1 hv with hv | hv
    · exact h _ _ h1 v hv
    · exact AllR_one h h2 v hv

theorem ReadsC_len {R : Nat → Prop} {w : World} : ∀ (t : Ty) (x : TD t) (cs : List Value), ReadsC R w t x cs → cs.length = t.size
  | .int _, _, _, h => by have : _ = _ := h; subst this; rfl
  | .bool, _, _, h => by have : _ = _ := h; subst this; rfl
  | .str, _, _, h => by have : _ = _ := h; subst this; rfl
  | .unit, _, _, h => by have : _ = _ := h; subst this; rfl
  | .cat a b, _, _, ⟨c1, c2, e, h1, h2⟩ => by subst e; simp only [List.length_append, ReadsC_len a _ _ h1, ReadsC_len b _ _ h2, Ty.size]
  | .rep n a, xs, cs, ⟨hl, h⟩ => by rw [AllR_len (ReadsC_len a) h, hl]; rfl
  | .slice a, _, _, ⟨_, _, e, _⟩ => by subst e; rfl
  | .ptr a, _, _, ⟨_, _, e, _⟩ => by subst e; rfl
  | .optr a, x, _, h => by
    cases x with
    | none => have : _ = _ := h; subst this; rfl
    | some y => obtain ⟨_, _, e, _⟩ := h; subst e; rfl
  | .fnl _, _, _, h => by have : _ = _ := h; subst this; rfl
  | .clo _ a, _, _, ⟨_, _, e, _⟩ => by subst e; rfl

theorem ReadsC_one {R : Nat → Prop} {w : World} : ∀ (t : Ty) (x : TD t) (cs : List Value), ReadsC R w t x cs → ∀ v ∈ cs, v.oneCell' = true
  | .int _, _, _, h, v, hv => by have : _ = _ := h; subst this; simp at hv; subst hv; rfl
  | .bool, _, _, h, v, hv => by have : _ = _ := h; subst this; simp at hv; subst hv; rfl
  | .str, _, _, h, v, hv => by have : _ = _ := h; subst this; simp at hv; subst hv; rfl
  | .unit, _, _, h, v, hv => by have : _ = _ := h; subst this; simp at hv
  | .cat a b, _, _, ⟨c1, c2, e, h1, h2⟩, v, hv => by
    subst e
    rcases List.mem_append.1 hv with hv | hv
    · exact ReadsC_one a _ _ h1 v hv
    · exact ReadsC_one b _ _ h2 v hv
  | .rep n a, xs, cs, ⟨_, h⟩, v, hv => AllR_one (ReadsC_one a) h v hv
  | .slice a, _, _, ⟨_, _, e, _⟩, v, hv => by subst e; simp at hv; subst hv; rfl
  | .ptr a, _, _, ⟨_, _, e, _⟩, v, hv => by subst e; simp at hv; subst hv; rfl
  | .optr a, x, _, h, v, hv => by
    cases x with
    | none => have : _ = _ := h; subst this; simp at hv; subst hv; rfl
    | some y => obtain ⟨_, _, e, _⟩ := h; subst e; simp at hv; subst hv; rfl
  | .fnl _, _, _, h, v, hv => by have : _ = _ := h; subst this; simp at hv; subst hv; rfl
  | .clo _ a, _, _, ⟨_, _, e, _⟩, v, hv => by subst e; simp at hv; subst hv; rfl

/-- a row's cells, one behind another -/
theorem row_cells {R : Nat → Prop} {w : World} {t : Ty} {xs : List (TD t)} {A : Option Addr} (h : RowR R w t.size (ReadsC R w t) xs A) :
    ∃ vs : List Value, vs.length = xs.length * t.size ∧ (∀ i x, xs[i]? = some x → ∃ c : List Value, c.length = t.size ∧ (∀ j, j < t.size → vs[i * t.size + j]? = c[j]?) ∧ ReadsC R w t x c) ∧
      (∀ v ∈ vs, v.oneCell' = true) ∧ (xs = [] ∨ ∃ b o, A = some ⟨b, o, none⟩ ∧ CellsAt w b o vs) := by
  by_cases hx : xs = []
  · subst hx; exact ⟨[], by simp, by simp, by simp, .inl rfl⟩
  · obtain ⟨x0, xr, rfl⟩ := List.exists_cons_of_ne_nil hx
    obtain ⟨b, o, hA, _, _⟩ := h 0 x0 rfl
    generalize hys : x0 :: xr = ys at *
    have hcell : ∀ i x, ys[i]? = some x → ∃ c : List Value, c.length = t.size ∧ CellsAt w b (o + i * t.size) c ∧ ReadsC R w t x c := by
      intro i x hi
      obtain ⟨b', o', hA', _, c, h1, h2, h3⟩ := h i x hi
      rw [hA] at hA'
      injection hA' with hA'; injection hA' with e1 e2
      subst e1; subst e2
      exact ⟨c, h1, h2, h3⟩
    have hk : ∀ k, k < ys.length * t.size → ∃ v, w.cell? ⟨b, o + k, none⟩ = some v ∧ v.oneCell' = true := by
      intro k hk
      have hsz : 0 < t.size := by
        rcases Nat.eq_zero_or_pos t.size with h0 | h0
        · rw [h0] at hk; simp at hk
        · exact h0
      have hi : k / t.size < ys.length := (Nat.div_lt_iff_lt_mul hsz).2 hk
      obtain ⟨c, h1, h2, h3⟩ := hcell (k / t.size) _ (List.getElem?_eq_getElem hi)
      have hm : k % t.size < c.length := by rw [h1]; exact Nat.mod_lt _ hsz
      have := h2 (k % t.size) hm
      rw [Nat.add_assoc, Nat.mul_comm, Nat.div_add_mod, List.getElem?_eq_getElem hm] at this
      exact ⟨_, this, ReadsC_one t _ _ h3 _ (List.getElem_mem hm)⟩
    refine ⟨(List.range (ys.length * t.size)).map fun k => (w.cell? ⟨b, o + k, none⟩).getD undef, by simp, fun i x hi => ?_, fun v hv => ?_, .inr ⟨b, o, hA, fun j hj => ?_⟩⟩
    · obtain ⟨c, h1, h2, h3⟩ := hcell i x hi
      refine ⟨c, h1, fun j hj => ?_, h3⟩
      have hil := (List.getElem?_eq_some_iff.1 hi).1
      have hm : i * t.size + t.size ≤ ys.length * t.size := by rw [← Nat.succ_mul]; exact Nat.mul_le_mul_right _ hil
      have := h2 j (by omega)
      rw [Nat.add_assoc] at this
      rw [List.getElem?_map, List.getElem?_range (by omega), Option.map_some, this, List.getElem?_eq_getElem (by omega)]
      rfl
    · simp only [List.mem_map, List.mem_range] at hv
      obtain ⟨k, hk', rfl⟩ := hv
      obtain ⟨v, e, h1⟩ := hk k hk'
      rw [e]; exact h1
    · simp only [List.length_map, List.length_range] at hj
      obtain ⟨v, e, h1⟩ := hk j hj
      rw [List.getElem?_map, List.getElem?_range hj, Option.map_some, e]; rfl

def dropId (d : Option Nat) (gh : Gh) : Gh :=
  match d with
  | some id => erase id gh
  | none => gh

theorem dropId_sub {d : Option Nat} {gh : Gh} {id : Nat} {g : Gb} (h : look (dropId d gh) id = some g) : look gh id = some g ∧ d ≠ some id := by
  cases d with
  | none => exact ⟨h, by simp⟩
  | some k =>
    simp only [dropId, look_erase] at h
    by_cases e : k = id
    · rw [if_pos e] at h; cases h
    · rw [if_neg e] at h; exact ⟨h, by simp [e]⟩

def dstOf (gh : Gh) (t : Ty) : SV → Option (Option Nat × List (TD t))
  | .nils => some (none, [])
  | .row id =>
    match look gh id with
    | some (.own t0 xs) => (castL t0 t xs).map fun ys => (some id, ys)
    | _ => none
  | .sub id off len cap =>
    bif Nat.beq off 0 && Nat.beq len cap then
      match look gh id with
      | some (.blk cs) => bif Nat.beq cs.length (len * t.size) then (collectN (collect (erase id gh) t) t.size len cs).map fun ys => (some id, ys) else none
      | _ => none
    else none
  | .win id lo len sz =>
    bif Nat.beq sz t.size then
      match look gh id with
      | some (.own t0 xs) => (castL t0 t ((xs.drop lo).take len)).map fun ys => (some id, ys)
      | _ => none
    else none
  | _ => none

section
variable {P : Program} {o : Oper} {a : Act} {R : Nat → Prop} {ρ : Env} {gh : Gh} {next : Nat} {w : World} {ev : Operand → Option Tv}

theorem dstOf_sound (hG : RepG R ρ gh w) {t : Ty} {s : SV} {d : Option Nat} {xs : List (TD t)} (h : dstOf gh t s = some (d, xs)) :
    ∃ A sLen sCap, s.den ρ = .slice A sLen sCap ∧ xs.length = sLen ∧ sLen ≤ sCap ∧ (∀ id, d = some id → ∃ g, look gh id = some g) ∧
      ((A = none ∧ sLen = 0 ∧ sCap = 0) ∨ ∃ b off cur T, A = some ⟨b, off, none⟩ ∧ w.heap[b]? = some (.cells cur T (0, 0)) ∧ OwnB ρ gh b ∧ ¬ R b ∧ ¬ OwnB ρ (dropId d gh) b ∧ off + sCap * t.size ≤ cur.size ∧
        ∀ i x, xs[i]? = some x → ∃ c : List Value, c.length = t.size ∧ (∀ j, j < t.size → cur[off + i * t.size + j]? = c[j]?) ∧ ReadsC (Rplus R ρ (dropId d gh)) w t x c) := by
  have hsep : ∀ id g b, look gh id = some g → g.ownB ρ id = some b → ¬ OwnB ρ (dropId (some id) gh) b := by
    rintro id g b hg hb ⟨id', g', hg', hb'⟩
    obtain ⟨h1, h2⟩ := dropId_sub hg'
    exact h2 (congrArg some (hG.sep id id' g g' b hg h1 hb hb'))
  cases s <;> simp only [dstOf] at h <;> try (cases h; done)
  · injection h with h; injection h with h1 h2; subst h1; subst h2
    exact ⟨none, 0, 0, rfl, rfl, Nat.le_refl _, by simp, .inl ⟨rfl, rfl, rfl⟩⟩
  · rename_i id
    cases hg : look gh id with
    | none => rw [hg] at h; cases h
    | some g =>
      rw [hg] at h
      cases g with
      | blk _ => cases h
      | rob _ => cases h
      | ro _ _ => cases h
      | opt _ _ => cases h
      | pin _ _ => cases h
      | obj _ _ _ => cases h
      | own t0 ys =>
        simp only at h
        cases hc : castL t0 t ys with
        | none => rw [hc] at h; cases h
        | some zs =>
          rw [hc] at h
          simp only [Option.map] at h
          injection h with h; injection h with h1 h2; subst h1; subst h2
          obtain ⟨e, rfl⟩ := castL_sound hc
          subst e
          obtain ⟨f1, f2, f3⟩ := hG.facts id _ hg
          refine ⟨(ρ id).addr, (ρ id).len, (ρ id).cap, rfl, f1, by rw [← f1]; exact f2, by rintro _ ⟨⟩; exact ⟨_, hg⟩, ?_⟩
          rcases f3 with ⟨e1, e2, e3⟩ | ⟨b, off, cur, T, ha, hh, hs, hx⟩
          · exact .inl ⟨e1, by rw [← f1, e2]; rfl, e3⟩
          · have hob : (Gb.own t0 ys).ownB ρ id = some b := by simp [Gb.ownB, ha]
            refine .inr ⟨b, off, cur, T, ha, hh, ⟨id, _, hg, hob⟩, (hG.olt id _ b hg hob).2, hsep id _ b hg hob, hs, fun i x hi => ?_⟩
            obtain ⟨c, c1, c2, c3⟩ := hx i x hi
            exact ⟨c, c1, c2, ReadsC.mono (fun b hb => ⟨.inl hb, rfl⟩) _ _ _ c3⟩
  · rename_i id off len cap
    cases hb : Nat.beq off 0 && Nat.beq len cap with
    | false => rw [hb] at h; cases h
    | true =>
      rw [hb] at h
      simp only [cond_true] at h
      rw [Bool.and_eq_true] at hb
      have e1 := beq_iff.1 hb.1
      have e2 := beq_iff.1 hb.2
      subst e1; subst e2
      cases hg : look gh id with
      | none => rw [hg] at h; cases h
      | some g =>
        rw [hg] at h
        cases g with
        | rob _ => cases h
        | ro _ _ => cases h
        | own _ _ => cases h
        | opt _ _ => cases h
        | pin _ _ => cases h
        | obj _ _ _ => cases h
        | blk cs =>
          simp only at h
          cases hl : Nat.beq cs.length (len * t.size) with
          | false => rw [hl] at h; cases h
          | true =>
            rw [hl] at h
            simp only [cond_true] at h
            have hl' := beq_iff.1 hl
            cases hc : collectN (collect (erase id gh) t) t.size len cs with
            | none => rw [hc] at h; cases h
            | some zs =>
              rw [hc] at h
              simp only [Option.map] at h
              injection h with h; injection h with h1 h2; subst h1; subst h2
              obtain ⟨b, T, ha, hh⟩ := hG.facts id _ hg
              have hob : (Gb.blk cs).ownB ρ id = some b := by simp [Gb.ownB, ha]
              have hG1 : RepG R ρ (erase id gh) w := hG.without fun i g h => (dropId_sub (d := some id) h).1
              obtain ⟨q1, _, q3⟩ := collectN_sound (ρ := ρ) (fun cs x => collect_sound hG1 t cs x) len cs zs hc hl'
              refine ⟨some ⟨b, 0, none⟩, len, len, by simp [SV.den, Env.at, ha], q1, Nat.le_refl _, by rintro _ ⟨⟩; exact ⟨_, hg⟩, .inr ⟨b, 0, _, T, rfl, hh, ⟨id, _, hg, hob⟩, (hG.olt id _ b hg hob).2, hsep id _ b hg hob, by simp [hl'], fun i x hi => ?_⟩⟩
              have hil := (List.getElem?_eq_some_iff.1 hi).1
              rw [q1] at hil
              have hm : i * t.size + t.size ≤ len * t.size := by rw [← Nat.succ_mul]; exact Nat.mul_le_mul_right _ hil
              refine ⟨_, by simp; omega, fun j hj => ?_, q3 i x hi⟩
              simp only [dens, List.getElem?_toArray, List.map_take, List.map_drop]
              rw [List.getElem?_take, if_pos hj, List.getElem?_drop]
              congr 1; omega
  · rename_i id lo len sz
    cases hb : Nat.beq sz t.size with
    | false => rw [hb] at h; cases h
    | true =>
      rw [hb] at h
      simp only [cond_true] at h
      have hb := beq_iff.1 hb
      cases hg : look gh id with
      | none => rw [hg] at h; cases h
      | some g =>
        rw [hg] at h
        cases g with
        | blk _ => cases h
        | rob _ => cases h
        | ro _ _ => cases h
        | opt _ _ => cases h
        | pin _ _ => cases h
        | obj _ _ _ => cases h
        | own t0 ys =>
          simp only at h
          cases hc : castL t0 t ((ys.drop lo).take len) with
          | none => rw [hc] at h; cases h
          | some zs =>
            rw [hc] at h
            simp only [Option.map] at h
            injection h with h; injection h with h1 h2; subst h1; subst h2
            obtain ⟨e, rfl⟩ := castL_sound hc
            subst e
            subst hb
            obtain ⟨f1, f2, f3⟩ := hG.facts id _ hg
            refine ⟨_, _, _, rfl, by rw [← f1]; simp, by rw [← f1]; omega, by rintro _ ⟨⟩; exact ⟨_, hg⟩, ?_⟩
            rcases f3 with ⟨e1, e2, e3⟩ | ⟨b, off, cur, T, ha, hh, hs, hx⟩
            · refine .inl ⟨by simp [Env.at, e1], ?_, by omega⟩
              rw [← f1, e2]; simp
            · have hob : (Gb.own t0 ys).ownB ρ id = some b := by simp [Gb.ownB, ha]
              refine .inr ⟨b, if (ρ id).cap ≤ lo then off else off + lo * t0.size, cur, T, ?_, hh, ⟨id, _, hg, hob⟩, (hG.olt id _ b hg hob).2, hsep id _ b hg hob, ?_, fun i x hi => ?_⟩
              · by_cases hl : (ρ id).cap ≤ lo
                · rw [if_pos hl, if_pos hl, ha]
                · rw [if_neg hl, if_neg hl]; simp [Env.at, ha]
              · by_cases hl : (ρ id).cap ≤ lo
                · rw [if_pos hl, Nat.sub_eq_zero_of_le hl]; omega
                · rw [if_neg hl, Nat.add_assoc, ← Nat.add_mul, Nat.add_sub_of_le (by omega)]; exact hs
              · rw [List.getElem?_take] at hi
                split at hi
                · rw [List.getElem?_drop] at hi
                  have hlt := (List.getElem?_eq_some_iff.1 hi).1
                  rw [if_neg (by omega)]
                  obtain ⟨c, c1, c2, c3⟩ := hx (lo + i) x hi
                  refine ⟨c, c1, fun j hj => ?_, ReadsC.mono (fun b hb => ⟨.inl hb, rfl⟩) _ _ _ c3⟩
                  rw [← c2 j hj, Nat.add_mul]
                  congr 1; omega
                · cases hi

def collectS (gh : Gh) (t : Ty) (cs : List SV) : Option (List (TD t)) := collect gh (.slice t) cs

def absorbIf (t : Ty) (d : Option Nat) (gh : Gh) : List (Nat × Option Gb) :=
  match t.flat with
  | true => []
  | false => absorbU d gh

def dropU : Option Nat → List (Nat × Option Gb)
  | some id => [(id, none)]
  | none => []

def isIntT (P : Program) (t : TypeId) : Bool :=
  match P.underlying t with
  | some (.slice _) => false
  | _ => true

def stepAppend (P : Program) (t t' : TypeId) (s x : Option Tv) (gh : Gh) (next : Nat) : Tree Delta :=
  match P.underlying t, s, x with
  | some (.slice elem), some (.one s), some (.one x) =>
    bif isIntT P t' then .fail "append of what " else
    match tyOf P 20 elem, (P.info? elem).map fun i => (i.size, i.bytes), zeroS P elem with
    | some ty, some (sz, bytes), some z =>
      bif Nat.beq sz ty.size && Nat.ble 1 sz && Nat.beq z.length sz then
        match dstOf gh ty s with
        | some (d, xs) =>
          match collectS (dropId d gh) ty [x] with
          | some ys => .req ((xs.length + List.length (α := TD ty) ys) * (bytes + 1) ≤ 70368744177664) (.leaf ⟨.one (.row next), (next, some (.own ty (xs ++ ys))) :: (absorbIf ty d gh ++ dropU d), next + 1⟩)
          | none => .fail "append what is appended"
        | none => .fail "append onto what "
      else .fail "append sizes"
    | _, _, _ => .fail "append type"
  | _, _, _ => .fail "append"

theorem look_absorbIf {t : Ty} {d : Option Nat} {gh : Gh} {k : Nat} : look (applyUpd (absorbIf t d gh ++ dropU d) gh) k = if d = some k then none else (look gh k).map fun g => if t.flat then g else g.abs := by
  rw [look_applyUpd, look_append]
  have hd : look (dropU d) k = if d = some k then some none else none := by
    cases d with
    | none => simp [dropU, look]
    | some id => simp only [dropU, look_cons]; by_cases h : id = k <;> simp [h, look]
  unfold absorbIf
  cases hf : t.flat with
  | true =>
    simp only [look, Option.elim, hd]
    by_cases h : d = some k <;> simp [h]
  | false =>
    simp only [look_absorbU, hd]
    by_cases h : d = some k
    · simp [h]
    · simp only [if_neg h]
      cases look gh k <;> rfl

theorem abs_ids (g : Gb) : g.abs.ids = g.ids := by cases g <;> rfl

theorem stepAppend_ok {d : Delta} {t t' : TypeId} {x y : Operand} (ho : o.op = .call { callee := .builtin .append, args := #[x, y], argTypes := #[t, t'] }) (hC : Ctx a R ρ gh next d.next w ev)
    (h : (stepAppend P t t' (ev x) (ev y) gh next).reach d) : OpOK P o a R ρ gh next w d := by
  unfold stepAppend at h
  split at h
  · rename_i elem s xv hu hx hy
    cases hit : isIntT P t' with
    | true => rw [hit] at h; exact h.elim
    | false =>
      rw [hit] at h
      simp only [cond_false] at h
      have ht' : ∃ e', P.underlying t' = some (.slice e') := by
        unfold isIntT at hit
        split at hit
        · rename_i e' he; exact ⟨e', he⟩
        · cases hit
      obtain ⟨e', ht'⟩ := ht'
      split at h
      · rename_i ty sz bytes z hty hinfo hz
        cases hb : Nat.beq sz ty.size && Nat.ble 1 sz && Nat.beq z.length sz with
        | false => rw [hb] at h; exact h.elim
        | true =>
          rw [hb] at h
          simp only [cond_true] at h
          simp only [Bool.and_eq_true] at hb
          have s1 := beq_iff.1 hb.1.1
          have s2 := Nat.le_of_ble_eq_true hb.1.2
          have s3 := beq_iff.1 hb.2
          cases hi : P.info? elem with
          | none => rw [hi] at hinfo; cases hinfo
          | some info =>
            rw [hi] at hinfo
            simp only [Option.map] at hinfo
            injection hinfo with hinfo; injection hinfo with i1 i2
            split at h
            · rename_i dd xs hd
              split at h
              · rename_i ys hys
                obtain ⟨hreq, h⟩ := h
                cases h
                have hG := hC.rep
                obtain ⟨A, sLen, sCap, hs, hlen, hlc, hdin, hcase⟩ := dstOf_sound hG hd
                -- the memory but for what is appended to
                have hG1 : RepG R ρ (dropId dd gh) w := hG.without fun i g h => (dropId_sub h).1
                obtain ⟨B, c, hB, hBc, hrow⟩ := collect_sound hG1 (.slice ty) [xv] ys hys
                have hxv : xv.den ρ = .slice B (List.length (α := TD ty) ys) c := by simpa [dens] using hB
                obtain ⟨news, n1, n2, n3, n4⟩ := row_cells hrow
                -- what reads from here on
                obtain ⟨R1, hR1⟩ : ∃ R1 : Nat → Prop, R1 = if ty.flat then R else Rplus R ρ (dropId dd gh) := ⟨_, rfl⟩
                have hRR : ∀ b, R b → R1 b := fun b hb => by rw [hR1]; cases ty.flat; exact .inl hb; exact hb
                have hR1' : ∀ b, R1 b → R b ∨ OwnB ρ (dropId dd gh) b := fun b hb => by rw [hR1] at hb; cases hf : ty.flat <;> rw [hf] at hb; exact hb; exact .inl hb
                have hR1lt : ∀ b, R1 b → b < w.heap.size := fun b hb => by
                  rcases hR1' b hb with h | ⟨id, g, h1, h2⟩
                  · exact hG.rlt b h
                  · exact (hG1.olt id g b h1 h2).1
                have hreads : ∀ (w' : World), (∀ b, R1 b → w'.heap[b]? = w.heap[b]?) → ∀ x c, ReadsC (Rplus R ρ (dropId dd gh)) w ty x c → ReadsC R1 w' ty x c := by
                  intro w' hw' x c hxc
                  cases hf : ty.flat with
                  | true => exact ReadsC.flat ty x c hf hxc
                  | false =>
                    rw [hR1, hf] at hw' ⊢
                    exact ReadsC.mono (fun b hb => ⟨hb, hw' b hb⟩) ty x c hxc
                -- the memory with what it lets go
                obtain ⟨g1, hg1⟩ : ∃ g1, g1 = applyUpd (absorbIf ty dd gh ++ dropU dd) gh := ⟨_, rfl⟩
                have hl1 : ∀ k g, look g1 k = some g → dd ≠ some k ∧ ∃ g0, look gh k = some g0 ∧ g = if ty.flat then g0 else g0.abs := by
                  intro k g hk
                  rw [hg1, look_absorbIf] at hk
                  by_cases h : dd = some k
                  · rw [if_pos h] at hk; cases hk
                  · rw [if_neg h] at hk
                    cases hl : look gh k with
                    | none => rw [hl] at hk; cases hk
                    | some g0 => rw [hl] at hk; simp only [Option.map] at hk; injection hk with hk; exact ⟨h, g0, rfl, hk.symm⟩
                have hdl : ∀ k g, dd ≠ some k → look gh k = some g → look (dropId dd gh) k = some g := by
                  intro k g hn hk
                  cases dd with
                  | none => exact hk
                  | some id => simp only [dropId, look_erase]; rw [if_neg (fun e => hn (congrArg some e))]; exact hk
                have hGa : RepG R1 ρ g1 w := by
                  cases hf : ty.flat with
                  | true =>
                    rw [hR1, hf]
                    exact hG.without fun k g hk => by
                      obtain ⟨_, g0, h1, h2⟩ := hl1 k g hk
                      rw [hf] at h2; simp only [if_true] at h2; subst h2; exact h1
                  | false =>
                    refine RepG.absorb hG (fun k g hk => ?_) hRR (fun k g b hk h1 h2 => ?_) hR1lt
                    · obtain ⟨_, g0, h1, h2⟩ := hl1 k g hk
                      rw [hf] at h2; exact ⟨g0, h1, by simpa using h2⟩
                    · obtain ⟨hn, g0, h3, _⟩ := hl1 k _ hk
                      rw [hR1, hf]
                      exact .inr ⟨k, g, hdl k g hn h1, h2⟩
                have hO1 : ∀ b, OwnB ρ g1 b → OwnB ρ (dropId dd gh) b := by
                  rintro b ⟨k, g, hk, hb⟩
                  obtain ⟨hn, g0, h1, h2⟩ := hl1 k g hk
                  cases hf : ty.flat with
                  | true => rw [hf] at h2; simp only [if_true] at h2; subst h2; exact ⟨k, g, hdl k g hn h1, hb⟩
                  | false => rw [hf] at h2; simp only [Bool.false_eq_true, if_false] at h2; subst h2; rw [Gb.abs_own] at hb; cases hb
                have hO1' : ∀ b, OwnB ρ (dropId dd gh) b → OwnB ρ gh b := fun b ⟨k, g, hk, hb⟩ => ⟨k, g, (dropId_sub hk).1, hb⟩
                have hbd1 : ∀ id g, look g1 id = some g → (id < next ∨ next + 1 ≤ id) ∧ ∀ i ∈ g.ids, i < next ∨ next + 1 ≤ i := by
                  intro k g hk
                  obtain ⟨_, g0, h1, h2⟩ := hl1 k g hk
                  have := hC.bd k g0 h1
                  refine ⟨this.1, ?_⟩
                  cases hf : ty.flat <;> rw [hf] at h2 <;> simp only [if_true, Bool.false_eq_true, if_false] at h2 <;> subst h2
                  · rw [abs_ids]; exact this.2
                  · exact this.2
                have hsx := hC.val x _ hx
                have hsy := hC.val y _ hy
                simp only [Tv.den] at hsx hsy
                -- how it ends, wherever the row lies
                have fin : ∀ (w' : World) (S : Slot), (Builtin.append_ #[t, t'] o.type #[.slice A sLen sCap, .slice B (List.length (α := TD ty) ys) c]).run P w = .ok (.slice S.addr S.len S.cap) w' →
                    (∀ k, R1 k ∨ OwnB ρ g1 k → w'.heap[k]? = w.heap[k]?) → w.heap.size ≤ w'.heap.size → w'.os = w.os → w'.tape = w.tape → w'.output = w.output →
                    (∀ k, k < w.heap.size → ¬ OwnB ρ gh k → w'.heap[k]? = w.heap[k]?) → OwnRow R1 w' (ρ.set next S) next ty (xs ++ ys) →
                    (∀ A, S.addr = some A → A.block < w'.heap.size ∧ ¬ R1 A.block ∧ ¬ OwnB ρ g1 A.block ∧ (OwnB ρ gh A.block ∨ w.heap.size ≤ A.block)) → OpOK P o a R ρ gh next w ⟨.one (.row next), (next, some (.own ty (xs ++ ys))) :: (absorbIf ty dd gh ++ dropU dd), next + 1⟩ := by
                  intro w' S hrun hk hsz hos htape hout hkeep hrow' hblk
                  have hrep := RepG.addOwn hGa hbd1 hk hsz hrow' (fun A hA => ⟨(hblk A hA).1, (hblk A hA).2.1, (hblk A hA).2.2.1⟩)
                  have heq : applyUpd ((next, some (.own ty (xs ++ ys))) :: (absorbIf ty dd gh ++ dropU dd)) gh = (next, .own ty (xs ++ ys)) :: erase next g1 := by rw [hg1]; rfl
                  refine OpOK.of_run (ρ' := ρ.set next S) (R' := R1) (w' := w') (V := .slice S.addr S.len S.cap) ?_ ?_ ?_ ?_
                  · simp only [execOp, ho, resolve, Sem.run_bind, Sem.run_pure, Result.andThen_ok, invoke, builtin]
                    simp only [List.map_toArray, List.map_cons, List.map_nil, hsx, hsy, hs, hxv, hrun, Result.andThen_ok]
                  · simp [Tv.den, SV.den, Env.set_at]
                  · show Ext R ρ gh w next R1 (ρ.set next S) (applyUpd _ gh) w' (next + 1)
                    rw [heq]
                    refine ⟨hsz, hos, htape, hout, hkeep, fun id hid => Env.set_same ρ next S id hid, hRR, fun b hb => ?_, ?_⟩
                    · rcases hR1' b hb with h | h
                      · exact .inl h
                      · exact .inr (.inl (hO1' b h))
                    · rintro b ⟨k, g, hk, hb⟩
                      rw [look_cons, look_erase] at hk
                      by_cases e : next = k
                      · subst e
                        rw [if_pos rfl] at hk; injection hk with hk; subst hk
                        simp only [Gb.ownB, Env.set_at] at hb
                        cases hA : S.addr with
                        | none => rw [hA] at hb; cases hb
                        | some A' => rw [hA] at hb; simp at hb; subst hb; exact (hblk A' hA).2.2.2
                      · rw [if_neg e, if_neg e] at hk
                        rw [ownB_same (Env.set_same ρ next S k (hbd1 k g hk).1)] at hb
                        exact .inl (hO1' b (hO1 b ⟨k, g, hk, hb⟩))
                  · show RepG R1 (ρ.set next S) (applyUpd _ gh) w'
                    rw [heq]; exact hrep
                have hsz1 : info.size = ty.size := by rw [i1]; exact s1
                have hsize : 1 ≤ ty.size := by omega
                -- what is appended, as the run reads it
                have hnew : ∀ w0 : World, (∀ b o, w0.cell? ⟨b, o, none⟩ = w.cell? ⟨b, o, none⟩) → (Builtin.firstCells info.size (List.length (α := TD ty) ys) (.slice B (List.length (α := TD ty) ys) c)).run P w0 = .ok news.toArray w0 := by
                  intro w0 hw0
                  rcases n4 with h | ⟨b, oo, hBe, hcell⟩
                  · have hn0 : news = [] := List.eq_nil_of_length_eq_zero (by rw [n1, h]; simp)
                    subst hn0; subst h
                    cases B <;> simp [Builtin.firstCells, loadCells, loadCellsFrom]
                  · rw [hBe]
                    refine run_firstCells_some w0 _ _ _ _ _ news (by rw [hsz1]; exact n1) fun j v hj => ?_
                    rw [addr_add, hw0, hcell j (List.getElem?_eq_some_iff.1 hj).1, hj]
                -- the cells of all of it
                have hall : ∀ (cells : Array Value) (off : Nat) (w' : World), (∀ b, R1 b → w'.heap[b]? = w.heap[b]?) →
                    (∀ i x, xs[i]? = some x → ∃ c : List Value, c.length = ty.size ∧ (∀ j, j < ty.size → cells[off + i * ty.size + j]? = c[j]?) ∧ ReadsC (Rplus R ρ (dropId dd gh)) w ty x c) →
                    (∀ k, k < news.length → cells[off + xs.length * ty.size + k]? = news[k]?) →
                    ∀ i x, (xs ++ ys)[i]? = some x → ∃ c : List Value, c.length = ty.size ∧ (∀ j, j < ty.size → cells[off + i * ty.size + j]? = c[j]?) ∧ ReadsC R1 w' ty x c := by
                  intro cells off w' hw' h1 h2 i x hi
                  by_cases hlt : i < xs.length
                  · rw [List.getElem?_append_left hlt] at hi
                    obtain ⟨c, c1, c2, c3⟩ := h1 i x hi
                    exact ⟨c, c1, c2, hreads w' hw' x c c3⟩
                  · rw [List.getElem?_append_right (by omega)] at hi
                    obtain ⟨c, c1, c2, c3⟩ := n2 (i - xs.length) x hi
                    refine ⟨c, c1, fun j hj => ?_, hreads w' hw' x c c3⟩
                    have hil := (List.getElem?_eq_some_iff.1 hi).1
                    have hm : (i - xs.length) * ty.size + ty.size ≤ List.length (α := TD ty) ys * ty.size := by rw [← Nat.succ_mul]; exact Nat.mul_le_mul_right _ hil
                    have e : off + i * ty.size + j = off + xs.length * ty.size + ((i - xs.length) * ty.size + j) := by
                      have : i * ty.size = xs.length * ty.size + (i - xs.length) * ty.size := by rw [← Nat.add_mul]; congr 1; omega
                      omega
                    rw [e, h2 _ (by omega), c2 j hj]
                have hbb : (sLen + List.length (α := TD ty) ys) * (bytes + 1) ≤ 70368744177664 := by rw [← hlen]; exact hreq
                have hbb2 : (sLen + List.length (α := TD ty) ys) * bytes ≤ 140737488355328 := by
                  have : (sLen + List.length (α := TD ty) ys) * bytes ≤ (sLen + List.length (α := TD ty) ys) * (bytes + 1) := Nat.mul_le_mul_left _ (by omega)
                  omega
                have hbb3 : sLen + List.length (α := TD ty) ys ≤ 70368744177664 := by
                  have : (sLen + List.length (α := TD ty) ys) * 1 ≤ (sLen + List.length (α := TD ty) ys) * (bytes + 1) := Nat.mul_le_mul_left _ (by omega)
                  omega
                by_cases hroom : sLen + List.length (α := TD ty) ys ≤ sCap
                · rcases hcase with ⟨hA, hs0, hc0⟩ | ⟨b, off, cur, T, hA, hh, hown, hnR, hnO, hfit, hx'⟩
                  · subst hA; subst hs0; subst hc0
                    have hy0 : ys = [] := List.eq_nil_of_length_eq_zero (by omega)
                    have hx0 : xs = [] := List.eq_nil_of_length_eq_zero hlen
                    subst hy0; subst hx0
                    refine fin w ⟨none, 0, 0⟩ (run_append_nil0 hu ht' hi) (fun _ _ => rfl) (Nat.le_refl _) rfl rfl rfl (fun _ _ _ => rfl) ⟨by simp [Env.set_at], by simp, .inl ⟨by rw [Env.set_at], rfl, by rw [Env.set_at]⟩⟩ (by simp)
                  · have hn0 : ¬ R1 b := fun h => (hR1' b h).elim hnR hnO
                    have hfit' : off + sLen * info.size + news.length ≤ cur.size := by
                      rw [n1, hsz1]
                      have : sLen * ty.size + List.length (α := TD ty) ys * ty.size ≤ sCap * ty.size := by rw [← Nat.add_mul]; exact Nat.mul_le_mul_right _ hroom
                      omega
                    have hrun := run_append_room' (P := P) (w := w) (ty := o.type) (c := c) hu ht' hi hh (hnew w fun _ _ => rfl) n3 hroom hfit'
                    rw [hA]  at fin
                    have hlt : b < w.heap.size := (Array.getElem?_eq_some_iff.1 hh).1
                    refine fin _ ⟨some ⟨b, off, none⟩, sLen + List.length (α := TD ty) ys, sCap⟩ hrun (fun k hk => setRow_other w b k _ ?_) (by simp) rfl rfl rfl (fun k _ hk => setRow_other w b k _ fun e => hk (e ▸ hown)) ?_ ?_
                    · rintro rfl
                      rcases hk with hk | hk
                      · exact hn0 hk
                      · exact hnO (hO1 _ hk)
                    · have hcl : (cur.toList.take (off + sLen * info.size)).length = off + sLen * info.size := by simp; omega
                      have hgetl : ∀ k, k < off + sLen * info.size → (cur.toList.take (off + sLen * info.size) ++ news ++ cur.toList.drop (off + sLen * info.size + news.length)).toArray[k]? = cur[k]? := by
                        intro k hk
                        rw [List.getElem?_toArray, List.append_assoc, List.getElem?_append_left (by omega), List.getElem?_take, if_pos hk]; simp
                      have hgetr : ∀ k, k < news.length → (cur.toList.take (off + sLen * info.size) ++ news ++ cur.toList.drop (off + sLen * info.size + news.length)).toArray[off + sLen * info.size + k]? = news[k]? := by
                        intro k hk
                        rw [List.getElem?_toArray, List.append_assoc, List.getElem?_append_right (by omega), hcl, Nat.add_sub_cancel_left, List.getElem?_append_left hk]
                      refine ⟨by rw [Env.set_at]; simp [hlen], by rw [Env.set_at]; simp [hlen]; omega, .inr ⟨b, off, _, T, by rw [Env.set_at], setRow_heap w b _ _ T (0, 0) hh, ?_, ?_⟩⟩
                      · rw [Env.set_at]
                        simp only [List.size_toArray, List.length_append, hcl, List.length_drop, Array.length_toList]
                        omega
                      · refine hall _ off _ (fun k hk => setRow_other w b k _ fun e => hn0 (e ▸ hk)) (fun i x hi => ?_) (fun k hk => ?_)
                        · obtain ⟨c', c1, c2, c3⟩ := hx' i x hi
                          refine ⟨c', c1, fun j hj => ?_, c3⟩
                          have hil := (List.getElem?_eq_some_iff.1 hi).1
                          have hm : i * ty.size + ty.size ≤ sLen * ty.size := by rw [← Nat.succ_mul]; exact Nat.mul_le_mul_right _ (by omega)
                          rw [hgetl _ (by rw [hsz1]; omega)]
                          exact c2 j hj
                        · rw [hlen, ← hsz1]; exact hgetr k hk
                    · rintro A' ⟨⟩
                      exact ⟨by simp; exact hlt, hn0, fun h => hnO (hO1 _ h), .inl hown⟩
                · -- it grows
                  obtain ⟨zv, z1, z2, z3⟩ := zeroS_sound ρ hz
                  have hzi : info.zero = some zv := by
                    unfold zeroS at hz
                    rw [hi] at hz
                    simp only [Option.bind] at hz
                    cases hzz : info.zero with
                    | none => rw [hzz] at hz; cases hz
                    | some zv' =>
                      have := z1 w
                      simp [zeroValue, typeInfo, hi, hzz] at this
                      rw [this]
                  have hzsz : zv.cells.size = ty.size := by rw [z2]; simp [s3, s1]
                  -- the cells that were there
                  have hold : ∃ olds : List Value, olds.length = xs.length * ty.size ∧ (Builtin.firstCells info.size sLen (.slice A sLen sCap)).run P w.drew = .ok olds.toArray w.drew ∧
                      ∀ i x, xs[i]? = some x → ∃ c : List Value, c.length = ty.size ∧ (∀ j, j < ty.size → olds[i * ty.size + j]? = c[j]?) ∧ ReadsC (Rplus R ρ (dropId dd gh)) w ty x c := by
                    rcases hcase with ⟨hA, hs0, hc0⟩ | ⟨b, off, cur, T, hA, hh, hown, hnR, hnO, hfit, hx'⟩
                    · have hx0 : xs = [] := List.eq_nil_of_length_eq_zero (by omega)
                      subst hx0; subst hA
                      exact ⟨[], by simp, by simp [Builtin.firstCells], by simp⟩
                    · have hle : sLen * ty.size ≤ sCap * ty.size := Nat.mul_le_mul_right _ hlc
                      refine ⟨(cur.toList.drop off).take (sLen * ty.size), by simp [hlen]; omega, ?_, fun i x hi => ?_⟩
                      · rw [hA]
                        refine run_firstCells_some w.drew _ _ _ _ _ _ (by simp [hsz1]; omega) fun j v hj => ?_
                        have hjl := (List.getElem?_eq_some_iff.1 hj).1
                        simp at hjl
                        rw [List.getElem?_take, if_pos (by omega), List.getElem?_drop] at hj
                        rw [addr_add]
                        rw [World.cell?_drew]
                        simp only [World.cell?, hh]
                        simpa using hj
                      · obtain ⟨c', c1, c2, c3⟩ := hx' i x hi
                        refine ⟨c', c1, fun j hj => ?_, c3⟩
                        have hil := (List.getElem?_eq_some_iff.1 hi).1
                        have hm : i * ty.size + ty.size ≤ sLen * ty.size := by rw [← Nat.succ_mul]; exact Nat.mul_le_mul_right _ (by omega)
                        rw [List.getElem?_take, if_pos (by omega), List.getElem?_drop, ← c2 j hj]
                        simp [Nat.add_assoc]
                  obtain ⟨olds, o1, o2, o3⟩ := hold
                  have hrun := run_append_grow' (P := P) (w := w) (ty := o.type) (c := c) hu ht' hi hzi o2 (hnew w.drew fun _ _ => rfl) (by omega) (by omega) (growslice_fits (by omega) (by rw [i2]; exact hbb2))
                  have hold' : ∀ k, k < w.heap.size → (w.drew.alloc (.cells (olds.toArray ++ news.toArray ++ Builtin.zeroCells zv.cells (grownCap w (sLen + List.length (α := TD ty) ys) sCap elem - (sLen + List.length (α := TD ty) ys))) elem)).heap[k]? = w.heap[k]? :=
                    fun k hk => Below.heap_alloc w.drew _ k hk
                  have hge := grownCap_ge w (sLen + List.length (α := TD ty) ys) sCap elem
                  refine fin _ ⟨some ⟨w.heap.size, 0, none⟩, sLen + List.length (α := TD ty) ys, grownCap w (sLen + List.length (α := TD ty) ys) sCap elem⟩ hrun (fun k hk => hold' k ?_) (by simp) rfl rfl rfl (fun k hk _ => hold' k hk) ?_ ?_
                  · rcases hk with hk | ⟨id, g, hk, hb⟩
                    · exact hR1lt k hk
                    · exact (hGa.olt id g k hk hb).1
                  · refine ⟨by rw [Env.set_at]; simp [hlen], by rw [Env.set_at]; simp [hlen]; exact hge, .inr ⟨w.heap.size, 0, _, elem, by rw [Env.set_at], heap_alloc_new w.drew _, ?_, ?_⟩⟩
                    · rw [Env.set_at]
                      simp only [Array.size_append, List.size_toArray, size_zeroCells, hzsz, o1, n1, hlen, Nat.zero_add]
                      rw [← Nat.add_mul, ← Nat.add_mul]
                      exact Nat.mul_le_mul_right _ (by omega)
                    · refine hall _ 0 _ (fun k hk => hold' k (hR1lt k hk)) (fun i x hi => ?_) (fun k hk => ?_)
                      · obtain ⟨c', c1, c2, c3⟩ := o3 i x hi
                        refine ⟨c', c1, fun j hj => ?_, c3⟩
                        have hil := (List.getElem?_eq_some_iff.1 hi).1
                        have hm : i * ty.size + ty.size ≤ xs.length * ty.size := by rw [← Nat.succ_mul]; exact Nat.mul_le_mul_right _ hil
                        rw [← c2 j hj, Nat.zero_add, Array.append_assoc, Array.getElem?_append_left (by simp [o1]; omega)]
                        simp
                      · rw [Nat.zero_add, Array.append_assoc, Array.getElem?_append_right (by simp [o1])]
                        simp only [List.size_toArray, o1, Nat.add_sub_cancel_left]
                        rw [Array.getElem?_append_left (by simpa using hk)]
                        simp
                  · rintro A' ⟨⟩
                    refine ⟨by simp, fun h => by have := hR1lt _ h; simp at this, fun ⟨id, g, h1, h2⟩ => by have := (hGa.olt id g _ h1 h2).1; simp at this, .inr (Nat.le_refl _)⟩
              · exact h.elim
            · exact h.elim
      · exact h.elim
  · exact h.elim
end
end Sx
