/- A symbolic executor for the model's code: append, make. -/
import Derived.Test.YtofimljfdlnkgaaSx11
import Derived.Laws.Append
import Derived.Laws.AppendOwn
import Derived.Laws.MakeOwn
namespace Sx
open Go Go.RowKit

/-- data without addresses: it reads in whatever memory -/
def Ty.flat : Ty → Bool
  | .int _ | .bool | .str | .unit | .fnl _ => true
  | .cat a b => a.flat && b.flat
  | .rep _ a => a.flat
  | _ => false

theorem ReadsC.flat {R R' : Nat → Prop} {w w' : World} : ∀ (t : Ty) (x : TD t) (cs : List Value), t.flat = true → ReadsC R w t x cs → ReadsC R' w' t x cs
  | .int _, _, _, _, h => h
  | .bool, _, _, _, h => h
  | .str, _, _, _, h => h
  | .unit, _, _, _, h => h
  | .cat a b, _, _, hf, ⟨c1, c2, e, h1, h2⟩ => by
    simp only [Ty.flat, Bool.and_eq_true] at hf
    exact ⟨c1, c2, e, ReadsC.flat a _ _ hf.1 h1, ReadsC.flat b _ _ hf.2 h2⟩
  | .rep _ a, _, _, hf, ⟨hl, h⟩ => ⟨hl, h.mono fun x cs => ReadsC.flat a x cs hf⟩
  | .slice a, _, _, hf, _ => by simp [Ty.flat] at hf
  | .ptr a, _, _, hf, _ => by simp [Ty.flat] at hf
  | .optr a, _, _, hf, _ => by simp [Ty.flat] at hf
  | .fnl _, _, _, _, h => h
  | .clo _ a, _, _, hf, _ => by simp [Ty.flat] at hf

/-- a type's number, as a type of data -/
def fieldsTy (f : TypeId → Option Ty) : List Field → Option Ty
  | [] => some .unit
  | fl :: r =>
    match f fl.type with
    | none => none
    | some t =>
      match r with
      | [] => some t
      | r => (fieldsTy f r).map (.cat t)

def tyOf (P : Program) : Nat → TypeId → Option Ty
  | 0, _ => none
  | d + 1, t =>
    match P.underlying t with
    | some (.int k) => some (.int k)
    | some .bool => some .bool
    | some .string => some .str
    | some (.slice e) => (tyOf P d e).map .slice
    | some (.array n e) => (tyOf P d e).map (.rep n)
    | some (.struct fields) =>
      match fields.toList with
      | [fl] => (tyOf P d fl.type).map fun t => .cat t .unit
      | fs => fieldsTy (tyOf P d) fs
    | _ => none

/-! ### what one owns, let go: from here on it is read alone -/
def Gb.abs : Gb → Gb
  | .own t xs => .ro t xs
  | .blk cs => .rob cs
  | .obj cs _ _ => .rob cs
  | g => g

def absorbU (skip : Option Nat) : Gh → List (Nat × Option Gb)
  | [] => []
  | (k, g) :: r => if skip = some k then absorbU skip r else (k, some g.abs) :: absorbU skip r

theorem look_absorbU (skip : Option Nat) : ∀ (gh : Gh) (k : Nat), look (absorbU skip gh) k = if skip = some k then none else (look gh k).map fun g => some g.abs
  | [], k => by simp [absorbU, look]
  | (a, g) :: r, k => by
    have ih := look_absorbU skip r k
    simp only [absorbU]
    by_cases h : skip = some a
    · rw [if_pos h, ih, look_cons]
      by_cases hk : skip = some k
      · simp [hk]
      · have : a ≠ k := fun e => hk (e ▸ h)
        simp [hk, this]
    · rw [if_neg h, look_cons, look_cons, ih]
      by_cases hk : a = k
      · subst hk; simp [h]
      · simp [hk]

section
variable {P : Program} {o : Oper} {a : Act} {R : Nat → Prop} {ρ : Env} {gh : Gh} {next : Nat} {w : World} {ev : Operand → Option Tv}

theorem Gfact.abs (hG : RepG R ρ gh w) {id : Nat} {g : Gb} (hg : look gh id = some g) {R1 : Nat → Prop} (h1 : ∀ b, R b → R1 b) (h2 : ∀ b, g.ownB ρ id = some b → R1 b) : Gfact R1 w ρ id g.abs := by
  have hf := hG.facts id g hg
  cases g with
  | blk cs =>
    obtain ⟨b, T, ha, hh⟩ := hf
    refine ⟨b, 0, ha, h2 b (by simp [Gb.ownB, ha]), fun j hj => ?_⟩
    simp only [World.cell?, hh]
    simp
  | rob cs => obtain ⟨b, o, ha, hb, hc⟩ := hf; exact ⟨b, o, ha, h1 b hb, hc⟩
  | opt t x => exact OptR.mono (fun b hb => ⟨h1 b hb, rfl⟩) hf
  | pin b cs => exact ⟨h1 b hf.1, hf.2⟩
  | obj cs t x =>
    obtain ⟨b, T, vs, ha, hh, _⟩ := hf
    refine ⟨b, 0, ha, h2 b (by simp [Gb.ownB, ha]), fun j hj => ?_⟩
    simp only [World.cell?, hh]
    simp [List.getElem?_append_left hj]
  | ro t xs => exact ⟨hf.1, hf.2.1, RowR.mono (fun b hb => ⟨h1 b hb, rfl⟩) (ReadsC.mono (fun b hb => ⟨h1 b hb, rfl⟩) t) hf.2.2⟩
  | own t xs =>
    obtain ⟨f1, f2, f3⟩ := hf
    refine ⟨f1, f2, ?_⟩
    rcases f3 with ⟨_, h, _⟩ | ⟨b, o, cs, T, ha, hh, hs, hx⟩
    · subst h; intro i x hi; simp at hi
    · intro i x hi
      obtain ⟨c, e1, e2, e3⟩ := hx i x hi
      refine ⟨b, o, ha, h2 b (by simp [Gb.ownB, ha]), c, e1, fun j hj => ?_, ReadsC.mono (fun b hb => ⟨h1 b hb, rfl⟩) _ _ _ e3⟩
      simp only [World.cell?, hh]
      simpa using e2 j (by omega)

theorem Gb.abs_own (g : Gb) (ρ : Env) (id : Nat) : g.abs.ownB ρ id = none := by cases g <;> rfl

/-- the memory with one entry put by -/
theorem RepG.without (hG : RepG R ρ gh w) {g1 : Gh} (h : ∀ id g, look g1 id = some g → look gh id = some g) : RepG R ρ g1 w :=
  ⟨fun id g hg => hG.facts id g (h id g hg), hG.rlt, fun id g b hg => hG.olt id g b (h id g hg), fun id id' g g' b h1 h2 => hG.sep id id' g g' b (h id g h1) (h id' g' h2)⟩

theorem RepG.absorb (hG : RepG R ρ gh w) {g1 : Gh} (h1 : ∀ id g, look g1 id = some g → ∃ g0, look gh id = some g0 ∧ g = g0.abs) {R1 : Nat → Prop} (hR : ∀ b, R b → R1 b)
    (hO : ∀ id g b, look g1 id = some g.abs → look gh id = some g → g.ownB ρ id = some b → R1 b) (hlt : ∀ b, R1 b → b < w.heap.size) : RepG R1 ρ g1 w where
  facts id g hg := by
    obtain ⟨g0, h2, rfl⟩ := h1 id g hg
    exact Gfact.abs hG h2 hR fun b hb => hO id g0 b hg h2 hb
  rlt := hlt
  olt id g b hg hb := by
    obtain ⟨g0, h2, rfl⟩ := h1 id g hg
    rw [Gb.abs_own] at hb; cases hb
  sep id id' g g' b hg hg' hb hb' := by
    obtain ⟨g0, h2, rfl⟩ := h1 id g hg
    rw [Gb.abs_own] at hb; cases hb

/-- a row of one's own more -/
theorem RepG.addOwn {g1 : Gh} {w' : World} {t : Ty} {zs : List (TD t)} {S : Slot} (hG : RepG R ρ g1 w)
    (hbd : ∀ id g, look g1 id = some g → (id < next ∨ next + 1 ≤ id) ∧ ∀ i ∈ g.ids, i < next ∨ next + 1 ≤ i)
    (hkeep : ∀ k, R k ∨ OwnB ρ g1 k → w'.heap[k]? = w.heap[k]?) (hsz : w.heap.size ≤ w'.heap.size)
    (hf : OwnRow R w' (ρ.set next S) next t zs) (hb : ∀ A, S.addr = some A → A.block < w'.heap.size ∧ ¬ R A.block ∧ ¬ OwnB ρ g1 A.block) :
    RepG R (ρ.set next S) ((next, .own t zs) :: erase next g1) w' := by
  have hS : SameOn (fun i => i < next ∨ next + 1 ≤ i) ρ (ρ.set next S) := Env.set_same ρ next S
  have hcase : ∀ id b, look ((next, Gb.own t zs) :: erase next g1) id = some b → (id = next ∧ b = .own t zs) ∨ (id ≠ next ∧ look g1 id = some b) := by
    intro id b hb
    rw [look_cons, look_erase] at hb
    by_cases h : next = id
    · rw [if_pos h] at hb; injection hb with hb; exact .inl ⟨h.symm, hb.symm⟩
    · rw [if_neg h, if_neg h] at hb; exact .inr ⟨fun e => h e.symm, hb⟩
  have hob : ∀ id g, look g1 id = some g → g.ownB (ρ.set next S) id = g.ownB ρ id := fun id g hg => ownB_same (hS id (hbd id g hg).1) g
  have hnew : ∀ k, (Gb.own t zs).ownB (ρ.set next S) next = some k → k < w'.heap.size ∧ ¬ R k ∧ ¬ OwnB ρ g1 k := by
    intro k hk
    simp only [Gb.ownB, Env.set_at] at hk
    cases hA : S.addr with
    | none => rw [hA] at hk; cases hk
    | some A => rw [hA] at hk; simp at hk; subst hk; exact hb A hA
  refine ⟨fun id g hg => ?_, fun b h => Nat.lt_of_lt_of_le (hG.rlt b h) hsz, fun id g b hg ho => ?_, fun id id' g g' b h h' ho ho' => ?_⟩
  · rcases hcase id g hg with ⟨rfl, rfl⟩ | ⟨hn, h1⟩
    · exact hf
    · exact Gfact.mono (fun b hb => ⟨hb, hkeep b (.inl hb)⟩) hS (hbd id g h1).1 (hbd id g h1).2 (fun b hb => hkeep b (.inr ⟨id, g, h1, hb⟩)) (hG.facts id g h1)
  · rcases hcase id g hg with ⟨rfl, rfl⟩ | ⟨hn, h1⟩
    · exact ⟨(hnew b ho).1, (hnew b ho).2.1⟩
    · rw [hob id g h1] at ho
      exact ⟨Nat.lt_of_lt_of_le (hG.olt id g b h1 ho).1 hsz, (hG.olt id g b h1 ho).2⟩
  · rcases hcase id g h with ⟨rfl, rfl⟩ | ⟨hn, h1⟩ <;> rcases hcase id' g' h' with ⟨e, rfl⟩ | ⟨hn', h2⟩
    · exact e.symm
    · rw [hob id' g' h2] at ho'; exact absurd ⟨id', g', h2, ho'⟩ (hnew b ho).2.2
    · subst e; rw [hob id g h1] at ho; exact absurd ⟨id, g, h1, ho⟩ (hnew b ho').2.2
    · rw [hob id g h1] at ho; rw [hob id' g' h2] at ho'; exact hG.sep id id' g g' b h1 h2 ho ho'

/-! ### append -/
theorem run_append_room' {t t' ty e e' : TypeId} {i : TypeInfo} (ht : P.underlying t = some (.slice e)) (ht' : P.underlying t' = some (.slice e')) (hi : P.info? e = some i)
    {b off sLen sCap m c : Nat} {B : Option Addr} {cur : Array Value} {T : TypeId} {news : List Value} (hg : w.heap[b]? = some (.cells cur T (0, 0)))
    (hn : (Builtin.firstCells i.size m (.slice B m c)).run P w = .ok news.toArray w) (h1 : ∀ u ∈ news, u.oneCell' = true)
    (hroom : sLen + m ≤ sCap) (hfit : off + sLen * i.size + news.length ≤ cur.size) :
    (Builtin.append_ #[t, t'] ty #[.slice (some ⟨b, off, none⟩) sLen sCap, .slice B m c]).run P w =
      .ok (.slice (some ⟨b, off, none⟩) (sLen + m) sCap) (w.setRow b (cur.toList.take (off + sLen * i.size) ++ news ++ cur.toList.drop (off + sLen * i.size + news.length)).toArray) := by
  have hst := run_storeCells_at (P := P) b (off + sLen * i.size) T news 0 cur w hg (by simpa using hfit) h1
  simp only [Nat.add_zero] at hst
  simp [Builtin.append_, run_underlying ht, run_underlying ht', Go.sizeOf, typeInfo, hi, Builtin.lenOf, hroom, hn, addr_add, hst]

theorem run_append_nil0 {t t' ty e e' : TypeId} {i : TypeInfo} (ht : P.underlying t = some (.slice e)) (ht' : P.underlying t' = some (.slice e')) (hi : P.info? e = some i) {c : Nat} {B : Option Addr} :
    (Builtin.append_ #[t, t'] ty #[.slice none 0 0, .slice B 0 c]).run P w = .ok (.slice none 0 0) w := by
  cases B <;> simp [Builtin.append_, run_underlying ht, run_underlying ht', Go.sizeOf, typeInfo, hi, Builtin.lenOf, Builtin.firstCells, loadCells, loadCellsFrom]

theorem run_append_grow' {t t' ty e e' : TypeId} {i : TypeInfo} {z : Value} (ht : P.underlying t = some (.slice e)) (ht' : P.underlying t' = some (.slice e')) (hi : P.info? e = some i) (hz : i.zero = some z)
    {sLen sCap m c : Nat} {A B : Option Addr} {olds news : List Value}
    (ho : (Builtin.firstCells i.size sLen (.slice A sLen sCap)).run P w.drew = .ok olds.toArray w.drew)
    (hn : (Builtin.firstCells i.size m (.slice B m c)).run P w.drew = .ok news.toArray w.drew)
    (hg : sCap < sLen + m) (h63 : ((sLen + m : Nat) : Int) ≤ 9223372036854775807) (hfit : Builtin.nextslicecap (sLen + m) sCap * i.bytes ≤ 281474976710656) :
    (Builtin.append_ #[t, t'] ty #[.slice A sLen sCap, .slice B m c]).run P w =
      .ok (.slice (some ⟨w.heap.size, 0, none⟩) (sLen + m) (grownCap w (sLen + m) sCap e))
        (w.drew.alloc (.cells (olds.toArray ++ news.toArray ++ Builtin.zeroCells z.cells (grownCap w (sLen + m) sCap e - (sLen + m))) e)) := by
  have hnr : ¬ (sLen + m ≤ sCap) := by omega
  have h63' : ¬ (9223372036854775807 < ((sLen : Int) + (m : Int))) := by omega
  have h48' : ¬ (281474976710656 < Builtin.nextslicecap (sLen + m) sCap * i.bytes) := by omega
  simp [Builtin.append_, run_underlying ht, run_underlying ht', Go.sizeOf, typeInfo, zeroValue, hi, hz, Builtin.lenOf, hnr, h63', h48', Question.forced, hn, ho, newRow, grownCap]
  congr 2
  apply Array.ext'
  simp [List.append_assoc]
end
end Sx
