/- A symbolic executor for the model's code: constants, arithmetic, addresses, parts. -/
import Derived.Test.YtofimljfdlnkgaaSx6
namespace Sx
open Go Go.RowKit

/-! ### constants -/
def cSV : Value → Option SV
  | .int k n => some (.cint k n)
  | .bool b => some (.cbool b)
  | .string s => some (.str s)
  | .pointer none => some .nilp
  | .slice none l c => bif Nat.beq l 0 && Nat.beq c 0 then some .nils else none
  | .nilFunc => some .nilf
  | _ => none

def cSVs : List Value → Option (List SV)
  | [] => some []
  | v :: r =>
    match cSV v with
    | none => none
    | some s =>
      match cSVs r with
      | none => none
      | some l => some (s :: l)

def cTv : Value → Option Tv
  | .agg cs => (cSVs cs.toList).map .agg
  | .tuple _ => none
  | v => (cSV v).map .one

theorem cSV_sound (ρ : Env) {v : Value} {s : SV} (h : cSV v = some s) : s.den ρ = v ∧ s.ids = [] := by
  cases v <;> simp only [cSV] at h <;> first
    | (cases h; done)
    | (injection h with h; subst h; exact ⟨rfl, rfl⟩)
    | skip
  · rename_i a; cases a <;> simp only at h
    · injection h with h; subst h; exact ⟨rfl, rfl⟩
    · cases h
  · rename_i a l c
    cases a <;> simp only at h
    · cases hb : Nat.beq l 0 && Nat.beq c 0 with
      | false => rw [hb] at h; cases h
      | true =>
        rw [hb] at h
        rw [Bool.and_eq_true] at hb
        injection h with h; subst h
        rw [beq_iff.1 hb.1, beq_iff.1 hb.2]; exact ⟨rfl, rfl⟩
    · cases h

theorem cSVs_sound (ρ : Env) : ∀ {l : List Value} {s : List SV}, cSVs l = some s → dens ρ s = l ∧ idsOf s = []
  | [], s, h => by simp only [cSVs] at h; injection h with h; subst h; exact ⟨rfl, rfl⟩
  | v :: r, s, h => by
    simp only [cSVs] at h
    cases h1 : cSV v with
    | none => rw [h1] at h; cases h
    | some x =>
      rw [h1] at h
      simp only at h
      cases h2 : cSVs r with
      | none => rw [h2] at h; cases h
      | some l =>
        rw [h2] at h
        simp only at h
        injection h with h; subst h
        obtain ⟨a1, a2⟩ := cSV_sound ρ h1
        obtain ⟨b1, b2⟩ := cSVs_sound ρ h2
        exact ⟨by simp only [dens, List.map_cons] at b1 ⊢; rw [a1, b1], by simp [idsOf, a2] at b2 ⊢; exact b2⟩

theorem cTv_sound (ρ : Env) {v : Value} {t : Tv} (h : cTv v = some t) : t.den ρ = v ∧ t.ids = [] := by
  have one : ∀ {v : Value}, (cSV v).map Tv.one = some t → t.den ρ = v ∧ t.ids = [] := by
    intro v h
    cases hs : cSV v with
    | none => rw [hs] at h; cases h
    | some s =>
      rw [hs] at h
      simp only [Option.map] at h
      injection h with h; subst h
      exact cSV_sound ρ hs
  cases v <;> simp only [cTv] at h <;> first
    | (cases h; done)
    | exact one h
    | skip
  rename_i cs
  cases hs : cSVs cs.toList with
  | none => rw [hs] at h; cases h
  | some s =>
    rw [hs] at h
    simp only [Option.map] at h
    injection h with h; subst h
    obtain ⟨a1, a2⟩ := cSVs_sound ρ hs
    exact ⟨by simp [Tv.den, a1], a2⟩

/-! ### values out of slots -/
def evO (slots : List (Nat × Tv)) : Operand → Option Tv
  | .tmp t => look slots t
  | .const v => cTv v
  | .global _ => none
  | .func f => some (.one (.fn f [] []))

section
variable {P : Program} {o : Oper} {a : Act} {R : Nat → Prop} {ρ : Env} {gh : Gh} {next : Nat} {w : World} {ev : Operand → Option Tv}

/-! ### move, assign, pick -/
def stepPick (c x y : Option Tv) (next : Nat) : Tree Delta :=
  match c with
  | some (.one (.cbool true)) => match x with | some v => .leaf ⟨v, [], next⟩ | none => .fail "pick"
  | some (.one (.cbool false)) => match y with | some v => .leaf ⟨v, [], next⟩ | none => .fail "pick"
  | some (.one (.bool b)) =>
    .fork b (match x with | some v => .leaf ⟨v, [], next⟩ | none => .fail "pick") (match y with | some v => .leaf ⟨v, [], next⟩ | none => .fail "pick")
  | _ => .fail "pick"

def stepMove (x : Option Tv) (next : Nat) : Tree Delta :=
  match x with
  | some v => .leaf ⟨v, [], next⟩
  | none => .fail "move"

theorem stepMove_ok {d : Delta} {x : Operand} (ho : o.op = .move x ∨ o.op = .assign x) (hC : Ctx a R ρ gh next d.next w ev) (h : (stepMove (ev x) next).reach d) : OpOK P o a R ρ gh next w d := by
  unfold stepMove at h
  split at h
  · rename_i v hv
    cases h
    refine OpOK.value hC.rep ?_
    have := hC.val x _ hv
    rcases ho with ho | ho <;> simp only [execOp, ho, this, Sem.run_pure]
  · exact h.elim

theorem stepPick_ok {d : Delta} {c x y : Operand} (ho : o.op = .pick c x y) (hC : Ctx a R ρ gh next d.next w ev) (h : (stepPick (ev c) (ev x) (ev y) next).reach d) : OpOK P o a R ρ gh next w d := by
  have key : ∀ (b : Bool) (z : Operand), a.eval c = .bool b → z = (if b then x else y) → (match ev z with | some v => Tree.leaf (⟨v, [], next⟩ : Delta) | none => .fail "pick").reach d → OpOK P o a R ρ gh next w d := by
    intro b z hc hz h
    cases hv : ev z with
    | none => rw [hv] at h; exact h.elim
    | some v =>
      rw [hv] at h
      cases h
      refine OpOK.value hC.rep ?_
      have := hC.val z _ hv
      simp only [execOp, ho, hc, asBool, Sem.run_bind, Sem.run_pure, Result.andThen_ok]
      cases b <;> simp at hz <;> subst hz <;> simp [this]
  unfold stepPick at h
  split at h
  · rename_i hc; exact key true x (hC.val c _ hc) rfl h
  · rename_i hc; exact key false y (hC.val c _ hc) rfl h
  · rename_i b hc
    rcases h with ⟨rfl, h⟩ | ⟨rfl, h⟩
    · exact key true x (hC.val c _ hc) rfl h
    · exact key false y (hC.val c _ hc) rfl h
  · exact h.elim

/-! ### new variables -/
def stepBox (v : Option Tv) (next : Nat) : Tree Delta :=
  match v.bind tvCells with
  | some cs => .leaf ⟨.one (.ptr next 0), [(next, some (.blk cs))], next + 1⟩
  | none => .fail "box"

theorem ptr_new : Value.pointer (some ⟨w.heap.size, 0, none⟩) = (SV.ptr next 0).den (ρ.set next ⟨some ⟨w.heap.size, 0, none⟩, 0, 0⟩) := by
  simp [SV.den, Env.at, Env.set_at]

theorem stepBox_ok {d : Delta} {t : TypeId} {x : Operand} (ho : o.op = .box t x) (hC : Ctx a R ρ gh next d.next w ev) (h : (stepBox (ev x) next).reach d) : OpOK P o a R ρ gh next w d := by
  unfold stepBox at h
  split at h
  · rename_i cs hcs
    cases h
    cases hv : ev x with
    | none => rw [hv] at hcs; cases hcs
    | some v =>
      rw [hv] at hcs
      simp only [Option.bind] at hcs
      have hx := hC.val x _ hv
      obtain ⟨h1, h2⟩ := RepG.alloc (next := next) (cs := cs) (T := t) hC.rep hC.bd (fun i hi => hC.evb x v hv i (by rw [← tvCells_ids hcs]; exact hi))
      refine OpOK.of_run (V := .pointer (some ⟨w.heap.size, 0, none⟩)) ?_ ?_ h2 h1
      · simp only [execOp, ho, hx, Instr.box, newVar, newRow, tvCells_den hcs, Sem.run_bind, run_newObj, Sem.run_pure, Result.andThen_ok]
        rfl
      · simp [Tv.den, SV.den, Env.at, Env.set_at]
  · exact h.elim

def zeroS (P : Program) (t : TypeId) : Option (List SV) := ((P.info? t).bind (·.zero)).bind fun v => cSVs v.cells.toList

def stepAlloc (P : Program) (t : TypeId) (next : Nat) : Tree Delta :=
  match zeroS P t with
  | some cs => .leaf ⟨.one (.ptr next 0), [(next, some (.blk cs))], next + 1⟩
  | none => .fail "alloc"

theorem zeroS_sound (ρ : Env) {t : TypeId} {cs : List SV} (h : zeroS P t = some cs) : ∃ z, (∀ w, (zeroValue t).run P w = .ok z w) ∧ z.cells = (dens ρ cs).toArray ∧ idsOf cs = [] := by
  unfold zeroS at h
  cases hi : P.info? t with
  | none => rw [hi] at h; cases h
  | some i =>
    rw [hi] at h
    simp only [Option.bind] at h
    cases hz : i.zero with
    | none => rw [hz] at h; cases h
    | some z =>
      rw [hz] at h
      simp only at h
      obtain ⟨h1, h2⟩ := cSVs_sound ρ h
      refine ⟨z, fun w => by simp [zeroValue, typeInfo, hi, hz], ?_, h2⟩
      rw [h1]

theorem stepAlloc_ok {d : Delta} {t : TypeId} (ho : o.op = .alloc t) (hC : Ctx a R ρ gh next d.next w ev) (h : (stepAlloc P t next).reach d) : OpOK P o a R ρ gh next w d := by
  unfold stepAlloc at h
  split at h
  · rename_i cs hcs
    cases h
    obtain ⟨z, h1, h2, h3⟩ := zeroS_sound ρ hcs
    obtain ⟨g1, g2⟩ := RepG.alloc (next := next) (cs := cs) (T := t) hC.rep hC.bd (by simp [h3])
    refine OpOK.of_run (V := .pointer (some ⟨w.heap.size, 0, none⟩)) ?_ ?_ g2 g1
    · simp only [execOp, ho, Instr.alloc, h1, newVar, newRow, h2, Sem.run_bind, run_newObj, Sem.run_pure, Result.andThen_ok]
      rfl
    · simp [Tv.den, SV.den, Env.at, Env.set_at]
  · exact h.elim

/-! ### integers -/
def numOf : Tv → Option (Bool × IntKind × Int)
  | .one (.cint k n) => some (true, k, n)
  | .one (.int k n) => some (false, k, n)
  | _ => none

def boolOf : Tv → Option (Bool × Bool)
  | .one (.cbool b) => some (true, b)
  | .one (.bool b) => some (false, b)
  | _ => none

def mkI (c : Bool) (k : IntKind) (n : Int) : Tv := match c with | true => .one (.cint k n) | false => .one (.int k n)
def mkB (c b : Bool) : Tv := match c with | true => .one (.cbool b) | false => .one (.bool b)

theorem numOf_den {v : Tv} {c : Bool} {k : IntKind} {n : Int} (h : numOf v = some (c, k, n)) : v.den ρ = .int k n := by
  unfold numOf at h
  split at h <;> first | (injection h with h; injection h with _ h; injection h with h1 h2; subst h1; subst h2; rfl) | cases h
theorem boolOf_den {v : Tv} {c b : Bool} (h : boolOf v = some (c, b)) : v.den ρ = .bool b := by
  unfold boolOf at h
  split at h <;> first | (injection h with h; injection h with _ h; subst h; rfl) | cases h
@[simp] theorem mkI_den {c : Bool} {k : IntKind} {n : Int} : (mkI c k n).den ρ = .int k n := by cases c <;> rfl
@[simp] theorem mkB_den {c b : Bool} : (mkB c b).den ρ = .bool b := by cases c <;> rfl

def bitsI (k : IntKind) (r : BitVec k.bits) : Int := k.wrap r.toNat

/-- two integers -/
def binI (op : BinOp) (c1 : Bool) (k1 : IntKind) (x : Int) (c2 : Bool) (k2 : IntKind) (y : Int) (next : Nat) : Tree Delta :=
  match op with
  | .shl => .req (0 ≤ y) (.leaf ⟨mkI (c1 && c2) k1 (k1.wrap (x * 2 ^ (min y.toNat k1.bits))), [], next⟩)
  | .shr => .req (0 ≤ y) (.leaf ⟨mkI (c1 && c2) k1 (x.fdiv (2 ^ (min y.toNat k1.bits))), [], next⟩)
  | op =>
    if k1 = k2 then
      match op with
      | .add => .leaf ⟨mkI (c1 && c2) k1 (k1.wrap (x + y)), [], next⟩
      | .sub => .leaf ⟨mkI (c1 && c2) k1 (k1.wrap (x - y)), [], next⟩
      | .mul => .leaf ⟨mkI (c1 && c2) k1 (k1.wrap (x * y)), [], next⟩
      | .quo => .req (y ≠ 0) (.leaf ⟨mkI (c1 && c2) k1 (k1.wrap (x.tdiv y)), [], next⟩)
      | .rem => .req (y ≠ 0) (.leaf ⟨mkI (c1 && c2) k1 (x.tmod y), [], next⟩)
      | .and => .leaf ⟨mkI (c1 && c2) k1 (bitsI k1 (BitVec.ofInt k1.bits x &&& BitVec.ofInt k1.bits y)), [], next⟩
      | .or => .leaf ⟨mkI (c1 && c2) k1 (bitsI k1 (BitVec.ofInt k1.bits x ||| BitVec.ofInt k1.bits y)), [], next⟩
      | .xor => .leaf ⟨mkI (c1 && c2) k1 (bitsI k1 (BitVec.ofInt k1.bits x ^^^ BitVec.ofInt k1.bits y)), [], next⟩
      | .eql => .leaf ⟨mkB (c1 && c2) (x == y), [], next⟩
      | .neq => .leaf ⟨mkB (c1 && c2) (x != y), [], next⟩
      | .lss => .leaf ⟨mkB (c1 && c2) (decide (x < y)), [], next⟩
      | .leq => .leaf ⟨mkB (c1 && c2) (decide (x ≤ y)), [], next⟩
      | .gtr => .leaf ⟨mkB (c1 && c2) (decide (x > y)), [], next⟩
      | .geq => .leaf ⟨mkB (c1 && c2) (decide (x ≥ y)), [], next⟩
      | _ => .fail "binop integers"
    else .fail "binop integers of two kinds"

theorem binI_sound {op : BinOp} {c1 c2 : Bool} {k1 k2 : IntKind} {x y : Int} {d : Delta} {t : TypeId} (h : (binI op c1 k1 x c2 k2 y next).reach d) :
    d.upd = [] ∧ d.next = next ∧ (binOp op t (.int k1 x) (.int k2 y)).run P w = .ok (d.val.den ρ) w := by
  have rel : ∀ (v : Tv) (z : Value), d = ⟨v, [], next⟩ → (binOp op t (.int k1 x) (.int k2 y)).run P w = .ok z w → v.den ρ = z →
      d.upd = [] ∧ d.next = next ∧ (binOp op t (.int k1 x) (.int k2 y)).run P w = .ok (d.val.den ρ) w := by
    rintro v z rfl h1 h2; exact ⟨rfl, rfl, by rw [h1, h2]⟩
  cases op <;> simp only [binI] at h
  case shl =>
    obtain ⟨h0, h⟩ := h
    cases h
    refine rel _ _ rfl ?_ mkI_den
    simp only [binOp, Op.shift, if_neg (show ¬ y < 0 by omega), Sem.run_pure]
  case shr =>
    obtain ⟨h0, h⟩ := h
    cases h
    refine rel _ _ rfl ?_ mkI_den
    simp only [binOp, Op.shift, if_neg (show ¬ y < 0 by omega), Sem.run_pure]
  all_goals
    by_cases e : k1 = k2
    · rw [if_pos e] at h
      subst e
      first
        | (exact h.elim; done)
        | (obtain ⟨h0, h⟩ := h; cases h
           refine rel _ _ rfl ?_ mkI_den
           simp only [binOp, Op.intDiv, if_neg h0, ne_eq, not_true_eq_false, if_false, Sem.run_pure]
           done)
        | (cases h
           refine rel _ _ rfl ?_ mkI_den
           simp only [binOp, Op.intArith, Op.intBits, bitsI, ne_eq, not_true_eq_false, if_false, Sem.run_pure]
           done)
        | (cases h
           refine rel _ _ rfl ?_ mkB_den
           simp only [binOp, Op.intCmp, ne_eq, not_true_eq_false, if_false, Sem.run_pure]
           done)
    · rw [if_neg e] at h; exact h.elim
end

end Sx
