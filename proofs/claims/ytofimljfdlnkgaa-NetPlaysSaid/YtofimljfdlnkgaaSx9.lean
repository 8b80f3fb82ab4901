/- A symbolic executor for the model's code: operators, addresses, parts. -/
import Derived.Test.YtofimljfdlnkgaaSx8
namespace Sx
open Go Go.RowKit

section
variable {P : Program} {o : Oper} {a : Act} {R : Nat → Prop} {ρ : Env} {gh : Gh} {next : Nat} {w : World} {ev : Operand → Option Tv}

/-- a pointer that is not nil, by its look -/
def sureP (gh : Gh) : SV → Bool
  | .ptr id _ | .elt id _ _ _ _ _ =>
    match look gh id with
    | some (.blk _) | some (.rob _) | some (.obj _ _ _) => true
    | _ => false
  | _ => false

theorem sureP_sound (hG : RepG R ρ gh w) {s : SV} (h : sureP gh s = true) : ∃ b o, s.den ρ = .pointer (some ⟨b, o, none⟩) := by
  have key : ∀ (id k : Nat), (match look gh id with | some (.blk _) | some (.rob _) | some (.obj _ _ _) => true | _ => false) = true → ∃ b o, ρ.at id k = some ⟨b, o, none⟩ := by
    intro id k h
    cases hg : look gh id with
    | none => rw [hg] at h; cases h
    | some g =>
      rw [hg] at h
      have hf := hG.facts id g hg
      cases g with
      | blk cs => obtain ⟨b, T, ha, _⟩ := hf; exact ⟨b, 0 + k, by simp [Env.at, ha]⟩
      | rob cs => obtain ⟨b, o, ha, _⟩ := hf; exact ⟨b, o + k, by simp [Env.at, ha]⟩
      | ro t xs => cases h
      | own t xs => cases h
      | opt _ _ => cases h
      | pin _ _ => cases h
      | obj cs t x => obtain ⟨b, T, vs, ha, _⟩ := hf; exact ⟨b, 0 + k, by simp [Env.at, ha]⟩
  cases s <;> simp only [sureP] at h <;> try (cases h; done)
  · obtain ⟨b, o, h'⟩ := key _ _ h; exact ⟨b, o, by simp only [SV.den]; rw [h']⟩
  · obtain ⟨b, o, h'⟩ := key _ _ h; exact ⟨b, o, by simp only [SV.den]; rw [h']⟩

/-- is it nil: known by its look, or a test -/
def nilP (gh : Gh) (s : SV) : Option (Bool × Bool) :=
  bif sureP gh s then some (true, false) else
  match s with
  | .ptr id off =>
    match look gh id with
    | some (.opt _ x) => bif Nat.beq off 0 then some (false, x.isNone) else none
    | _ => none
  | _ => none

theorem nilP_sound (hG : RepG R ρ gh w) {s : SV} {c b : Bool} (h : nilP gh s = some (c, b)) : ∃ A, s.den ρ = .pointer A ∧ b = A.isNone := by
  unfold nilP at h
  cases hb : sureP gh s with
  | true =>
    rw [hb] at h
    injection h with h; injection h with _ h; subst h
    obtain ⟨bb, oo, hd⟩ := sureP_sound hG hb
    exact ⟨_, hd, rfl⟩
  | false =>
    rw [hb] at h
    simp only [cond_false] at h
    split at h
    · rename_i id off
      split at h
      · rename_i t x hg
        cases ho : Nat.beq off 0 with
        | false => rw [ho] at h; cases h
        | true =>
          rw [ho] at h
          simp only [cond_true] at h
          injection h with h; injection h with _ h; subst h
          have e0 := beq_iff.1 ho
          subst e0
          have hf : OptR R w t x (ρ id).addr := hG.facts id _ hg
          cases x with
          | none =>
            have hf : (ρ id).addr = none := hf
            exact ⟨none, by simp [SV.den, Env.at, hf], rfl⟩
          | some y =>
            obtain ⟨b, o, e, _⟩ := hf
            exact ⟨some ⟨b, o, none⟩, by simp [SV.den, Env.at, e], rfl⟩
      · cases h
    · cases h

/-- equality, of what is no integer -/
def eqV (P : Program) (t : TypeId) (gh : Gh) (x y : Tv) : Option (Bool × Bool) :=
  match x, y with
  | .one (.nilp), .one s | .one s, .one (.nilp) =>
    match P.underlying t with
    | some (.pointer _) =>
      match s with
      | .nilp => some (true, true)
      | s => nilP gh s
    | _ => none
  | .one (.nils), .one (.nils) => match P.underlying t with | some (.slice _) => some (true, true) | _ => none
  | .one (.fn _ _ _), .one .nilf => match P.underlying t with | some (.func _ _ _) => some (true, false) | _ => none
  | .agg xs, .agg ys =>
    bif P.eqGuardType P.depth t then none else
    match sizeT P t with
    | some n => bif isAggT P t && Nat.beq xs.length n && Nat.beq ys.length n then (eqC P 40 t xs ys).map fun b => (false, b) else none
    | none => none
  | x, y =>
    match boolOf x, boolOf y with
    | some (c1, b1), some (c2, b2) => match P.underlying t with | some .bool => some (c1 && c2, b1 == b2) | _ => none
    | _, _ => none

/-- what there is to compare with nil -/
theorem eqIn_pp {d : Nat} {t e : TypeId} (hu : P.underlying t = some (.pointer e)) : (Op.equalIn (d + 1) t (.pointer none) (.pointer none)).run P w = .ok true w := by
  simp [Op.equalIn, run_underlying hu]
theorem eqIn_ps {d : Nat} {t e : TypeId} {A : Addr} (hu : P.underlying t = some (.pointer e)) : (Op.equalIn (d + 1) t (.pointer none) (.pointer (some A))).run P w = .ok false w := by
  simp [Op.equalIn, run_underlying hu]
theorem eqIn_sp {d : Nat} {t e : TypeId} {A : Addr} (hu : P.underlying t = some (.pointer e)) : (Op.equalIn (d + 1) t (.pointer (some A)) (.pointer none)).run P w = .ok false w := by
  simp [Op.equalIn, run_underlying hu]
theorem eqIn_ss {d : Nat} {t e : TypeId} (hu : P.underlying t = some (.slice e)) : (Op.equalIn (d + 1) t (.slice none 0 0) (.slice none 0 0)).run P w = .ok true w := by
  simp [Op.equalIn, run_underlying hu]
theorem eqIn_fn {d : Nat} {t : TypeId} {e1 e2 : Array TypeId} {e3 : Bool} {f : Fn} {x y : Array Value} (hu : P.underlying t = some (.func e1 e2 e3)) : (Op.equalIn (d + 1) t (.func f x y) .nilFunc).run P w = .ok false w := by
  simp [Op.equalIn, run_underlying hu]
theorem eqIn_bb {d : Nat} {t : TypeId} {x y : Bool} (hu : P.underlying t = some .bool) : (Op.equalIn (d + 1) t (.bool x) (.bool y)).run P w = .ok (x == y) w := by
  simp [Op.equalIn, run_underlying hu]

theorem eqBin {t : TypeId} {X Y : Value} {b : Bool} (h : (Op.equalIn (9999 + 1) t X Y).run P w = .ok b w) (e1 : binOp .eql t X Y = (do pure (.bool (← Op.equal t X Y))))
    (e2 : binOp .neq t X Y = (do pure (.bool (!(← Op.equal t X Y))))) : (binOp .eql t X Y).run P w = .ok (.bool b) w ∧ (binOp .neq t X Y).run P w = .ok (.bool (!b)) w := by
  have h' : (Op.equal t X Y).run P w = .ok b w := h
  rw [e1, e2]
  constructor <;> simp only [Sem.run_bind, h', Result.andThen_ok, Sem.run_pure]

theorem guardP {op : BinOp} {t : TypeId} {u v : Operand} {X Y : Option Addr} : (eqGuard op t u v (.pointer X) (.pointer Y)).run P w = .ok () w := by
  cases op <;> simp [eqGuard]
theorem guardS {op : BinOp} {t : TypeId} {u v : Operand} {X Y : Option Addr} {m n m' n' : Nat} : (eqGuard op t u v (.slice X m n) (.slice Y m' n')).run P w = .ok () w := by
  cases op <;> simp [eqGuard]
theorem guardF {op : BinOp} {t : TypeId} {u v : Operand} {f : Fn} {x y : Array Value} : (eqGuard op t u v (.func f x y) .nilFunc).run P w = .ok () w := by
  cases op <;> simp [eqGuard]
theorem guardB {op : BinOp} {t : TypeId} {u v : Operand} {x y : Bool} : (eqGuard op t u v (.bool x) (.bool y)).run P w = .ok () w := by
  cases op <;> simp [eqGuard]
theorem guardI {op : BinOp} {t : TypeId} {u v : Operand} {k k' : IntKind} {x y : Int} : (eqGuard op t u v (.int k x) (.int k' y)).run P w = .ok () w := by
  cases op <;> simp [eqGuard]
theorem guardSt {op : BinOp} {t : TypeId} {u v : Operand} {x y : ByteArray} : (eqGuard op t u v (.string x) (.string y)).run P w = .ok () w := by
  cases op <;> simp [eqGuard]

theorem eqV_sound (hG : RepG R ρ gh w) {t : TypeId} {x y : Tv} {c b : Bool} (h : eqV P t gh x y = some (c, b)) :
    (binOp .eql t (x.den ρ) (y.den ρ)).run P w = .ok (.bool b) w ∧ (binOp .neq t (x.den ρ) (y.den ρ)).run P w = .ok (.bool (!b)) w ∧
    ∀ op u v, (eqGuard op t u v (x.den ρ) (y.den ρ)).run P w = .ok () w := by
  unfold eqV at h
  split at h
  · rename_i s
    split at h
    · rename_i e hu
      split at h
      · injection h with h; injection h with _ h; subst h
        have := eqBin (P := P) (w := w) (eqIn_pp hu) rfl rfl
        exact ⟨this.1, this.2, fun op u v => guardP⟩
      · obtain ⟨A, hd, hb⟩ := nilP_sound hG h
        subst hb
        simp only [Tv.den, hd, show SV.nilp.den ρ = .pointer none from rfl]
        cases A with
        | none =>
          have := eqBin (P := P) (w := w) (eqIn_pp hu) rfl rfl
          exact ⟨this.1, this.2, fun op u v => guardP⟩
        | some A =>
          have := eqBin (P := P) (w := w) (eqIn_ps (A := A) hu) rfl rfl
          exact ⟨this.1, this.2, fun op u v => guardP⟩
    · cases h
  · rename_i s _
    split at h
    · rename_i e hu
      split at h
      · injection h with h; injection h with _ h; subst h
        have := eqBin (P := P) (w := w) (eqIn_pp hu) rfl rfl
        exact ⟨this.1, this.2, fun op u v => guardP⟩
      · obtain ⟨A, hd, hb⟩ := nilP_sound hG h
        subst hb
        simp only [Tv.den, hd, show SV.nilp.den ρ = .pointer none from rfl]
        cases A with
        | none =>
          have := eqBin (P := P) (w := w) (eqIn_pp hu) rfl rfl
          exact ⟨this.1, this.2, fun op u v => guardP⟩
        | some A =>
          have := eqBin (P := P) (w := w) (eqIn_sp (A := A) hu) rfl rfl
          exact ⟨this.1, this.2, fun op u v => guardP⟩
    · cases h
  · split at h
    · rename_i e hu
      injection h with h; injection h with _ h; subst h
      have := eqBin (P := P) (w := w) (eqIn_ss hu) rfl rfl
      exact ⟨this.1, this.2, fun op u v => guardS⟩
    · cases h
  · split at h
    · rename_i e1 e2 e3 hu
      injection h with h; injection h with _ h; subst h
      exact ⟨(eqBin (P := P) (w := w) (eqIn_fn hu) rfl rfl).1, (eqBin (P := P) (w := w) (eqIn_fn hu) rfl rfl).2, fun op u v => guardF⟩
    · cases h
  · rename_i xs ys
    cases hg : P.eqGuardType P.depth t with
    | true => rw [hg] at h; cases h
    | false =>
      rw [hg] at h
      simp only [cond_false] at h
      cases hs : sizeT P t with
      | none => rw [hs] at h; cases h
      | some n =>
        rw [hs] at h
        simp only at h
        cases hb : isAggT P t && Nat.beq xs.length n && Nat.beq ys.length n with
        | false => rw [hb] at h; cases h
        | true =>
          rw [hb] at h
          simp only [cond_true] at h
          simp only [Bool.and_eq_true] at hb
          cases hc : eqC P 40 t xs ys with
          | none => rw [hc] at h; cases h
          | some b' =>
            rw [hc] at h
            simp only [Option.map] at h
            injection h with h; injection h with _ h; subst h
            have := (eqC_sound (ρ := ρ) 40 t xs ys b' n hs (beq_iff.1 hb.1.2) (beq_iff.1 hb.2) hc 10000 (by omega)).2 w
            unfold valOf at this
            rw [hb.1.1] at this
            simp only [if_true] at this
            refine ⟨?_, ?_, fun op u v => run_eqGuard_agg w op t u v _ _ hg⟩
            · simp only [Tv.den]; rw [run_eql_struct, this]; rfl
            · simp only [Tv.den]; rw [run_neq_struct, this]; rfl
  · split at h
    · rename_i c1 b1 c2 b2 h1 h2
      split at h
      · rename_i hu
        injection h with h; injection h with _ h; subst h
        rw [boolOf_den h1, boolOf_den h2]
        have := eqBin (P := P) (w := w) (eqIn_bb (x := b1) (y := b2) hu) rfl rfl
        exact ⟨this.1, this.2, fun op u v => guardB⟩
      · cases h
    · cases h

def strOf : Tv → Option ByteArray
  | .one (.str s) => some s
  | _ => none

theorem strOf_den {v : Tv} {s : ByteArray} (h : strOf v = some s) : v.den ρ = .string s := by
  unfold strOf at h
  split at h <;> first | (injection h with h; subst h; rfl) | cases h

def binS (op : BinOp) (x y : ByteArray) (next : Nat) : Tree Delta :=
  match op with
  | .add => .req (((x.size + y.size : Nat) : Int) ≤ IntKind.i64.max) (.leaf ⟨.one (.str (x ++ y)), [], next⟩)
  | .eql => .leaf ⟨.one (.bool (x.toList == y.toList)), [], next⟩
  | .neq => .leaf ⟨.one (.bool (!(x.toList == y.toList))), [], next⟩
  | .lss => .leaf ⟨.one (.bool (Op.bytesLess x.toList y.toList)), [], next⟩
  | .leq => .leaf ⟨.one (.bool (Op.bytesLess x.toList y.toList || (x.toList == y.toList))), [], next⟩
  | .gtr => .leaf ⟨.one (.bool (!(Op.bytesLess x.toList y.toList || (x.toList == y.toList)))), [], next⟩
  | .geq => .leaf ⟨.one (.bool (!(Op.bytesLess x.toList y.toList))), [], next⟩
  | _ => .fail "binop strings"

def stepBin (P : Program) (op : BinOp) (t : TypeId) (x y : Option Tv) (gh : Gh) (next : Nat) : Tree Delta :=
  match x, y with
  | some x, some y =>
    match numOf x, numOf y with
    | some (c1, k1, n1), some (c2, k2, n2) => binI op c1 k1 n1 c2 k2 n2 next
    | _, _ =>
      match strOf x, strOf y with
      | some s1, some s2 => binS op s1 s2 next
      | _, _ =>
        match op with
        | .eql => match eqV P t gh x y with | some (c, b) => .leaf ⟨mkB c b, [], next⟩ | none => .fail " "
        | .neq => match eqV P t gh x y with | some (c, b) => .leaf ⟨mkB c (!b), [], next⟩ | none => .fail " "
        | _ => .fail "binop"
  | _, _ => .fail "binop no operands"

theorem stepBin_ok {d : Delta} {op : BinOp} {t ty : TypeId} {x y : Operand} (ho : o.op = .binOp op t x y ty) (hC : Ctx a R ρ gh next d.next w ev) (h : (stepBin P op t (ev x) (ev y) gh next).reach d) :
    OpOK P o a R ρ gh next w d := by
  unfold stepBin at h
  split at h
  · rename_i vx vy hx hy
    have ex := hC.val x _ hx
    have ey := hC.val y _ hy
    have fin : ∀ (v : Tv), d = ⟨v, [], next⟩ → (∀ op' u v', (eqGuard op' t u v' (vx.den ρ) (vy.den ρ)).run P w = .ok () w) → (binOp op t (vx.den ρ) (vy.den ρ)).run P w = .ok (v.den ρ) w → OpOK P o a R ρ gh next w d := by
      rintro v rfl hg hr
      refine OpOK.value hC.rep ?_
      simp only [execOp, ho, ex, ey, Sem.run_bind, hg, Result.andThen_ok, hr, Sem.run_pure]
    split at h
    · rename_i c1 k1 n1 c2 k2 n2 h1 h2
      obtain ⟨e1, e2, e3⟩ := binI_sound (w := w) (ρ := ρ) (P := P) (t := t) h
      obtain ⟨v, u, nn⟩ := d
      simp only at e1 e2
      subst e1; subst e2
      refine fin v rfl (fun op' u v' => ?_) (by rw [numOf_den h1, numOf_den h2]; exact e3)
      rw [numOf_den h1, numOf_den h2]
      exact guardI
    · split at h
      · rename_i s1 s2 h1 h2
        rw [strOf_den h1, strOf_den h2] at fin
        have hgd : ∀ op' u v', (eqGuard op' t u v' (.string s1) (.string s2)).run P w = .ok () w := fun op' u v' => guardSt
        cases op <;> simp only [binS] at h <;> try (exact h.elim)
        · obtain ⟨h0, h⟩ := h
          cases h
          refine fin _ rfl hgd ?_
          have : ¬ (((s1.size + s2.size : Nat) : Int) > IntKind.i64.max) := by omega
          simp only [binOp, Op.stringOp, if_neg this, Sem.run_pure, Tv.den, SV.den]
        all_goals
          cases h
          refine fin _ rfl hgd ?_
          simp only [binOp, Op.stringOp, Sem.run_pure, Tv.den, SV.den]
      · split at h
        · cases he : eqV P t gh vx vy with
          | none => rw [he] at h; exact h.elim
          | some r =>
            obtain ⟨c, b⟩ := r
            rw [he] at h
            cases h
            obtain ⟨h1, _, h3⟩ := eqV_sound hC.rep he
            exact fin _ rfl h3 (by rw [h1]; simp)
        · cases he : eqV P t gh vx vy with
          | none => rw [he] at h; exact h.elim
          | some r =>
            obtain ⟨c, b⟩ := r
            rw [he] at h
            cases h
            obtain ⟨_, h2, h3⟩ := eqV_sound hC.rep he
            exact fin _ rfl h3 (by rw [h2]; simp)
        · exact h.elim
  · exact h.elim

def stepUn (op : UnOp) (x : Option Tv) (next : Nat) : Tree Delta :=
  match op, x with
  | .not, some v => match boolOf v with | some (c, b) => .leaf ⟨mkB c (!b), [], next⟩ | none => .fail "not"
  | .neg, some v => match numOf v with | some (c, k, n) => .leaf ⟨mkI c k (k.wrap (0 - n)), [], next⟩ | none => .fail "neg"
  | _, _ => .fail "unop"

theorem stepUn_ok {d : Delta} {op : UnOp} {t : TypeId} {x : Operand} (ho : o.op = .unOp op t x) (hC : Ctx a R ρ gh next d.next w ev) (h : (stepUn op (ev x) next).reach d) : OpOK P o a R ρ gh next w d := by
  unfold stepUn at h
  split at h
  · rename_i v hv
    split at h
    · rename_i c b hb
      cases h
      refine OpOK.value hC.rep ?_
      have := hC.val x _ hv
      rw [boolOf_den hb] at this
      simp only [execOp, ho, this, Op.unary, Sem.run_bind, Sem.run_pure, Result.andThen_ok, mkB_den]
    · exact h.elim
  · rename_i v hv
    split at h
    · rename_i c k n hb
      cases h
      refine OpOK.value hC.rep ?_
      have := hC.val x _ hv
      rw [numOf_den hb] at this
      simp only [execOp, ho, this, Op.unary, Op.intArith, Sem.run_bind, Sem.run_pure, Result.andThen_ok, mkI_den]
    · exact h.elim
  · exact h.elim

def stepConv (P : Program) (src dst : TypeId) (x : Option Tv) (next : Nat) : Tree Delta :=
  match x with
  | some v =>
    match numOf v, P.underlying src, P.underlying dst with
    | some (c, _, n), some _, some (.int k) => .leaf ⟨mkI c k (k.wrap n), [], next⟩
    | _, _, _ => .fail "convert"
  | none => .fail "convert"

theorem stepConv_ok {d : Delta} {src dst : TypeId} {x : Operand} (ho : o.op = .convert src dst x) (hC : Ctx a R ρ gh next d.next w ev) (h : (stepConv P src dst (ev x) next).reach d) :
    OpOK P o a R ρ gh next w d := by
  unfold stepConv at h
  split at h
  · rename_i v hv
    split at h
    · rename_i c k1 n ds k h1 h2 h3
      cases h
      refine OpOK.value hC.rep ?_
      have := hC.val x _ hv
      rw [numOf_den h1] at this
      simp [execOp, ho, this, convert, run_underlying h2, run_underlying h3, Conv.intToInt]
    · exact h.elim
  · exact h.elim

/-! ### addresses -/
def stepNil (gh : Gh) (x : Option Tv) (next : Nat) : Tree Delta :=
  match x with
  | some (.one s) =>
    match s with
    | .fn .. => .leaf ⟨.one s, [], next⟩
    | s => bif sureP gh s then .leaf ⟨.one s, [], next⟩ else
      match nilP gh s with
      | some (_, b) => .req (b = false) (.leaf ⟨.one s, [], next⟩)
      | none => .fail "nil check"
  | _ => .fail "nil check"

theorem stepNil_ok {d : Delta} {x : Operand} (ho : o.op = .nilCheck x) (hC : Ctx a R ρ gh next d.next w ev) (h : (stepNil gh (ev x) next).reach d) : OpOK P o a R ρ gh next w d := by
  unfold stepNil at h
  split at h
  · rename_i s hv
    have hx := hC.val x _ hv
    split at h
    · cases h
      refine OpOK.value hC.rep ?_
      simp only [execOp, ho, hx, Tv.den, SV.den, Sem.run_pure]
    · cases hb : sureP gh s with
      | false =>
        rw [hb] at h
        simp only [cond_false] at h
        split at h
        · rename_i c0 b0 hn
          obtain ⟨h0, h⟩ := h
          cases h
          obtain ⟨A, hd, hA⟩ := nilP_sound hC.rep hn
          cases A with
          | none => rw [hA] at h0; cases h0
          | some A =>
            refine OpOK.value hC.rep ?_
            simp only [execOp, ho, hx, Tv.den, hd, Sem.run_pure]
        · exact h.elim
      | true =>
        rw [hb] at h
        cases h
        obtain ⟨b, oo, hd⟩ := sureP_sound hC.rep hb
        refine OpOK.value hC.rep ?_
        simp only [execOp, ho, hx, Tv.den, hd, Sem.run_pure]
  · exact h.elim

/-- an element of a row that there is: its address is known -/
def eltIn (gh : Gh) : SV → Option Prop
  | .elt id base i sz _ _ =>
    match look gh id with
    | some (.ro t xs) | some (.own t xs) => bif Nat.beq base 0 && Nat.beq sz t.size then some (0 ≤ i ∧ i < (xs.length : Int)) else none
    | _ => none
  | _ => none

def shift (k : Nat) : SV → SV
  | .ptr id off => .ptr id (off + k)
  | .elt id base i sz j n => .elt id base i sz (j + k) n
  | s => s

theorem shift_den {s : SV} {b oo k : Nat} (h : s.den ρ = .pointer (some ⟨b, oo, none⟩)) (hs : (∃ id off, s = .ptr id off) ∨ ∃ id base i sz j n, s = .elt id base i sz j n) :
    (shift k s).den ρ = .pointer (some ⟨b, oo + k, none⟩) := by
  rcases hs with ⟨id, off, rfl⟩ | ⟨id, base, i, sz, j, n, rfl⟩
  · simp only [SV.den, Env.at, shift] at h ⊢
    cases ha : (ρ id).addr with
    | none => rw [ha] at h; simp at h
    | some ad => rw [ha] at h; simp at h ⊢; omega
  · simp only [SV.den, Env.at, shift] at h ⊢
    cases ha : (ρ id).addr with
    | none => rw [ha] at h; simp at h
    | some ad => rw [ha] at h; simp at h ⊢; omega

def fieldsT (P : Program) (t : TypeId) : Option (Array Field) :=
  match P.underlying t with
  | some (.struct fs) => some fs
  | _ => none

def stepField (P : Program) (s : TypeId) (x : Option Tv) (f : Nat) (gh : Gh) (next : Nat) : Tree Delta :=
  match x, (fieldsT P s).bind (·[f]?) with
  | some (.one v), some fl =>
    match sizeT P fl.type with
    | some (_ + 1) =>
      match eltIn gh v with
      | some p => .req p (.leaf ⟨.one (shift fl.offset v), [], next⟩)
      | none => bif sureP gh v then .leaf ⟨.one (shift fl.offset v), [], next⟩ else .fail "field address nil "
    | _ => .fail "field address no cells"
  | _, _ => .fail "field address"

theorem eltIn_sound (hG : RepG R ρ gh w) {s : SV} {p : Prop} (h : eltIn gh s = some p) (hp : p) : ∃ b oo, s.den ρ = .pointer (some ⟨b, oo, none⟩) ∧ ∃ id base i sz j n, s = .elt id base i sz j n := by
  cases s <;> simp only [eltIn] at h <;> try (cases h; done)
  rename_i id base i sz k n
  have key : ∀ {t : Ty} {xs : List (TD t)}, (0 ≤ i → i < (xs.length : Int) → ∃ b oo, (ρ id).addr = some ⟨b, oo, none⟩) → (bif Nat.beq base 0 && Nat.beq sz t.size then some (0 ≤ i ∧ i < (xs.length : Int)) else none) = some p →
      ∃ b oo, (SV.elt id base i sz k n).den ρ = .pointer (some ⟨b, oo, none⟩) ∧ ∃ id' base' i' sz' j' n', SV.elt id base i sz k n = .elt id' base' i' sz' j' n' := by
    intro t xs ha h
    cases hb : Nat.beq base 0 && Nat.beq sz t.size with
    | false => rw [hb] at h; cases h
    | true =>
      rw [hb] at h
      simp only [cond_true] at h
      injection h with h; subst h
      obtain ⟨b, oo, ha⟩ := ha hp.1 hp.2
      exact ⟨b, oo + (base + i.toNat * sz + k), by simp [SV.den, Env.at, ha], _, _, _, _, _, _, rfl⟩
  cases hg : look gh id with
  | none => rw [hg] at h; cases h
  | some g =>
    rw [hg] at h
    have hf := hG.facts id g hg
    cases g with
    | blk _ => cases h
    | rob _ => cases h
    | opt _ _ => cases h
    | pin _ _ => cases h
    | obj _ _ _ => cases h
    | ro t xs =>
      refine key (fun h0 h1 => ?_) h
      obtain ⟨b, oo, ha, _⟩ := hf.2.2 i.toNat _ (List.getElem?_eq_getElem (show i.toNat < xs.length by omega))
      exact ⟨b, oo, ha⟩
    | own t xs =>
      refine key (fun h0 h1 => ?_) h
      obtain ⟨_, _, hr⟩ := hf
      rcases hr with ⟨_, e, _⟩ | ⟨b, oo, cs, T, ha, _⟩
      · subst e; simp at h1; omega
      · exact ⟨b, oo, ha⟩

theorem sureP_form {s : SV} (h : sureP gh s = true) : (∃ id off, s = .ptr id off) ∨ ∃ id base i sz j n, s = .elt id base i sz j n := by
  cases s <;> simp only [sureP] at h <;> try (cases h; done)
  · exact .inl ⟨_, _, rfl⟩
  · exact .inr ⟨_, _, _, _, _, _, rfl⟩

theorem stepField_ok {d : Delta} {s : TypeId} {x : Operand} {f : Nat} (ho : o.op = .fieldAddr s x f) (hC : Ctx a R ρ gh next d.next w ev) (h : (stepField P s (ev x) f gh next).reach d) :
    OpOK P o a R ρ gh next w d := by
  unfold stepField at h
  split at h
  · rename_i v fl hv hfl
    have hx := hC.val x _ hv
    split at h
    · rename_i n hs
      have fin : ∀ b oo, v.den ρ = .pointer (some ⟨b, oo, none⟩) → ((∃ id off, v = .ptr id off) ∨ ∃ id base i sz j n, v = .elt id base i sz j n) → d = ⟨.one (shift fl.offset v), [], next⟩ → OpOK P o a R ρ gh next w d := by
        rintro b oo hd hform rfl
        refine OpOK.value hC.rep ?_
        unfold fieldsT at hfl
        split at hfl
        · rename_i fs hu
          simp only [Option.bind] at hfl
          have hp : (fieldPlace ⟨b, oo, none⟩ fl).run P w = .ok ⟨b, oo + fl.offset, none⟩ w := by
            unfold fieldPlace
            simp only [Sem.run_bind, run_sizeOf' hs, Result.andThen_ok, if_neg (show ¬ n + 1 = 0 by omega), Sem.run_pure, addr_add]
          simp only [execOp, ho, hx, Tv.den, hd, Instr.fieldAt, Instr.sureAddr, Sem.run_bind, run_underlying hu, Result.andThen_ok, hfl, Sem.run_pure, hp, shift_den hd hform]
        · cases hfl
      split at h
      · rename_i p hp
        obtain ⟨h0, h⟩ := h
        obtain ⟨b, oo, hd, hform⟩ := eltIn_sound hC.rep hp h0
        cases h
        exact fin b oo hd (.inr hform) rfl
      · cases hb : sureP gh v with
        | false => rw [hb] at h; exact h.elim
        | true =>
          rw [hb] at h
          obtain ⟨b, oo, hd⟩ := sureP_sound hC.rep hb
          cases h
          exact fin b oo hd (sureP_form hb) rfl
    · exact h.elim
  · exact h.elim
end
end Sx
