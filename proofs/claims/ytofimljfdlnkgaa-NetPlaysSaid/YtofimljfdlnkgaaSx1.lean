/- A symbolic executor for the model's code: its words (types of data, symbolic values, ghost memory, decision trees). Plain definitions. -/
import Derived.Below
import Derived.Orders
import Derived.Calls
import Derived.KernelRfl
namespace Sx
open Go Go.RowKit

/-! ### data by type -/
inductive Ty where
  | int (k : IntKind)
  | bool
  | str
  | unit
  | cat (a b : Ty)
  | rep (n : Nat) (a : Ty)
  | slice (a : Ty)
  | ptr (a : Ty)
  | optr (a : Ty)
  | fnl (f : FuncId)
  | clo (f : FuncId) (a : Ty)
  deriving DecidableEq

abbrev TD : Ty → Type
  | .int _ => Int
  | .bool => Bool
  | .str => ByteArray
  | .unit => Unit
  | .cat a b => TD a × TD b
  | .rep _ a => List (TD a)
  | .slice a => List (TD a)
  | .ptr a => TD a
  | .optr a => Option (TD a)
  | .fnl _ => Unit
  | .clo _ a => TD a

abbrev TDs : List Ty → Type
  | [] => Unit
  | t :: ts => TD t × TDs ts

def TD.z : (t : Ty) → TD t
  | .int _ => (0 : Int)
  | .bool => false
  | .str => ByteArray.empty
  | .unit => ()
  | .cat a b => (TD.z a, TD.z b)
  | .rep n a => List.replicate n (TD.z a)
  | .slice a => ([] : List (TD a))
  | .ptr a => TD.z a
  | .optr a => (none : Option (TD a))
  | .fnl _ => ()
  | .clo _ a => TD.z a

def Ty.size : Ty → Nat
  | .unit => 0
  | .cat a b => a.size + b.size
  | .rep n a => n * a.size
  | _ => 1

/-! ### how data reads in memory -/
/-- cells at a place, below the allowed blocks -/
def CellsAt (w : World) (b o : Nat) (cs : List Value) : Prop := ∀ j, j < cs.length → w.cell? ⟨b, o + j, none⟩ = cs[j]?

def AllR {α : Type} (p : α → List Value → Prop) : List α → List Value → Prop
  | [], cs => cs = []
  | x :: xs, cs => ∃ c1 c2, cs = c1 ++ c2 ∧ p x c1 ∧ AllR p xs c2

def RowR {α : Type} (R : Nat → Prop) (w : World) (sz : Nat) (p : α → List Value → Prop) (xs : List α) (A : Option Addr) : Prop :=
  ∀ i x, xs[i]? = some x → ∃ b o, A = some ⟨b, o, none⟩ ∧ R b ∧ ∃ cs, cs.length = sz ∧ CellsAt w b (o + i * sz) cs ∧ p x cs

def PtrR {α : Type} (R : Nat → Prop) (w : World) (sz : Nat) (p : α → List Value → Prop) (x : α) (b o : Nat) : Prop :=
  R b ∧ ∃ cs, cs.length = sz ∧ CellsAt w b o cs ∧ p x cs

def ReadsC (R : Nat → Prop) (w : World) : (t : Ty) → TD t → List Value → Prop
  | .int k, x, cs => cs = [.int k x]
  | .bool, x, cs => cs = [.bool x]
  | .str, x, cs => cs = [.string x]
  | .unit, _, cs => cs = []
  | .cat a b, x, cs => ∃ c1 c2, cs = c1 ++ c2 ∧ ReadsC R w a x.1 c1 ∧ ReadsC R w b x.2 c2
  | .rep n a, xs, cs => List.length (α := TD a) xs = n ∧ AllR (ReadsC R w a) xs cs
  | .slice a, xs, cs => ∃ A cap, cs = [.slice A (List.length (α := TD a) xs) cap] ∧ List.length (α := TD a) xs ≤ cap ∧ RowR R w a.size (ReadsC R w a) xs A
  | .ptr a, x, cs => ∃ b o, cs = [.pointer (some ⟨b, o, none⟩)] ∧ PtrR R w a.size (ReadsC R w a) x b o
  | .optr a, x, cs => match x with
    | none => cs = [.pointer none]
    | some y => ∃ b o, cs = [.pointer (some ⟨b, o, none⟩)] ∧ PtrR R w a.size (ReadsC R w a) y b o
  | .fnl f, _, cs => cs = [.func (.func f) #[] #[]]
  | .clo f a, x, cs => ∃ b o, cs = [.func (.func f) #[] #[.pointer (some ⟨b, o, none⟩)]] ∧ PtrR R w a.size (ReadsC R w a) x b o

/-! ### symbolic values -/
inductive SV where
  | cint (k : IntKind) (n : Int)
  | int (k : IntKind) (n : Int)
  | cbool (b : Bool)
  | bool (b : Bool)
  | str (s : ByteArray)
  | nilp
  | ptr (id off : Nat)
  | elt (id base : Nat) (i : Int) (sz k n : Nat)
  | nils
  | row (id : Nat)
  | sub (id off len cap : Nat)
  | win (id lo len sz : Nat)
  | fn (f : FuncId) (first caps : List (Nat × Nat))
  | nilf

inductive Tv where
  | one (v : SV)
  | agg (cs : List SV)
  | tup (vs : List (Bool × List SV))
  | undef

structure Slot where
  addr : Option Addr
  len : Nat
  cap : Nat

abbrev Env := Nat → Slot
abbrev Env.addr (ρ : Env) (id : Nat) : Option Addr := (ρ id).addr
abbrev Env.len (ρ : Env) (id : Nat) : Nat := (ρ id).len
abbrev Env.cap (ρ : Env) (id : Nat) : Nat := (ρ id).cap

def Env.at (ρ : Env) (id k : Nat) : Option Addr := ((ρ id).addr).map fun a => ⟨a.block, a.off + k, none⟩

def SV.den (ρ : Env) : SV → Value
  | .cint k n | .int k n => .int k n
  | .cbool b | .bool b => .bool b
  | .str s => .string s
  | .nilp => .pointer none
  | .ptr id off => .pointer (ρ.at id off)
  | .elt id base i sz k _ => .pointer (ρ.at id (base + i.toNat * sz + k))
  | .nils => .slice none 0 0
  | .row id => .slice (ρ id).addr (ρ id).len (ρ id).cap
  | .sub id off len cap => .slice (ρ.at id off) len cap
  | .win id lo len sz => .slice (if (ρ id).cap ≤ lo then (ρ id).addr else ρ.at id (lo * sz)) (min len ((ρ id).len - lo)) ((ρ id).cap - lo)
  | .fn f first caps => .func (.func f) (first.map fun p => Value.pointer (ρ.at p.1 p.2)).toArray (caps.map fun p => Value.pointer (ρ.at p.1 p.2)).toArray
  | .nilf => .nilFunc

def dens (ρ : Env) (cs : List SV) : List Value := cs.map (SV.den ρ)

def denPart (ρ : Env) : Bool × List SV → Value
  | (true, cs) => .agg (dens ρ cs).toArray
  | (false, cs) => (dens ρ cs).headD undef

def Tv.den (ρ : Env) : Tv → Value
  | .one v => v.den ρ
  | .agg cs => .agg (dens ρ cs).toArray
  | .tup vs => .tuple (vs.map (denPart ρ)).toArray
  | .undef => Go.undef

/-- the numbers of blocks that a value names -/
def SV.ids : SV → List Nat
  | .ptr id _ | .elt id _ _ _ _ _ | .row id | .sub id _ _ _ | .win id _ _ _ => [id]
  | .fn _ first caps => first.map (·.1) ++ caps.map (·.1)
  | _ => []

def idsOf (cs : List SV) : List Nat := cs.flatMap SV.ids

def Tv.ids : Tv → List Nat
  | .one v => v.ids
  | .agg cs => idsOf cs
  | .tup vs => vs.flatMap fun p => idsOf p.2
  | .undef => []

/-! ### ghost memory -/
inductive Gb where
  | blk (cs : List SV)
  | rob (cs : List SV)
  | ro (t : Ty) (xs : List (TD t))
  | own (t : Ty) (xs : List (TD t))
  | opt (t : Ty) (x : Option (TD t))
  | pin (b : Nat) (cs : List Value)
  | obj (cs : List SV) (t : Ty) (x : TD t)

def Gb.ids : Gb → List Nat
  | .blk cs | .rob cs | .obj cs _ _ => idsOf cs
  | _ => []

def Gb.isOwn : Gb → Bool
  | .blk _ | .own _ _ | .obj _ _ _ => true
  | _ => false

abbrev Gh := List (Nat × Gb)

def look {α : Type} : List (Nat × α) → Nat → Option α
  | [], _ => none
  | (a, b) :: r, k => bif Nat.beq a k then some b else look r k

def Gb.ownB (ρ : Env) (id : Nat) : Gb → Option Nat
  | .blk _ | .own _ _ | .obj _ _ _ => ((ρ id).addr).map (·.block)
  | _ => none

def OwnRow (R : Nat → Prop) (w : World) (ρ : Env) (id : Nat) (t : Ty) (xs : List (TD t)) : Prop :=
  xs.length = (ρ id).len ∧ xs.length ≤ (ρ id).cap ∧
  (((ρ id).addr = none ∧ xs = [] ∧ (ρ id).cap = 0) ∨
   ∃ b o cs T, (ρ id).addr = some ⟨b, o, none⟩ ∧ w.heap[b]? = some (.cells cs T (0, 0)) ∧ o + (ρ id).cap * t.size ≤ cs.size ∧
     ∀ i x, xs[i]? = some x → ∃ c : List Value, c.length = t.size ∧ (∀ j, j < t.size → cs[o + i * t.size + j]? = c[j]?) ∧ ReadsC R w t x c)

/-- a pointer that may be nil -/
def OptR (R : Nat → Prop) (w : World) (t : Ty) : Option (TD t) → Option Addr → Prop
  | none, A => A = none
  | some y, A => ∃ b o, A = some ⟨b, o, none⟩ ∧ PtrR R w t.size (ReadsC R w t) y b o

def Gfact (R : Nat → Prop) (w : World) (ρ : Env) (id : Nat) : Gb → Prop
  | .blk cs => ∃ b T, (ρ id).addr = some ⟨b, 0, none⟩ ∧ w.heap[b]? = some (.cells (dens ρ cs).toArray T (0, 0))
  | .rob cs => ∃ b o, (ρ id).addr = some ⟨b, o, none⟩ ∧ R b ∧ CellsAt w b o (dens ρ cs)
  | .ro t xs => xs.length = (ρ id).len ∧ xs.length ≤ (ρ id).cap ∧ RowR R w t.size (ReadsC R w t) xs ((ρ id).addr)
  | .own t xs => OwnRow R w ρ id t xs
  | .opt t x => OptR R w t x (ρ id).addr
  | .pin b cs => R b ∧ ∃ T m, w.heap[b]? = some (.cells cs.toArray T m)
  | .obj cs t x => ∃ b T vs, (ρ id).addr = some ⟨b, 0, none⟩ ∧ w.heap[b]? = some (.cells (dens ρ cs ++ vs).toArray T (0, 0)) ∧ ReadsC R w t x vs

structure RepG (R : Nat → Prop) (ρ : Env) (gh : Gh) (w : World) : Prop where
  facts : ∀ id g, look gh id = some g → Gfact R w ρ id g
  rlt : ∀ b, R b → b < w.heap.size
  olt : ∀ id g b, look gh id = some g → g.ownB ρ id = some b → b < w.heap.size ∧ ¬ R b
  sep : ∀ id id' g g' b, look gh id = some g → look gh id' = some g' → g.ownB ρ id = some b → g'.ownB ρ id' = some b → id = id'

def OwnB (ρ : Env) (gh : Gh) (b : Nat) : Prop := ∃ id g, look gh id = some g ∧ g.ownB ρ id = some b

structure Ext (R : Nat → Prop) (ρ : Env) (gh : Gh) (w : World) (next : Nat) (R' : Nat → Prop) (ρ' : Env) (gh' : Gh) (w' : World) (next' : Nat) : Prop where
  size : w.heap.size ≤ w'.heap.size
  os : w'.os = w.os
  tape : w'.tape = w.tape
  output : w'.output = w.output
  keep : ∀ b, b < w.heap.size → ¬ OwnB ρ gh b → w'.heap[b]? = w.heap[b]?
  env : ∀ id, (id < next ∨ next' ≤ id) → ρ' id = ρ id
  sub : ∀ b, R b → R' b
  newR : ∀ b, R' b → R b ∨ OwnB ρ gh b ∨ w.heap.size ≤ b
  newO : ∀ b, OwnB ρ' gh' b → OwnB ρ gh b ∨ w.heap.size ≤ b

/-! ### trees of decisions -/
inductive Tree (α : Type) where
  | leaf (x : α)
  | fork (c : Bool) (t e : Tree α)
  | req (p : Prop) (t : Tree α)
  | fail (why : String)
  | lt (ts : List Ty) (v : TDs ts) (k : TDs ts → Tree α)

def Tree.bind {α β : Type} : Tree α → (α → Tree β) → Tree β
  | .leaf x, f => f x
  | .fork c t e, f => .fork c (t.bind f) (e.bind f)
  | .req p t, f => .req p (t.bind f)
  | .fail s, _ => .fail s
  | .lt ts v k, f => .lt ts v fun y => (k y).bind f

def Tree.reach {α : Type} : Tree α → α → Prop
  | .leaf y, x => y = x
  | .fork c t e, x => (c = true ∧ t.reach x) ∨ (c = false ∧ e.reach x)
  | .req p t, x => p ∧ t.reach x
  | .fail _, _ => False
  | .lt _ v k, x => (k v).reach x

def Tree.all {α : Type} : Tree α → (α → Prop) → Prop
  | .leaf x, Q => Q x
  | .fork c t e, Q => (c = true → t.all Q) ∧ (c = false → e.all Q)
  | .req p t, Q => p ∧ t.all Q
  | .fail _, _ => False
  | .lt _ v k, Q => ∀ y, y = v → (k y).all Q

theorem Tree.reach_of_all {α : Type} {Q : α → Prop} : ∀ {t : Tree α}, t.all Q → ∃ x, t.reach x ∧ Q x
  | .leaf x, h => ⟨x, rfl, h⟩
  | .fork c t e, h => by
    cases c with
    | true => obtain ⟨x, r, q⟩ := Tree.reach_of_all (h.1 rfl); exact ⟨x, .inl ⟨rfl, r⟩, q⟩
    | false => obtain ⟨x, r, q⟩ := Tree.reach_of_all (h.2 rfl); exact ⟨x, .inr ⟨rfl, r⟩, q⟩
  | .req p t, h => by obtain ⟨x, r, q⟩ := Tree.reach_of_all h.2; exact ⟨x, ⟨h.1, r⟩, q⟩
  | .fail _, h => h.elim
  | .lt _ v k, h => by obtain ⟨x, r, q⟩ := Tree.reach_of_all (t := k v) (h v rfl); exact ⟨x, r, q⟩

theorem Tree.all_of_reach {α : Type} {Q : α → Prop} : ∀ {t : Tree α} {x : α}, t.reach x → Q x → t.all Q
  | .leaf y, x, h, q => by cases h; exact q
  | .fork c t e, x, h, q => by
    rcases h with ⟨rfl, h⟩ | ⟨rfl, h⟩
    · exact ⟨fun _ => Tree.all_of_reach h q, by simp⟩
    · exact ⟨by simp, fun _ => Tree.all_of_reach h q⟩
  | .req p t, x, h, q => ⟨h.1, Tree.all_of_reach h.2 q⟩
  | .fail _, _, h, _ => h.elim
  | .lt _ v k, x, h, q => fun y hy => by subst hy; exact Tree.all_of_reach (t := k y) h q

theorem Tree.reach_bind {α β : Type} {f : α → Tree β} {y : β} : ∀ {t : Tree α}, (t.bind f).reach y ↔ ∃ x, t.reach x ∧ (f x).reach y
  | .leaf x => ⟨fun h => ⟨x, rfl, h⟩, fun ⟨_, e, h⟩ => by cases e; exact h⟩
  | .fork c t e => by
    simp only [Tree.bind, Tree.reach]
    constructor
    · rintro (⟨hc, h⟩ | ⟨hc, h⟩)
      · obtain ⟨x, r, h'⟩ := Tree.reach_bind.1 h; exact ⟨x, .inl ⟨hc, r⟩, h'⟩
      · obtain ⟨x, r, h'⟩ := Tree.reach_bind.1 h; exact ⟨x, .inr ⟨hc, r⟩, h'⟩
    · rintro ⟨x, (⟨hc, r⟩ | ⟨hc, r⟩), h⟩
      · exact .inl ⟨hc, Tree.reach_bind.2 ⟨x, r, h⟩⟩
      · exact .inr ⟨hc, Tree.reach_bind.2 ⟨x, r, h⟩⟩
  | .req p t => by
    simp only [Tree.bind, Tree.reach]
    constructor
    · rintro ⟨hp, h⟩; obtain ⟨x, r, h'⟩ := Tree.reach_bind.1 h; exact ⟨x, ⟨hp, r⟩, h'⟩
    · rintro ⟨x, ⟨hp, r⟩, h⟩; exact ⟨hp, Tree.reach_bind.2 ⟨x, r, h⟩⟩
  | .fail s => ⟨fun h => h.elim, fun ⟨_, h, _⟩ => h.elim⟩
  | .lt _ v k => by simp only [Tree.bind, Tree.reach]; exact Tree.reach_bind (t := k v)

theorem Tree.reach_det {α : Type} {x y : α} : ∀ {t : Tree α}, t.reach x → t.reach y → x = y
  | .leaf _, h, k => by cases h; cases k; rfl
  | .fork c t e, h, k => by
    rcases h with ⟨rfl, h⟩ | ⟨rfl, h⟩
    · rcases k with ⟨_, k⟩ | ⟨k, _⟩
      · exact Tree.reach_det h k
      · cases k
    · rcases k with ⟨k, _⟩ | ⟨_, k⟩
      · cases k
      · exact Tree.reach_det h k
  | .req p t, h, k => Tree.reach_det h.2 k.2
  | .fail _, h, _ => h.elim
  | .lt _ v k, h, h' => Tree.reach_det (t := k v) h h'

end Sx
