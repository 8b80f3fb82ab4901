/- A symbolic executor for the model's code: loops, rounds over data. -/
import Derived.Test.YtofimljfdlnkgaaSx22
namespace Sx
open Go Go.RowKit

/-! ### states alike, computed: what is left is equations between data -/
def eqIdB (src : Nat → Option Nat) (i i' : Nat) : Bool := match src i' with | some j => Nat.beq j i | none => false
theorem eqIdB_ok {src : Nat → Option Nat} {i i' : Nat} (h : eqIdB src i i' = true) : eqId src i i' := by
  unfold eqIdB at h
  unfold eqId
  cases hs : src i' with
  | none => rw [hs] at h; cases h
  | some j => rw [hs] at h; rw [beq_iff.1 h]

def eqCapsB (src : Nat → Option Nat) : List (Nat × Nat) → List (Nat × Nat) → Bool
  | [], [] => true
  | (i, o) :: r, (i', o') :: r' => eqIdB src i i' && Nat.beq o o' && eqCapsB src r r'
  | _, _ => false
theorem eqCapsB_ok {src : Nat → Option Nat} : ∀ {l l' : List (Nat × Nat)}, eqCapsB src l l' = true → eqCaps src l l'
  | [], [], _ => trivial
  | (i, o) :: r, (i', o') :: r', h => by
    simp only [eqCapsB, Bool.and_eq_true] at h
    exact ⟨eqIdB_ok h.1.1, beq_iff.1 h.1.2, eqCapsB_ok h.2⟩
  | [], _ :: _, h => by simp [eqCapsB] at h
  | _ :: _, [], h => by simp [eqCapsB] at h

def onlyIf (b : Bool) (l : List Prop) : Option (List Prop) := match b with | true => some l | false => none
theorem onlyIf_some {b : Bool} {l ps : List Prop} (h : onlyIf b l = some ps) : b = true ∧ l = ps := by
  cases b with
  | true => injection h with h; exact ⟨rfl, h⟩
  | false => cases h

def All (l : List Prop) : Prop := ∀ p ∈ l, p

def eqSVL (src : Nat → Option Nat) : SV → SV → Option (List Prop)
  | .cint k n, .cint k' n' => onlyIf (decide (k = k') && decide (n = n')) []
  | .cint k n, .int k' n' | .int k n, .cint k' n' | .int k n, .int k' n' => onlyIf (decide (k = k')) [n = n']
  | .cbool b, .cbool b' => onlyIf (decide (b = b')) []
  | .cbool b, .bool b' | .bool b, .cbool b' | .bool b, .bool b' => some [b = b']
  | .str s, .str s' => some [s = s']
  | .nilp, .nilp => some []
  | .nilp, .ptr i' _ => match src i' with | none => some [] | some _ => none
  | .ptr i o, .ptr i' o' => onlyIf (eqIdB src i i' && Nat.beq o o') []
  | .elt i b x s k _, .elt i' b' x' s' k' _ => onlyIf (eqIdB src i i' && Nat.beq b b' && Nat.beq s s' && Nat.beq k k') [x = x']
  | .nils, .nils => some []
  | .nils, .row i' => match src i' with | none => some [] | some _ => none
  | .row i, .row i' => onlyIf (eqIdB src i i') []
  | .sub i o l c, .sub i' o' l' c' => onlyIf (eqIdB src i i') [o = o', l = l', c = c']
  | .fn f a b, .fn f' a' b' => onlyIf (Nat.beq f f' && eqCapsB src a a' && eqCapsB src b b') []
  | .nilf, .nilf => some []
  | _, _ => none

theorem eqSVL_ok {src : Nat → Option Nat} {v v' : SV} {ps : List Prop} (h : eqSVL src v v' = some ps) (hp : All ps) : eqSV src v v' := by
  unfold eqSVL at h
  split at h
  · have h1 := (onlyIf_some h).1
    rw [Bool.and_eq_true] at h1
    exact ⟨of_decide_eq_true h1.1, of_decide_eq_true h1.2⟩
  · obtain ⟨h1, h2⟩ := onlyIf_some h; subst h2; exact ⟨of_decide_eq_true h1, hp _ List.mem_cons_self⟩
  · obtain ⟨h1, h2⟩ := onlyIf_some h; subst h2; exact ⟨of_decide_eq_true h1, hp _ List.mem_cons_self⟩
  · obtain ⟨h1, h2⟩ := onlyIf_some h; subst h2; exact ⟨of_decide_eq_true h1, hp _ List.mem_cons_self⟩
  · have h1 : decide (_ = _) = true := (onlyIf_some h).1
    have h2 := of_decide_eq_true h1
    subst h2; rfl
  · injection h with h; subst h; exact hp _ List.mem_cons_self
  · injection h with h; subst h; exact hp _ List.mem_cons_self
  · injection h with h; subst h; exact hp _ List.mem_cons_self
  · injection h with h; subst h; exact hp _ List.mem_cons_self
  · trivial
  · rename_i i' _
    show src i' = none
    cases hs : src i' with
    | none => rfl
    | some j => rw [hs] at h; cases h
  · have h1 := (onlyIf_some h).1; rw [Bool.and_eq_true] at h1; exact ⟨eqIdB_ok h1.1, beq_iff.1 h1.2⟩
  · obtain ⟨h1, h2⟩ := onlyIf_some h; subst h2
    rw [Bool.and_eq_true, Bool.and_eq_true, Bool.and_eq_true] at h1
    exact ⟨eqIdB_ok h1.1.1.1, beq_iff.1 h1.1.1.2, hp _ List.mem_cons_self, beq_iff.1 h1.1.2, beq_iff.1 h1.2⟩
  · trivial
  · rename_i i'
    show src i' = none
    cases hs : src i' with
    | none => rfl
    | some j => rw [hs] at h; cases h
  · exact eqIdB_ok (onlyIf_some h).1
  · obtain ⟨h1, h2⟩ := onlyIf_some h; subst h2
    exact ⟨eqIdB_ok h1, hp _ List.mem_cons_self, hp _ (List.mem_cons_of_mem _ List.mem_cons_self), hp _ (List.mem_cons_of_mem _ (List.mem_cons_of_mem _ List.mem_cons_self))⟩
  · have h1 := (onlyIf_some h).1
    rw [Bool.and_eq_true, Bool.and_eq_true] at h1
    exact ⟨beq_iff.1 h1.1.1, eqCapsB_ok h1.1.2, eqCapsB_ok h1.2⟩
  · trivial
  · cases h

def appO : Option (List Prop) → Option (List Prop) → Option (List Prop)
  | some a, some b => some (a ++ b)
  | _, _ => none
theorem appO_some {a b : Option (List Prop)} {ps : List Prop} (h : appO a b = some ps) (hp : All ps) : ∃ x y, a = some x ∧ b = some y ∧ All x ∧ All y := by
  cases a with
  | none => cases h
  | some x =>
    cases b with
    | none => cases h
    | some y =>
      injection h with h; subst h
      exact ⟨x, y, rfl, rfl, fun p hq => hp p (List.mem_append.2 (.inl hq)), fun p hq => hp p (List.mem_append.2 (.inr hq))⟩

def eqSVsL (src : Nat → Option Nat) : List SV → List SV → Option (List Prop)
  | [], [] => some []
  | v :: r, v' :: r' => appO (eqSVL src v v') (eqSVsL src r r')
  | _, _ => none
theorem eqSVsL_ok {src : Nat → Option Nat} : ∀ {l l' : List SV} {ps : List Prop}, eqSVsL src l l' = some ps → All ps → eqSVs src l l'
  | [], [], _, _, _ => trivial
  | v :: r, v' :: r', ps, h, hp => by
    obtain ⟨x, y, h1, h2, h3, h4⟩ := appO_some h hp
    exact ⟨eqSVL_ok h1 h3, eqSVsL_ok h2 h4⟩
  | [], _ :: _, _, h, _ => by cases h
  | _ :: _, [], _, h, _ => by cases h

def eqPartsL (src : Nat → Option Nat) : List (Bool × List SV) → List (Bool × List SV) → Option (List Prop)
  | [], [] => some []
  | (b, c) :: r, (b', c') :: r' => appO (onlyIf (decide (b = b')) []) (appO (eqSVsL src c c') (eqPartsL src r r'))
  | _, _ => none
theorem eqPartsL_ok {src : Nat → Option Nat} : ∀ {l l' : List (Bool × List SV)} {ps : List Prop}, eqPartsL src l l' = some ps → All ps → eqParts src l l'
  | [], [], _, _, _ => trivial
  | (b, c) :: r, (b', c') :: r', ps, h, hp => by
    obtain ⟨x, y, h1, h2, h3, h4⟩ := appO_some h hp
    obtain ⟨x', y', h5, h6, h7, h8⟩ := appO_some h2 h4
    exact ⟨of_decide_eq_true (onlyIf_some h1).1, eqSVsL_ok h5 h7, eqPartsL_ok h6 h8⟩
  | [], _ :: _, _, h, _ => by cases h
  | _ :: _, [], _, h, _ => by cases h

def eqTvL (src : Nat → Option Nat) : Tv → Tv → Option (List Prop)
  | .one v, .one v' => eqSVL src v v'
  | .agg c, .agg c' => eqSVsL src c c'
  | .tup c, .tup c' => eqPartsL src c c'
  | .undef, .undef => some []
  | _, _ => none
theorem eqTvL_ok {src : Nat → Option Nat} {v v' : Tv} {ps : List Prop} (h : eqTvL src v v' = some ps) (hp : All ps) : eqTv src v v' := by
  unfold eqTvL at h
  split at h
  · exact eqSVL_ok h hp
  · exact eqSVsL_ok h hp
  · exact eqPartsL_ok h hp
  · trivial
  · cases h

def eqGbL (src : Nat → Option Nat) : Gb → Gb → Option (List Prop)
  | .blk c, .blk c' | .rob c, .rob c' => eqSVsL src c c'
  | .ro t xs, .ro t' xs' | .own t xs, .own t' xs' => if h : t = t' then some [(h ▸ xs : List (TD t')) = xs'] else none
  | .opt t x, .opt t' x' => if h : t = t' then some [(h ▸ x : Option (TD t')) = x'] else none
  | .pin b c, .pin b' c' => some [b = b', c = c']
  | .obj c t x, .obj c' t' x' => appO (eqSVsL src c c') (if h : t = t' then some [(h ▸ x : TD t') = x'] else none)
  | _, _ => none
theorem eqGbL_ok {src : Nat → Option Nat} {v v' : Gb} {ps : List Prop} (h : eqGbL src v v' = some ps) (hp : All ps) : eqGb src v v' := by
  unfold eqGbL at h
  split at h
  · exact eqSVsL_ok h hp
  · exact eqSVsL_ok h hp
  · split at h
    · rename_i e
      subst e
      injection h with h; subst h
      exact ⟨rfl, heq_of_eq (hp _ (by simp))⟩
    · cases h
  · split at h
    · rename_i e
      subst e
      injection h with h; subst h
      exact ⟨rfl, heq_of_eq (hp _ (by simp))⟩
    · cases h
  · split at h
    · rename_i e
      subst e
      injection h with h; subst h
      exact ⟨rfl, heq_of_eq (hp _ (by simp))⟩
    · cases h
  · injection h with h; subst h
    exact ⟨hp _ (by simp), hp _ (by simp)⟩
  · obtain ⟨x, y, h1, h2, h3, h4⟩ := appO_some h hp
    split at h2
    · rename_i e
      subst e
      injection h2 with h2; subst h2
      exact ⟨eqSVsL_ok h1 h3, rfl, heq_of_eq (h4 _ (by simp))⟩
    · cases h2
  · cases h

def nilGbL : Gb → Option (List Prop)
  | .ro _ xs | .own _ xs => some [xs = []]
  | .opt _ x => some [x = none]
  | _ => none
theorem nilGbL_ok {v : Gb} {ps : List Prop} (h : nilGbL v = some ps) (hp : All ps) : nilGb v := by
  unfold nilGbL at h
  split at h
  · injection h with h; subst h; exact hp _ List.mem_cons_self
  · injection h with h; subst h; exact hp _ List.mem_cons_self
  · injection h with h; subst h; exact hp _ List.mem_cons_self
  · cases h

def slotsL (src : Nat → Option Nat) (slots : List (Nat × Tv)) : List (Nat × Tv) → Option (List Prop)
  | [] => some []
  | (s, v') :: r => appO (match look slots s with | some v => eqTvL src v v' | none => none) (slotsL src slots r)
theorem slotsL_ok {src : Nat → Option Nat} {slots : List (Nat × Tv)} : ∀ {l : List (Nat × Tv)} {ps : List Prop}, slotsL src slots l = some ps → All ps → slotsP src slots l
  | [], _, _, _ => trivial
  | (s, v') :: r, ps, h, hp => by
    obtain ⟨x, y, h1, h2, h3, h4⟩ := appO_some h hp
    refine ⟨?_, slotsL_ok h2 h4⟩
    cases hl : look slots s with
    | none => rw [hl] at h1; cases h1
    | some v => rw [hl] at h1; exact eqTvL_ok h1 h3

def ghL (src : Nat → Option Nat) (gh : Gh) : Gh → Option (List Prop)
  | [] => some []
  | (id', g') :: r => appO (match src id' with
    | none => nilGbL g'
    | some j => match look gh j with | some g => eqGbL src g g' | none => none) (ghL src gh r)
theorem ghL_ok {src : Nat → Option Nat} {gh : Gh} : ∀ {l : Gh} {ps : List Prop}, ghL src gh l = some ps → All ps → ghP src gh l
  | [], _, _, _ => trivial
  | (id', g') :: r, ps, h, hp => by
    obtain ⟨x, y, h1, h2, h3, h4⟩ := appO_some h hp
    refine ⟨?_, ghL_ok h2 h4⟩
    cases hl : src id' with
    | none => rw [hl] at h1; exact nilGbL_ok h1 h3
    | some j =>
      rw [hl] at h1
      simp only at h1 ⊢
      cases hk : look gh j with
      | none => rw [hk] at h1; cases h1
      | some g => rw [hk] at h1; exact eqGbL_ok h1 h3

def conj : List Prop → Prop
  | [] => True
  | p :: r => match r with | [] => p | _ :: _ => p ∧ conj r
theorem conj_all : ∀ {l : List Prop}, conj l → All l
  | [], _ => fun p hp => by cases hp
  | [q], h => fun p hp => by rw [List.mem_singleton] at hp; subst hp; exact h
  | q :: q' :: r, h => fun p hp => by
    rcases List.mem_cons.1 hp with rfl | hp
    · exact h.1
    · exact conj_all (l := q' :: r) h.2 p hp

def MatchQ (n0 : Nat) (τ : List (Nat × Option Nat)) (st st' : St) : Prop :=
  match bdB st' && Nat.ble n0 st'.next && srcInj (srcOf n0 τ) st'.gh with
  | true => match appO (slotsL (srcOf n0 τ) st.slots st'.slots) (ghL (srcOf n0 τ) st.gh st'.gh) with
    | some ps => conj ps
    | none => False
  | false => False

theorem MatchQ.ok {n0 : Nat} {τ : List (Nat × Option Nat)} {st st' : St} (h : MatchQ n0 τ st st') : MatchP n0 τ st st' := by
  unfold MatchQ at h
  cases hb : bdB st' && Nat.ble n0 st'.next && srcInj (srcOf n0 τ) st'.gh with
  | false => rw [hb] at h; exact h.elim
  | true =>
    rw [hb] at h
    simp only at h
    cases ha : appO (slotsL (srcOf n0 τ) st.slots st'.slots) (ghL (srcOf n0 τ) st.gh st'.gh) with
    | none => rw [ha] at h; exact h.elim
    | some ps =>
      rw [ha] at h
      obtain ⟨x, y, h1, h2, h3, h4⟩ := appO_some ha (conj_all h)
      exact ⟨hb, slotsL_ok h1 h3, ghL_ok h2 h4⟩

/-- what a loop leaves, held against where a round goes out -/
def exitT {β : Type} (P : Out → Prop) : Tree Out → Tree (Option β)
  | .leaf q => .req (P q) (.leaf none)
  | .fork c t e => .fork c (exitT P t) (exitT P e)
  | _ => .fail "a loop such an end is not told"

theorem exitT_ok {β : Type} {P : Out → Prop} : ∀ {t : Tree Out} {r : Option β} {q : Out}, (exitT P t).reach r → t.reach q → P q ∧ r = none
  | .leaf _, r, q, h, e => by obtain ⟨h1, h2⟩ := h; cases e; exact ⟨h1, h2.symm⟩
  | .fork c t u, r, q, h, e => by
    rcases h with ⟨c1, h⟩ | ⟨c1, h⟩
    · rcases e with ⟨_, e⟩ | ⟨c2, e⟩
      · exact exitT_ok h e
      · rw [c1] at c2; cases c2
    · rcases e with ⟨c2, e⟩ | ⟨_, e⟩
      · rw [c1] at c2; cases c2
      · exact exitT_ok h e
  | .req _ _, _, _, h, _ => h.elim
  | .fail _, _, _, h, _ => h.elim
  | .lt _ _ _, _, _, h, _ => h.elim

/-- where a row's number is read -/
inductive Loc where
  | slot (s : Nat)
  | cell (id k : Nat)
  | part (s k : Nat)
def cellsG (st : St) (id : Nat) : Option (List SV) := match look st.gh id with | some (.blk cs) => some cs | some (.rob cs) => some cs | some (.obj cs _ _) => some cs | _ => none
def svRow : Option SV → Option Nat
  | some (.row i) => some i
  | some (.ptr i _) => some i
  | _ => none
def locRow (st : St) : Loc → Option Nat
  | .slot s => match look st.slots s with | some (.one v) => svRow (some v) | _ => none
  | .cell id k => svRow ((cellsG st id).bind (·[k]?))
  | .part s k => match look st.slots s with | some (.agg cs) => svRow cs[k]? | _ => none

/-- A LOOP'S CONTRACT: what is known at its head, for each datum of the invariant; what it leaves. -/
structure LoopC (α : Type) where
  n0 : Nat
  det : St → Option α
  tau : List (Nat × Option Nat) := []
  back : List (Nat × Option Nat) := []
  out : List (Nat × Option Nat) := []
  rows : List (Nat × Loc) := []
  inv : α → St
  ok : α → Prop
  mu : α → Nat
  fin : α → Tree Out

def LoopC.dyn {α : Type} (L : LoopC α) (st : St) : List (Nat × Option Nat) := L.rows.map fun p => (p.1, locRow st p.2)

def LoopC.sp {α : Type} (L : LoopC α) : St → Tree Out := fun st =>
  match L.det st with
  | none => .fail "a loop no such state"
  | some a => bif Nat.beq st.next L.n0 then .req (L.ok a) (.req (MatchQ L.n0 (L.tau ++ L.dyn st) st (L.inv a)) (L.fin a)) else .fail "a loop another count of blocks"

/-- one round: the next datum, or none -/
def LoopC.round {α : Type} (L : LoopC α) (E : Ex) (lps : List (Nat × (St → Tree Out))) (n : Nat) (fn : Func) (j : Nat) (a : α) : Tree (Option α) :=
  (roundT E lps n fn j (L.inv a)).bind fun o =>
    match o.kind with
    | 0 =>
      match L.det o.st with
      | none => .fail "a loop no such state behind a round"
      | some a' => .req (MatchQ L.n0 (L.back ++ L.dyn o.st) o.st (L.inv a')) (.leaf (some a'))
    | k + 1 => exitT (fun q => match Nat.beq q.kind (k + 1) with | true => MatchQ L.n0 (L.out ++ L.dyn o.st) o.st q.st | false => False) (L.fin a)

def LoopC.Next {α : Type} (L : LoopC α) (a : α) : Option α → Prop
  | none => True
  | some a' => L.ok a' ∧ L.mu a' < L.mu a ∧ L.fin a = L.fin a'

def finB (n0 : Nat) : Tree Out → Bool
  | .leaf q => bdB q.st && Nat.ble n0 q.st.next
  | .fork _ t e => finB n0 t && finB n0 e
  | .req _ t => finB n0 t
  | .fail _ => true
  | .lt _ v k => finB n0 (k v)

theorem finB_ok {n0 : Nat} : ∀ {t : Tree Out} {q : Out}, finB n0 t = true → t.reach q → bdB q.st = true ∧ Nat.ble n0 q.st.next = true
  | .leaf _, _, h, e => by cases e; simpa only [finB, Bool.and_eq_true] using h
  | .fork _ _ _, _, h, e => by
    simp only [finB, Bool.and_eq_true] at h
    rcases e with ⟨_, e⟩ | ⟨_, e⟩
    · exact finB_ok h.1 e
    · exact finB_ok h.2 e
  | .req _ _, _, h, e => finB_ok (by simpa only [finB] using h) e.2
  | .fail _, _, _, e => e.elim
  | .lt _ v k, _, h, e => finB_ok (t := k v) (by simpa only [finB] using h) e

/-- A LOOP'S CONTRACT HOLDS. -/
theorem LoopC.sound {α : Type} (L : LoopC α) {E : Ex} (hE : E.Sound) {fn : Func} {lps : List (Nat × (St → Tree Out))} {n j : Nat} (hl : LoopsOK E.P fn.ntmps (look lps) (loopAt (bodyOf fn) j) (j + 1))
    (hbd : ∀ a, (bdB (L.inv a) && Nat.ble L.n0 (L.inv a).next && finB L.n0 (L.fin a)) = true)
    (hbody : ∀ a, L.ok a → (L.round E lps n fn j a).all (L.Next a)) :
    ∀ st out, (L.sp st).reach out → CodeOK E.P fn.ntmps (.loop (loopAt (bodyOf fn) j)) st out := by
  intro st out h
  have hbd' : ∀ a, bdB (L.inv a) = true ∧ Nat.ble L.n0 (L.inv a).next = true ∧ finB L.n0 (L.fin a) = true := fun a => by
    have := hbd a
    simpa only [Bool.and_eq_true, and_assoc] using this
  have h' : (loopSp L.n0 L.det (L.tau ++ L.dyn st) L.inv L.ok L.fin st).reach out := by
    unfold LoopC.sp at h
    unfold loopSp
    cases hd : L.det st with
    | none => rw [hd] at h; exact h.elim
    | some a =>
      rw [hd] at h
      simp only at h
      cases hb : Nat.beq st.next L.n0 with
      | false => rw [hb] at h; exact h.elim
      | true =>
        rw [hb] at h
        obtain ⟨h1, h2, h3⟩ := h
        exact ⟨⟨rfl, h1, h2.ok⟩, h3⟩
  refine loop_ok (n := n) hE hl L.mu (fun a _ => ⟨(hbd' a).1, (hbd' a).2.1⟩) (fun a ha => ?_) (fun a _ q hq => finB_ok (hbd' a).2.2 hq) h'
  obtain ⟨r, h1, h2⟩ := Tree.reach_of_all (hbody a ha)
  obtain ⟨o, h3, h4⟩ := Tree.reach_bind.1 h1
  refine Tree.all_of_reach h3 ?_
  unfold Step
  cases hk : o.kind with
  | zero =>
    rw [hk] at h4
    simp only at h4 ⊢
    cases hd : L.det o.st with
    | none => rw [hd] at h4; exact h4.elim
    | some a' =>
      rw [hd] at h4
      obtain ⟨h4, h5⟩ := h4
      cases h5
      exact ⟨a', L.back ++ L.dyn o.st, h2.1, h2.2.1, h4.ok, fun q hq => by rw [← h2.2.2]; exact hq⟩
  | succ k =>
    rw [hk] at h4
    intro q hq
    have := (exitT_ok h4 hq).1
    cases hb : Nat.beq q.kind (k + 1) with
    | false => rw [hb] at this; exact this.elim
    | true => rw [hb] at this; exact ⟨beq_iff.1 hb, L.out ++ L.dyn o.st, this.ok⟩
attribute [irreducible] LoopC.round LoopC.sp
end Sx
