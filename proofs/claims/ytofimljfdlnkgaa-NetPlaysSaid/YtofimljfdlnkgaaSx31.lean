/- A symbolic executor for the model's code: contracts whose results get a name. -/
import Derived.Test.YtofimljfdlnkgaaSx30
namespace Sx
open Go Go.RowKit

theorem all_leaf {α : Type} {x : α} {Q : α → Prop} : (Tree.leaf x).all Q = Q x := rfl
theorem all_fork {α : Type} {c : Bool} {t e : Tree α} {Q : α → Prop} : (Tree.fork c t e).all Q = ((c = true → t.all Q) ∧ (c = false → e.all Q)) := rfl
theorem all_req {α : Type} {p : Prop} {t : Tree α} {Q : α → Prop} : (Tree.req p t).all Q = (p ∧ t.all Q) := rfl
theorem all_lt {α : Type} {ts : List Ty} {v : TDs ts} {k : TDs ts → Tree α} {Q : α → Prop} : (Tree.lt ts v k).all Q = (k v).all Q :=
  propext ⟨fun h => h v rfl, fun h y hy => by subst hy; exact h⟩
/-- a law's end -/
def Yes : Bool × Unit → Prop := fun y => y = (true, ())
theorem yes_iff {b : Bool} : Yes (b, ()) = (b = true) := by simp [Yes]
theorem yes_t : Yes (true, ()) = True := by simp [Yes]
theorem yes_f : Yes (false, ()) = False := by simp [Yes]

def tabN {α : Type} (xs : List α) (z : α) : Nat → Nat → List α
  | 0, _ => []
  | c + 1, j => xs.getD j z :: tabN xs z c (j + 1)
def tab {α : Type} (n : Nat) (xs : List α) (z : α) : List α := tabN xs z n 0
theorem tabN_eq {α : Type} {z : α} : ∀ (c j : Nat) (xs : List α), xs.length = j + c → tabN xs z c j = xs.drop j
  | 0, j, xs, h => by rw [List.drop_eq_nil_of_le (by omega)]; rfl
  | c + 1, j, xs, h => by
    have hj : j < xs.length := by omega
    rw [tabN, tabN_eq c (j + 1) xs (by omega), List.drop_eq_getElem_cons hj, getD_get z hj]
theorem tab_eq {α : Type} {n : Nat} {xs : List α} {z : α} (h : xs.length = n) : tab n xs z = xs := by
  unfold tab; rw [tabN_eq n 0 xs (by omega)]; rfl
theorem tabN_len {α : Type} {xs : List α} {z : α} : ∀ (c j : Nat), (tabN xs z c j).length = c
  | 0, _ => rfl
  | c + 1, j => by rw [tabN, List.length_cons, tabN_len c (j + 1)]
theorem tab_len {α : Type} {n : Nat} {xs : List α} {z : α} : (tab n xs z).length = n := tabN_len n 0

def tabF {α : Type} (f : Nat → α) : Nat → Nat → List α
  | 0, _ => []
  | c + 1, j => f j :: tabF f c (j + 1)
def tabL {α : Type} (n : Nat) (f : Nat → α) : List α := tabF f n 0
theorem tabF_eq {α : Type} (f : Nat → α) : ∀ (c j : Nat), tabF f c j = (List.range' j c).map f
  | 0, _ => rfl
  | c + 1, j => by rw [tabF, tabF_eq f c (j + 1), List.range'_succ]; rfl
theorem tabL_eq {α : Type} (n : Nat) (f : Nat → α) : tabL n f = (List.range n).map f := by
  unfold tabL; rw [tabF_eq, List.range_eq_range']
theorem tabL_len {α : Type} (n : Nat) (f : Nat → α) : (tabL n f).length = n := by rw [tabL_eq]; simp
theorem tabL_getD {α : Type} (n : Nat) (f : Nat → α) (z : α) {k : Nat} (h : k < n) : (tabL n f).getD k z = f k := by
  rw [tabL_eq]; simp [List.getD_eq_getElem?_getD, h]
theorem ext_getD {α : Type} {l m : List α} (z : α) (h : l.length = m.length) (hk : ∀ k, k < l.length → l.getD k z = m.getD k z) : l = m := by
  refine List.ext_getElem h fun k h1 h2 => ?_
  have := hk k h1
  rwa [getD_get z h1, getD_get z h2] at this
theorem tabL_map {α β : Type} {n : Nat} {xs : List α} {z : α} (g : α → β) (h : xs.length = n) : tabL n (fun j => g (xs.getD j z)) = xs.map g := by
  subst h
  refine ext_getD (g z) (by rw [tabL_len, List.length_map]) fun k hk => ?_
  rw [tabL_len] at hk
  rw [tabL_getD _ _ _ hk, getD_get (g z) (by simpa using hk), getD_get z hk, List.getElem_map]
theorem tabL_put {α : Type} {n : Nat} {xs : List α} {z s : α} {i : Int} (h : xs.length = n) (h0 : 0 ≤ i) : tabL n (fun j => bif decide (i = (j : Int)) then s else xs.getD j z) = xs.set i.toNat s := by
  subst h
  refine ext_getD z (by rw [tabL_len, List.length_set]) fun k hk => ?_
  rw [tabL_len] at hk
  rw [tabL_getD _ _ _ hk, getD_get (l := xs.set i.toNat s) z (by simpa using hk), List.getElem_set]
  by_cases e : i = (k : Int)
  · rw [if_pos (by omega)]; simp [e]
  · rw [if_neg (by omega), ← getD_get z hk]; simp [e]
theorem tabL_putc {α : Type} {n : Nat} {z s : α} {i : Int} (h0 : 0 ≤ i) : tabL n (fun j => bif decide (i = (j : Int)) then s else z) = (List.replicate n z).set i.toNat s := by
  have := tabL_put (xs := List.replicate n z) (z := z) (s := s) (i := i) (List.length_replicate ..) h0
  rw [← this, tabL_eq, tabL_eq]
  refine List.map_congr_left fun j hj => ?_
  rw [List.mem_range] at hj
  simp [List.getD_eq_getElem?_getD, hj]
theorem tabL_zip {α β γ : Type} {n : Nat} {xs : List α} {ys : List β} {x : α} {y : β} (f : α → β → γ) (h : xs.length = n) (h' : ys.length = n) : tabL n (fun j => f (xs.getD j x) (ys.getD j y)) = List.zipWith f xs ys := by
  refine ext_getD (f x y) (by rw [tabL_len]; simp; omega) fun k hk => ?_
  rw [tabL_len] at hk
  rw [tabL_getD _ _ _ hk, getD_get (f x y) (by simp; omega), List.getElem_zipWith, getD_get x (by omega), getD_get y (by omega)]

def zipN {α β γ : Type} (f : α → β → γ) (xs : List α) (ys : List β) (x : α) (y : β) : Nat → Nat → List γ
  | 0, _ => []
  | c + 1, j => f (xs.getD j x) (ys.getD j y) :: zipN f xs ys x y c (j + 1)
theorem zipN_eq {α β γ : Type} {f : α → β → γ} {x : α} {y : β} : ∀ (c j : Nat) (xs : List α) (ys : List β), xs.length = j + c → ys.length = j + c → zipN f xs ys x y c j = List.zipWith f (xs.drop j) (ys.drop j)
  | 0, j, xs, ys, h, h' => by rw [List.drop_eq_nil_of_le (by omega)]; rfl
  | c + 1, j, xs, ys, h, h' => by
    have hj : j < xs.length := by omega
    have hj' : j < ys.length := by omega
    rw [zipN, zipN_eq c (j + 1) xs ys (by omega) (by omega), List.drop_eq_getElem_cons hj, List.drop_eq_getElem_cons hj', getD_get x hj, getD_get y hj']
    rfl
theorem zipN_len {α β γ : Type} {f : α → β → γ} {xs : List α} {ys : List β} {x : α} {y : β} : ∀ (c j : Nat), (zipN f xs ys x y c j).length = c
  | 0, _ => rfl
  | c + 1, j => by rw [zipN, List.length_cons, zipN_len c (j + 1)]
theorem len8 {α : Type} {l : List α} (h : l.length = 8) : ∃ a0 a1 a2 a3 a4 a5 a6 a7, l = [a0, a1, a2, a3, a4, a5, a6, a7] := by
  match l, h with
  | [a0, a1, a2, a3, a4, a5, a6, a7], _ => exact ⟨a0, a1, a2, a3, a4, a5, a6, a7, rfl⟩
theorem len16 {α : Type} {l : List α} (h : l.length = 16) : ∃ a0 a1 a2 a3 a4 a5 a6 a7 a8 a9 a10 a11 a12 a13 a14 a15, l = [a0, a1, a2, a3, a4, a5, a6, a7, a8, a9, a10, a11, a12, a13, a14, a15] := by
  match l, h with
  | [a0, a1, a2, a3, a4, a5, a6, a7, a8, a9, a10, a11, a12, a13, a14, a15], _ => exact ⟨a0, a1, a2, a3, a4, a5, a6, a7, a8, a9, a10, a11, a12, a13, a14, a15, rfl⟩

def pureSpL (ts rs : List Ty) (pre : TDs ts → Prop) (F : TDs ts → TDs rs) : Spec := fun args gh next =>
  match collectA gh ts args with
  | none => none
  | some xs => some (.req (pre xs) (.lt rs (F xs) fun y =>
    match expandR rs y next with
    | none => .fail "a result that is not told"
    | some (ps, g, n') =>
      match mkRes ps with
      | some v => .leaf ⟨v, (match flats rs with | true => [] | false => updOf g ++ absorbO gh gh), n'⟩
      | none => .fail "a result that is not told"))

def newSpL (ts rs : List Ty) (pre : TDs ts → Prop) (F : TDs ts → TDs rs) : Spec := fun args gh next =>
  match collectA gh ts args with
  | none => none
  | some xs => some (.req (pre xs) (.lt rs (F xs) fun y =>
    match expandR rs y next with
    | none => .fail "a result that is not told"
    | some (ps, g, n') =>
      match mkRes ps with
      | some v => .leaf ⟨v, updOf g, n'⟩
      | none => .fail "a result that is not told"))

def ownSpL (ts rs : List Ty) (pre : TDs ts → Prop) (F : TDs ts → TDs rs) : Spec := fun args gh next =>
  match collectA gh ts args with
  | none => none
  | some xs => some (.req (pre xs) (.lt rs (F xs) fun y =>
    match expandRO rs y next with
    | none => .fail "a result that is not told"
    | some (ps, u, n') =>
      match mkRes ps with
      | some v => .leaf ⟨v, u, n'⟩
      | none => .fail "a result that is not told"))

theorem OwnC.reads {lo : Nat} {w : World} : ∀ (t : Ty) (x : TD t) (cs : List Value) (bs : List Nat), OwnC lo w t x cs bs → ReadsC (fun b => lo ≤ b ∧ b < w.heap.size) w t x cs := by
  have up : ∀ (t : Ty) (x : TD t) (cs : List Value), ReadsC (fun _ => False) w t x cs → ReadsC (fun b => lo ≤ b ∧ b < w.heap.size) w t x cs := fun t x cs h => ReadsC.mono (fun _ h => h.elim) t x cs h
  intro t
  induction t with
  | slice a _ =>
    rintro x cs bs ⟨A, cap, rfl, hc, ho, _⟩
    refine ⟨A, cap, rfl, hc, fun i y hy => ?_⟩
    rcases ho with ⟨_, e, _⟩ | ⟨b, o, cc, T, e1, e2, e3, e4, e5⟩
    · have e : x = [] := e
      subst e; simp at hy
    · obtain ⟨c, c1, c2, c3⟩ := e5 i y hy
      refine ⟨b, o, e1, ⟨e2, (Array.getElem?_eq_some_iff.1 e3).1⟩, c, c1, fun j hj => ?_, up _ _ _ c3⟩
      rw [c1] at hj
      simp only [World.cell?, e3]
      exact c2 j hj
  | cat a b ia ib =>
    rintro x cs bs ⟨c1, c2, b1, b2, rfl, _, h1, h2⟩
    exact ⟨c1, c2, rfl, ia _ _ _ h1, ib _ _ _ h2⟩
  | ptr _ _ => intro x cs bs h; exact h.elim
  | optr _ _ => intro x cs bs h; exact h.elim
  | clo _ _ _ => intro x cs bs h; exact h.elim
  | _ => rintro x cs bs ⟨h, _⟩; exact up _ _ _ h

theorem PureOwnOK.new {P : Program} {f : FuncId} {ts rs : List Ty} {pre : TDs ts → Prop} {F : TDs ts → TDs rs} (h : PureOwnOK P f ts rs pre F) : PureNewOK P f ts rs pre F := by
  intro R w xs args h1 h2 h3
  refine (h R w xs args h1 h2 h3).mono ?_
  rintro e w' ⟨vs, bs, he, hr, _, hb⟩
  refine ⟨vs, he, ?_, hb⟩
  have go : ∀ (ts : List Ty) (x : TDs ts) (vs : List Value) (bs : List Nat), ArgsO w.heap.size w' ts x vs bs → ArgsR (NewB w w') w' ts x vs := by
    intro ts
    induction ts with
    | nil => rintro x vs bs ⟨h, _⟩; exact h
    | cons t ts ih =>
      rintro x vs bs ⟨cs, r, b1, b2, e, _, h1, h2⟩
      exact ⟨cs, r, e, OwnC.reads t _ _ _ h1, ih _ _ _ h2⟩
  exact go _ _ _ _ hr
theorem PureOwnOK.pure {P : Program} {f : FuncId} {ts rs : List Ty} {pre : TDs ts → Prop} {F : TDs ts → TDs rs} (h : PureOwnOK P f ts rs pre F) : PureOK P f ts rs pre F := h.new.pure

theorem spec_via {P : Program} {f : FuncId} {sp sp' : Spec} (h : SpecOK P f sp) (hv : ∀ args gh next t', sp' args gh next = some t' → ∃ t, sp args gh next = some t ∧ ∀ d, t'.reach d → t.reach d) : SpecOK P f sp' := by
  intro args gh next t d ht hr
  obtain ⟨t0, h1, h2⟩ := hv args gh next t ht
  exact h args gh next t0 d h1 (h2 d hr)

/-! ### counting, filtering -/
def cntB (f : Nat → Bool) : Nat → Nat → Int
  | 0, _ => 0
  | c + 1, j => (if f j then 1 else 0) + cntB f c (j + 1)
def fltB (f : Nat → Bool) : Nat → Nat → List Int
  | 0, _ => []
  | c + 1, j => if f j then (j : Int) :: fltB f c (j + 1) else fltB f c (j + 1)
theorem cntB_range (f : Nat → Bool) : ∀ (c j : Nat), 0 ≤ cntB f c j ∧ cntB f c j ≤ c
  | 0, _ => by simp [cntB]
  | c + 1, j => by
    have := cntB_range f c (j + 1)
    simp only [cntB]
    split <;> omega
theorem fltB_len (f : Nat → Bool) : ∀ (c j : Nat), (fltB f c j).length ≤ c
  | 0, _ => by simp [fltB]
  | c + 1, j => by
    have := fltB_len f c (j + 1)
    simp only [fltB]
    split <;> simp <;> omega
theorem fltB_mem (f : Nat → Bool) : ∀ (c j : Nat) (x : Int), x ∈ fltB f c j ↔ ∃ k, j ≤ k ∧ k < j + c ∧ f k = true ∧ x = (k : Int)
  | 0, j, x => by simp [fltB]; intros; omega
  | c + 1, j, x => by
    have ih := fltB_mem f c (j + 1) x
    simp only [fltB]
    split
    · rename_i h
      rw [List.mem_cons, ih]
      constructor
      · rintro (rfl | ⟨k, h1, h2, h3, h4⟩)
        · exact ⟨j, by omega, by omega, h, rfl⟩
        · exact ⟨k, by omega, by omega, h3, h4⟩
      · rintro ⟨k, h1, h2, h3, h4⟩
        by_cases e : k = j
        · subst e; exact .inl h4
        · exact .inr ⟨k, by omega, by omega, h3, h4⟩
    · rename_i h
      rw [ih]
      constructor
      · rintro ⟨k, h1, h2, h3, h4⟩; exact ⟨k, by omega, by omega, h3, h4⟩
      · rintro ⟨k, h1, h2, h3, h4⟩
        by_cases e : k = j
        · subst e; exact absurd h3 h
        · exact ⟨k, by omega, by omega, h3, h4⟩

theorem cntB_step (f : Nat → Bool) {i : Int} {N : Nat} (h0 : 0 ≤ i) (h1 : i < N) : cntB f (N - i.toNat) i.toNat = (if f i.toNat then 1 else 0) + cntB f (N - (i + 1).toNat) (i + 1).toNat := by
  rw [show N - i.toNat = (N - (i + 1).toNat) + 1 by omega, cntB, toNat_succ h0]
theorem fltB_step (f : Nat → Bool) {i : Int} {N : Nat} (h0 : 0 ≤ i) (h1 : i < N) : fltB f (N - i.toNat) i.toNat = if f i.toNat then i :: fltB f (N - (i + 1).toNat) (i + 1).toNat else fltB f (N - (i + 1).toNat) (i + 1).toNat := by
  rw [show N - i.toNat = (N - (i + 1).toNat) + 1 by omega, fltB, toNat_succ h0, show ((i.toNat : Nat) : Int) = i by omega]
theorem cntB_end (f : Nat → Bool) {i : Int} {N : Nat} (h1 : ¬ i < N) : cntB f (N - i.toNat) i.toNat = 0 := by
  rw [show N - i.toNat = 0 by omega]; rfl
theorem fltB_end (f : Nat → Bool) {i : Int} {N : Nat} (h1 : ¬ i < N) : fltB f (N - i.toNat) i.toNat = [] := by
  rw [show N - i.toNat = 0 by omega]; rfl
theorem i64_inc {i : Int} (h0 : -1 ≤ i) (h1 : i < 4611686018427387904) : IntKind.i64.wrap (i + 1) = i + 1 := IntWalk.i64_in _ (by omega)

/-! ### a loop that is entered with one count of blocks or another -/
theorem pad_ok {P : Program} {nt N : Nat} {c : Code} {st : St} {out : Out} (hN : st.next ≤ N) (h : CodeOK P nt c ⟨st.slots, st.gh, N⟩ out) : CodeOK P nt c st out := by
  intro hb
  have hb' : Bd ⟨st.slots, st.gh, N⟩ := ⟨fun s v hs i hi => Nat.lt_of_lt_of_le (hb.slots s v hs i hi) hN, fun id g hg => ⟨Nat.lt_of_lt_of_le (hb.gh id g hg).1 hN, fun i hi => Nat.lt_of_lt_of_le ((hb.gh id g hg).2 i hi) hN⟩⟩
  obtain ⟨b1, n1, k1⟩ := h hb'
  simp only at n1
  refine ⟨b1, Nat.le_trans hN n1, fun R ρ a w hrep => ?_⟩
  refine wp_mono (k1 R ρ a w ⟨hrep.size, hrep.defers, hrep.slots, hrep.mem⟩) ?_
  rintro e a' w' ⟨he, R', ρ', hr', hx'⟩
  refine ⟨he, R', ρ', hr', ⟨hx'.size, hx'.os, hx'.tape, hx'.output, hx'.keep, fun id hid => hx'.env id (hid.imp (fun h => Nat.lt_of_lt_of_le h hN) fun h => h), hx'.sub, hx'.newR, hx'.newO⟩⟩

def viaN (N : Nat) (l : List (Nat × Ty)) (sp : St → Tree Out) : St → Tree Out := fun st =>
  match Nat.ble st.next N with
  | true => viaP l sp ⟨st.slots, st.gh, N⟩
  | false => .fail "too many blocks at a loop"

theorem viaN_ok {P : Program} {nt N : Nat} {c : Code} {l : List (Nat × Ty)} {sp : St → Tree Out} (h : ∀ st out, (sp st).reach out → CodeOK P nt c st out) : ∀ st out, (viaN N l sp st).reach out → CodeOK P nt c st out := by
  intro st out hr
  unfold viaN at hr
  cases hb : Nat.ble st.next N with
  | false => rw [hb] at hr; exact hr.elim
  | true => rw [hb] at hr; exact pad_ok (Nat.le_of_ble_eq_true hb) (viaP_ok h _ _ hr)

/-- a small number among the arguments, told case by case -/
def concT (args : List Tv) (k : Nat) (kd : IntKind) (n : Int) (sp : List Tv → Option (Tree Delta)) : Nat → Nat → Option (Tree Delta)
  | 0, _ => some (.fail "no such number")
  | c + 1, j =>
    match sp (args.set k (.one (.cint kd (j : Int)))), concT args k kd n sp c (j + 1) with
    | some t, some e => some (.fork (decide (n = (j : Int))) t e)
    | _, _ => none

def concSp (k lo cnt : Nat) (sp : Spec) : Spec := fun args gh next =>
  match args[k]? with
  | some (.one (.cint kd n)) | some (.one (.int kd n)) => concT args k kd n (fun as => sp as gh next) cnt lo
  | _ => none

theorem concT_reach {args : List Tv} {k : Nat} {kd : IntKind} {n : Int} {sp : List Tv → Option (Tree Delta)} : ∀ {c j : Nat} {t : Tree Delta} {d : Delta}, concT args k kd n sp c j = some t → t.reach d →
    ∃ t', sp (args.set k (.one (.cint kd n))) = some t' ∧ t'.reach d
  | 0, j, t, d, h, hr => by simp only [concT] at h; injection h with h; subst h; exact hr.elim
  | c + 1, j, t, d, h, hr => by
    simp only [concT] at h
    split at h
    · rename_i t1 e1 h1 h2
      injection h with h; subst h
      rcases hr with ⟨hn, hr⟩ | ⟨_, hr⟩
      · have : n = (j : Int) := of_decide_eq_true hn
        subst this
        exact ⟨t1, h1, hr⟩
      · exact concT_reach h2 hr
    · cases h

theorem concSp_ok {P : Program} {f : FuncId} {k lo cnt : Nat} {sp : Spec} (h : SpecOK P f sp) : SpecOK P f (concSp k lo cnt sp) := by
  intro args gh next t d ht hr R ρ w hG hids hbd
  unfold concSp at ht
  have go : ∀ (kd : IntKind) (n : Int) (v : Tv), args[k]? = some v → v.den ρ = .int kd n → v.ids = [] → concT args k kd n (fun as => sp as gh next) cnt lo = some t → CallOK P f args R ρ gh next w d := by
    intro kd n v hv hden hvi hc
    obtain ⟨t', h1, h2⟩ := concT_reach hc hr
    have hlt := (List.getElem?_eq_some_iff.1 hv).1
    have := h (args.set k (.one (.cint kd n))) gh next t' d h1 h2 R ρ w hG (fun u hu i hi => by
      rcases List.mem_or_eq_of_mem_set hu with h3 | h3
      · exact hids u h3 i hi
      · subst h3; simp [Tv.ids, SV.ids] at hi) hbd
    unfold CallOK at this ⊢
    have hm : (args.set k (.one (.cint kd n))).map (Tv.den ρ) = args.map (Tv.den ρ) := by
      refine List.ext_getElem? fun i => ?_
      rw [List.getElem?_map, List.getElem?_map, List.getElem?_set]
      split
      · rename_i e; subst e
        rw [hv]
        simp [Tv.den, SV.den] at hden ⊢
        exact hden.symm
      · rfl
    rwa [hm] at this
  split at ht
  · rename_i kd n hv; exact go kd n _ hv rfl rfl ht
  · rename_i kd n hv; exact go kd n _ hv rfl rfl ht
  · cases ht

theorem pureSpL_ok {P : Program} {f : FuncId} {ts rs : List Ty} {pre : TDs ts → Prop} {F : TDs ts → TDs rs} (h : PureOK P f ts rs pre F) : SpecOK P f (pureSpL ts rs pre F) :=
  spec_via (pureSp_ok h) fun args gh next t' ht => by
    unfold pureSpL at ht
    unfold pureSp
    cases hc : collectA gh ts args with
    | none => rw [hc] at ht; cases ht
    | some xs => rw [hc] at ht; injection ht with ht; subst ht; exact ⟨_, rfl, fun d hd => hd⟩

theorem newSpL_ok {P : Program} {f : FuncId} {ts rs : List Ty} {pre : TDs ts → Prop} {F : TDs ts → TDs rs} (h : PureNewOK P f ts rs pre F) : SpecOK P f (newSpL ts rs pre F) :=
  spec_via (newSp_ok h) fun args gh next t' ht => by
    unfold newSpL at ht
    unfold newSp
    cases hc : collectA gh ts args with
    | none => rw [hc] at ht; cases ht
    | some xs => rw [hc] at ht; injection ht with ht; subst ht; exact ⟨_, rfl, fun d hd => hd⟩

theorem ownSpL_ok {P : Program} {f : FuncId} {ts rs : List Ty} {pre : TDs ts → Prop} {F : TDs ts → TDs rs} (h : PureOwnOK P f ts rs pre F) : SpecOK P f (ownSpL ts rs pre F) :=
  spec_via (ownSp_ok h) fun args gh next t' ht => by
    unfold ownSpL at ht
    unfold ownSp
    cases hc : collectA gh ts args with
    | none => rw [hc] at ht; cases ht
    | some xs => rw [hc] at ht; injection ht with ht; subst ht; exact ⟨_, rfl, fun d hd => hd⟩
end Sx
