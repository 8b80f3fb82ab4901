/- A symbolic executor for the model's code: slices.Clone of rows whose elements are any data. -/
import Derived.Test.YtofimljfdlnkgaaSx40
import Derived.Shelf.SlicesE.Clone
namespace Sx
open Go Go.RowKit

/-- what the shelf says of slices.Clone, whatever the elements -/
def CloneSaid (P : Program) (f : FuncId) (T : TypeId) (size bytes : Nat) : Prop :=
  (∀ (b off n c : Nat) (news : List Value) (w : World), news.length = n * size → n ≤ maxLen → n * bytes ≤ 140737488355328 → (∀ j u, news[j]? = some u → w.cell? ⟨b, off + j, none⟩ = some u) → (∀ u ∈ news, u.oneCell' = true) →
    Calls P f #[.slice (some ⟨b, off, none⟩) n c] w fun e w' => ∃ v', e = .returned v' ∧ w'.ownsRow w.heap.size T size v' n news ∧ v' ≠ .slice none 0 0 ∧ Below w.heap.size w w') ∧
  (∀ (a : Addr) (c : Nat) (w : World), Calls P f #[.slice (some a) 0 c] w fun e w' => ∃ v', e = .returned v' ∧ w'.ownsRow w.heap.size T size v' 0 [] ∧ Below w.heap.size w w') ∧
  ∀ (n c : Nat) (w : World), Calls P f #[.slice none n c] w fun e w' => e = .returned (.slice none 0 0) ∧ w' = w

theorem clone_gen {P : Program} {f : FuncId} {T : TypeId} {bytes m : Nat} {t : Ty} (hs : 0 < t.size) (hb : m * bytes ≤ 140737488355328) (hm : m ≤ maxLen) (h : CloneSaid P f T t.size bytes) :
    PureOK P f [.slice t] [.slice t] (fun x => List.length (α := TD t) x.1 ≤ m) (fun x => x) := by
  rintro R w ⟨xs, u⟩ args hR ⟨cs, r, e, hrd, er⟩ hpre
  have er : r = [] := er
  have hpre : xs.length ≤ m := hpre
  obtain ⟨A, cap, rfl, hcap, hrow⟩ := hrd
  subst er; subst e
  cases A with
  | none =>
    have hx : xs = [] := by
      cases xs with
      | nil => rfl
      | cons x t => obtain ⟨b, o, h, _⟩ := hrow 0 x rfl; cases h
    refine (h.2.2 xs.length cap w).mono ?_
    rintro e w' ⟨rfl, rfl⟩
    subst hx
    exact ⟨[.slice none 0 0], rfl, ⟨_, [], rfl, ⟨none, 0, rfl, Nat.le_refl _, fun i x hi => by simp at hi⟩, rfl⟩, Below.refl _ _⟩
  | some a =>
    by_cases hx : xs = []
    · subst hx
      refine (h.2.1 a cap w).mono ?_
      rintro e w' ⟨v', rfl, hown, hbel⟩
      refine ⟨[v'], rfl, ⟨[v'], [], rfl, ?_, rfl⟩, hbel⟩
      rcases hown.2 with ⟨rfl, _⟩ | ⟨g, c, cur, rfl, _⟩
      · exact ⟨none, 0, rfl, Nat.le_refl _, fun i x hi => by simp at hi⟩
      · exact ⟨some ⟨g, 0, none⟩, c, rfl, Nat.zero_le _, fun i x hi => by simp at hi⟩
    · obtain ⟨vs, v1, v2, v3, v4⟩ := row_cells hrow
      obtain ⟨b, o, hA, v5⟩ := v4.resolve_left hx
      injection hA with hA; subst hA
      refine (h.1 b o xs.length cap vs w v1 (by omega) (Nat.le_trans (Nat.mul_le_mul_right _ hpre) hb) (fun j u hj => by
        have hl := (List.getElem?_eq_some_iff.1 hj).1
        rw [v5 j hl, hj]) v3).mono ?_
      rintro e w' ⟨v', rfl, hown, _, hbel⟩
      refine ⟨[v'], rfl, ⟨[v'], [], rfl, ?_, rfl⟩, hbel⟩
      have hn : xs.length ≠ 0 := fun q => hx (List.eq_nil_of_length_eq_zero q)
      rcases hown.2 with ⟨_, q⟩ | ⟨g, c, cur, rfl, hg, hh, hc, _, hcs, htk⟩
      · exact absurd q hn
      · refine ⟨some ⟨g, 0, none⟩, c, rfl, hc, fun i x hi => ?_⟩
        obtain ⟨cc, c1, c2, c3⟩ := v2 i x hi
        have hil := (List.getElem?_eq_some_iff.1 hi).1
        have hmul : i * t.size + t.size ≤ xs.length * t.size := by rw [← Nat.succ_mul]; exact Nat.mul_le_mul_right _ hil
        refine ⟨g, 0, rfl, .inr ⟨hg, (Array.getElem?_eq_some_iff.1 hh).1⟩, cc, c1, fun j hj => ?_, ReadsC.mono (fun b hb => ⟨.inl hb, hbel.block b (hR b hb)⟩) t x cc c3⟩
        rw [← c2 j (by omega), ← htk]
        rw [List.getElem?_take_of_lt (by omega)]
        simp [World.cell?, hh]

section
open Go.Proofs Go.Shelf Go.Lib
variable {P : Program} {ρ : Ren}
set_option maxHeartbeats 2000000 in
set_option maxRecDepth 100000 in
theorem clone_zero (L : SlLaysE0.n41 P ρ) (i0 : TypeInfo) (z : Value) (size bytes : Nat) (hi : P.info? (ρ.t 23) = some i0) (hz0 : i0.zero = some z) (hz1 : i0.size = size) (hz2 : i0.bytes = bytes) (hzs : z.cells.size = size) (hsz : 0 < size)
    (z23 : ∀ w, (Go.sizeOf (ρ.t 23)).run P w = .ok size w) (a : Addr) (c : Nat) (w : World) :
    Calls P (ρ.f 41) #[.slice (some a) 0 c] w fun e w' => ∃ v', e = .returned v' ∧ w'.ownsRow w.heap.size (ρ.t 23) size v' 0 [] ∧ Below w.heap.size w w' := by
  have mixed := L.mixed; have t4 := L.t4; have a4 := L.a4; have z4 := L.z4; have v4 := L.v4; have t22 := L.t22; have a22 := L.a22; have z22 := L.z22; have v22 := L.v22
  have q22 : ∀ (w : World) (a : Option Addr) (n c n' c' : Nat), (binOp .eql (ρ.t 22) (.slice a n c) (.slice none n' c')).run P w = .ok (.bool a.isNone) w := fun w a n c n' c' => Lib.run_eql_slice_nil w _ _ a n c n' c' L.t22
  have u22 : ∀ w, Sem.run P (underlying (ρ.t 22)) w = .ok (TypeDesc.slice (ρ.t 23)) w := run_underlying t22
  obtain ⟨_, _, FG⟩ := L.f41
  go_enter FG, SlBodyN.n41_ntmps ρ
  go_wp2_with (at_builtin; refine wpList_append_own _ rfl _ _ (ρ.t 22) rfl w.heap.size (ρ.t 23) i0 z size bytes t22 hi hz0 hz1 hz2 hzs hsz _ _ _ rfl (World.ownsRow_made w #[] 0 (Nat.le_refl _) (Nat.zero_le _) (by simp)) a 0 c [] rfl (by simp) (by intro j u hj; simp at hj) (by intro u hu; cases hu) (by unfold maxLen; omega) (by omega) (by simp) ?_)
  intro v' w1 hown hgrow hnil
  go_wp2
  go_ret
  exact ⟨v', rfl, by simpa using hown, ((Below.refl _ w).alloc (Nat.le_refl _) _).grown hgrow (by simp) (by intro k hk; simp [Value.ownBlock] at hk; omega)⟩

theorem clone_said (L : SlLaysE0.n41 P ρ) (i0 : TypeInfo) (z : Value) (size bytes : Nat) (hi : P.info? (ρ.t 23) = some i0) (hz0 : i0.zero = some z) (hz1 : i0.size = size) (hz2 : i0.bytes = bytes) (hzs : z.cells.size = size) (hsz : 0 < size)
    (z23 : ∀ w, (Go.sizeOf (ρ.t 23)).run P w = .ok size w) : CloneSaid P (ρ.f 41) (ρ.t 23) size bytes :=
  ⟨fun b off n c news w hl hn hb hc h1 => AnyE.slices_Clone L i0 z size bytes hi hz0 hz1 hz2 hzs hsz z23 b off n c news w hl hn hb hc h1,
    fun a c w => clone_zero L i0 z size bytes hi hz0 hz1 hz2 hzs hsz z23 a c w, fun n c w => AnyE.slices_Clone_nil L n c w⟩
end
end Sx
