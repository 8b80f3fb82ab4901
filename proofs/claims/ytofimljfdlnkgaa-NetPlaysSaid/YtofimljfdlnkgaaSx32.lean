import Derived.Test.YtofimljfdlnkgaaSx31
/-
  Sx32: closed forks cut, and an argument told case by case with a case for all other values.
-/
namespace Sx
open Go Go.RowKit

def cutT {α : Type} : Tree α → Tree α
  | .leaf x => .leaf x
  | .fork c t e => cond c (cutT t) (cutT e)
  | .req p t => .req p (cutT t)
  | .fail s => .fail s
  | .lt _ v k => cutT (k v)
theorem cut_all {α : Type} {Q : α → Prop} : ∀ {t : Tree α}, (cutT t).all Q → t.all Q
  | .leaf _, h => h
  | .fork c t e, h => by
    cases c with
    | true => exact ⟨fun _ => cut_all (t := t) h, fun g => Bool.noConfusion g⟩
    | false => exact ⟨fun g => Bool.noConfusion g, fun _ => cut_all (t := e) h⟩
  | .req _ t, h => ⟨h.1, cut_all (t := t) h.2⟩
  | .fail _, h => h
  | .lt _ v k, h => fun y hy => by subst hy; exact cut_all (t := k _) h

def concE (args : List Tv) (k : Nat) (kd : IntKind) (n : Int) (sp : List Tv → Option (Tree Delta)) : Nat → Nat → Option (Tree Delta)
  | 0, _ => sp args
  | c + 1, j =>
    match sp (args.set k (.one (.cint kd (j : Int)))), concE args k kd n sp c (j + 1) with
    | some t, some e => some (.fork (decide (n = (j : Int))) t e)
    | _, _ => none

def concD (k lo cnt : Nat) (sp : Spec) : Spec := fun args gh next =>
  match args[k]? with
  | some (.one (.cint _ _)) => sp args gh next
  | some (.one (.int kd n)) => concE args k kd n (fun as => sp as gh next) cnt lo
  | _ => none

theorem concE_reach {args : List Tv} {k : Nat} {kd : IntKind} {n : Int} {sp : List Tv → Option (Tree Delta)} : ∀ {c j : Nat} {t : Tree Delta} {d : Delta}, concE args k kd n sp c j = some t → t.reach d →
    ∃ t', (sp (args.set k (.one (.cint kd n))) = some t' ∨ sp args = some t') ∧ t'.reach d
  | 0, j, t, d, h, hr => by simp only [concE] at h; exact ⟨t, .inr h, hr⟩
  | c + 1, j, t, d, h, hr => by
    simp only [concE] at h
    split at h
    · rename_i t1 e1 h1 h2
      injection h with h; subst h
      rcases hr with ⟨hn, hr⟩ | ⟨_, hr⟩
      · have : n = (j : Int) := of_decide_eq_true hn
        subst this
        exact ⟨t1, .inl h1, hr⟩
      · exact concE_reach h2 hr
    · cases h

theorem concD_ok {P : Program} {f : FuncId} {k lo cnt : Nat} {sp : Spec} (h : SpecOK P f sp) : SpecOK P f (concD k lo cnt sp) := by
  intro args gh next t d ht hr R ρ w hG hids hbd
  unfold concD at ht
  have go : ∀ (kd : IntKind) (n : Int) (v : Tv), args[k]? = some v → v.den ρ = .int kd n → v.ids = [] → concE args k kd n (fun as => sp as gh next) cnt lo = some t → CallOK P f args R ρ gh next w d := by
    intro kd n v hv hden hvi hc
    obtain ⟨t', h1, h2⟩ := concE_reach hc hr
    have hlt := (List.getElem?_eq_some_iff.1 hv).1
    rcases h1 with h1 | h1
    · have := h (args.set k (.one (.cint kd n))) gh next t' d h1 h2 R ρ w hG (fun u hu i hi => by
        rcases List.mem_or_eq_of_mem_set hu with h3 | h3
        · exact hids u h3 i hi
        · subst h3; simp [Tv.ids, SV.ids] at hi) hbd
      unfold CallOK at this ⊢
      have hm : (args.set k (.one (.cint kd n))).map (Tv.den ρ) = args.map (Tv.den ρ) := by
        refine List.ext_getElem? fun i => ?_
        rw [List.getElem?_map, List.getElem?_map, List.getElem?_set]
        split
        · rename_i e; subst e
          rw [hv]
          simp [Tv.den, SV.den] at hden ⊢
          exact hden.symm
        · rfl
      rwa [hm] at this
    · exact h args gh next t' d h1 h2 R ρ w hG hids hbd
  split at ht
  · exact h args gh next t d ht hr R ρ w hG hids hbd
  · rename_i kd n hv; exact go kd n _ hv rfl rfl ht
  · cases ht
end Sx
