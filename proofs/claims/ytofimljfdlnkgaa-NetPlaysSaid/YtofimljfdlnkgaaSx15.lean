/- A symbolic executor for the model's code: one operation, whichever; a region, in the order of the text. -/
import Derived.Test.YtofimljfdlnkgaaSxW6
namespace Sx
open Go Go.RowKit

structure Ex where
  P : Program
  call : FuncId → List Tv → Gh → Nat → Option (Tree Delta)
  merge : Bool := false
  lits : Bool := false
  wins : Bool := false
  frz : Bool := false

def tvLt (n : Nat) (v : Tv) : Prop := ∀ i ∈ v.ids, i < n

def CallOK (P : Program) (f : FuncId) (args : List Tv) (R : Nat → Prop) (ρ : Env) (gh : Gh) (next : Nat) (w : World) (d : Delta) : Prop :=
  Calls P f (args.map (Tv.den ρ)).toArray w fun e w' => ∃ R' ρ', e = .returned (d.val.den ρ') ∧ Ext R ρ gh w next R' ρ' (applyUpd d.upd gh) w' d.next ∧ RepG R' ρ' (applyUpd d.upd gh) w'

/-- the contracts in use are right -/
def Ex.Sound (E : Ex) : Prop :=
  ∀ f args gh next t d, E.call f args gh next = some t → t.reach d → ∀ R ρ w, RepG R ρ gh w → (∀ v ∈ args, ∀ i ∈ v.ids, i < next ∨ d.next ≤ i) →
    (∀ id g, look gh id = some g → (id < next ∨ d.next ≤ id) ∧ ∀ i ∈ g.ids, i < next ∨ d.next ≤ i) → CallOK E.P f args R ρ gh next w d

def callable (P : Program) (f : FuncId) : Bool :=
  match P.funcs[f]? with
  | some fn => !(fn.name == "runtime.NumGoroutine") && fn.body.isSome
  | none => false

def allSome : List (Option Tv) → Option (List Tv)
  | [] => some []
  | some v :: r => (allSome r).map (v :: ·)
  | none :: _ => none

def ptrTvs (l : List (Nat × Nat)) : List Tv := l.map fun p => .one (.ptr p.1 p.2)

def stepCall (E : Ex) (f : Option Tv) (args : List (Option Tv)) (gh : Gh) (next : Nat) : Tree Delta :=
  match f, allSome args with
  | some (.one (.fn f first caps)), some vs =>
    bif callable E.P f then
      match E.call f (ptrTvs first ++ vs ++ ptrTvs caps) gh next with
      | some t => t
      | none => .fail "call no contract"
    else .fail "call no body"
  | _, _ => .fail "call"

def stepOp (E : Ex) (o : Oper) (ev : Operand → Option Tv) (gh : Gh) (next : Nat) : Tree Delta :=
  match o.op with
  | .move x | .assign x => stepMove (ev x) next
  | .pick c x y => stepPick (ev c) (ev x) (ev y) next
  | .alloc t => stepAlloc E.P t next
  | .box _ x => stepBox (ev x) next
  | .build t ps => stepBuild E.P t (ps.toList.map fun p => (p.1, ev p.2)) next
  | .buildSlice t n ps => stepBuildS E.P t n (ps.toList.map fun p => (p.1, ev p.2)) next
  | .load t x => match stepLoadW E.P t (ev x) gh next with | some tr => tr | none => stepLoad E.P t (ev x) gh next
  | .store t x y => match stepStoreW E.P t (ev x) (ev y) gh next with | some tr => tr | none => stepStore E.P t (ev x) (ev y) gh next
  | .nilCheck x => stepNil gh (ev x) next
  | .binOp op t x y _ => stepBin E.P op t (ev x) (ev y) gh next
  | .unOp op _ x => stepUn op (ev x) next
  | .convert s d x => stepConv E.P s d (ev x) next
  | .makeFunc f p q => stepMkFn f (p.toList.map ev) (q.toList.map ev) next
  | .makeSlice t x y => match E.lits with | true => stepMakeC E.P t (ev x) (ev y) next | false => stepMake E.P t (ev x) (ev y) next
  | .slice t x lo hi none =>
    match E.wins with
    | true => (match stepSliceW E.P t (ev x) (lo.map ev) (hi.map ev) gh next with | some tr => tr | none => stepSlice E.P t (ev x) (lo.map ev) (hi.map ev) gh next)
    | false => stepSlice E.P t (ev x) (lo.map ev) (hi.map ev) gh next
  | .slice t x (some lo) (some hi) (some mx) => stepSlice3 E.P t (ev x) (ev lo) (ev hi) (ev mx) gh next
  | .fieldAddr t x f => stepField E.P t (ev x) f gh next
  | .field t x f => stepFieldV E.P t (ev x) f next
  | .indexAddr t x y => stepIdx E.P t (ev x) (ev y) gh next
  | .index t x y => stepIndexV E.P t (ev x) (ev y) next
  | .extract x i => stepExtract (ev x) i next
  | .call ⟨.value f, args, _⟩ => stepCall E (ev f) (args.toList.map ev) gh next
  | .call ⟨.builtin .len, ⟨[x]⟩, ⟨t :: _⟩⟩ => match stepLenW E.P t (ev x) gh next with | some tr => tr | none => stepLen E.P t (ev x) gh next
  | .call ⟨.builtin .append, ⟨[x, y]⟩, ⟨[t, t']⟩⟩ => match stepAppendW E.P t t' (ev x) (ev y) gh next with | some tr => tr | none => stepAppend E.P t t' (ev x) (ev y) gh next
  | .call ⟨.builtin .clear, ⟨[x]⟩, ⟨[t]⟩⟩ => stepClear E.P t (ev x) gh next
  | .call ⟨.builtin .copy, ⟨[x, y]⟩, ⟨[t, _]⟩⟩ => stepCopy E.P t (ev x) (ev y) gh next
  | .call ⟨.builtin .max, args, _⟩ => stepMM true (args.toList.map ev) next
  | .call ⟨.builtin .min, args, _⟩ => stepMM false (args.toList.map ev) next
  | _ => .fail "an operation that is not covered"

section
variable {E : Ex} {o : Oper} {a : Act} {R : Nat → Prop} {ρ : Env} {gh : Gh} {next : Nat} {w : World} {ev : Operand → Option Tv}

theorem allSome_map (hv : ∀ x v, ev x = some v → a.eval x = v.den ρ) : ∀ {l : List Operand} {vs : List Tv}, allSome (l.map ev) = some vs → l.map a.eval = vs.map (Tv.den ρ)
  | [], vs, h => by simp only [List.map_nil, allSome] at h; injection h with h; subst h; rfl
  | x :: l, vs, h => by
    simp only [List.map_cons] at h
    cases hx : ev x with
    | none => rw [hx] at h; cases h
    | some v =>
      rw [hx] at h
      simp only [allSome] at h
      cases hr : allSome (l.map ev) with
      | none => rw [hr] at h; cases h
      | some r =>
        rw [hr] at h
        simp only [Option.map] at h
        injection h with h; subst h
        simp only [List.map_cons, hv x v hx, allSome_map hv hr]

theorem allSome_mem : ∀ {l : List Operand} {vs : List Tv}, allSome (l.map ev) = some vs → ∀ v ∈ vs, ∃ x, ev x = some v
  | [], vs, h => by simp only [List.map_nil, allSome] at h; injection h with h; subst h; simp
  | x :: l, vs, h => by
    simp only [List.map_cons] at h
    cases hx : ev x with
    | none => rw [hx] at h; cases h
    | some v =>
      rw [hx] at h
      simp only [allSome] at h
      cases hr : allSome (l.map ev) with
      | none => rw [hr] at h; cases h
      | some r =>
        rw [hr] at h
        simp only [Option.map] at h
        injection h with h; subst h
        intro u hu
        rcases List.mem_cons.1 hu with rfl | hu
        · exact ⟨x, hx⟩
        · exact allSome_mem hr u hu

theorem stepCall_ok {d : Delta} {f : Operand} {args : Array Operand} {T : Array TypeId} (ho : o.op = .call { callee := .value f, args, argTypes := T }) (hE : E.Sound) (hC : Ctx a R ρ gh next d.next w ev)
    (h : (stepCall E (ev f) (args.toList.map ev) gh next).reach d) : OpOK E.P o a R ρ gh next w d := by
  unfold stepCall at h
  split at h
  · rename_i f' first caps vs hf hvs
    cases hb : callable E.P f' with
    | false => rw [hb] at h; exact h.elim
    | true =>
      rw [hb] at h
      simp only [cond_true] at h
      cases hc : E.call f' (ptrTvs first ++ vs ++ ptrTvs caps) gh next with
      | none => rw [hc] at h; exact h.elim
      | some t =>
        rw [hc] at h
        have hfv := hC.val f _ hf
        have hav := allSome_map hC.val hvs
        have hids : ∀ v ∈ ptrTvs first ++ vs ++ ptrTvs caps, ∀ i ∈ v.ids, i < next ∨ d.next ≤ i := by
          intro v hv i hi
          have hfi : ∀ p : Nat × Nat, (p ∈ first ∨ p ∈ caps) → p.1 < next ∨ d.next ≤ p.1 := by
            intro p hp
            refine hC.evb f _ hf p.1 ?_
            simp only [Tv.ids, SV.ids, List.mem_append, List.mem_map]
            exact hp.imp (fun h => ⟨p, h, rfl⟩) fun h => ⟨p, h, rfl⟩
          simp only [ptrTvs, List.mem_append, List.mem_map] at hv
          rcases hv with (⟨p, hp, rfl⟩ | hv) | ⟨p, hp, rfl⟩
          · simp [Tv.ids, SV.ids] at hi; subst hi; exact hfi p (.inl hp)
          · obtain ⟨x, hx⟩ := allSome_mem hvs v hv
            exact hC.evb x v hx i hi
          · simp [Tv.ids, SV.ids] at hi; subst hi; exact hfi p (.inr hp)
        have hcall := hE f' _ gh next t d hc h R ρ w hC.rep hids hC.bd
        intro N Q hN
        unfold Oper.wp
        have hargs : (ptrTvs first ++ vs ++ ptrTvs caps).map (Tv.den ρ) = (first.map fun p => Value.pointer (ρ.at p.1 p.2)) ++ args.toList.map a.eval ++ (caps.map fun p => Value.pointer (ρ.at p.1 p.2)) := by
          rw [hav]; simp [ptrTvs]; rfl
        have hrun : (execOp a.eval o).run E.P w = .ok (.enter f' ((ptrTvs first ++ vs ++ ptrTvs caps).map (Tv.den ρ)).toArray) w := by
          unfold callable at hb
          cases hfn : E.P.funcs[f']? with
          | none => rw [hfn] at hb; cases hb
          | some fn =>
            rw [hfn] at hb
            simp only [Bool.and_eq_true, Bool.not_eq_true'] at hb
            simp only [execOp, ho, resolve, hfv, Tv.den, SV.den, Deferred.ofValue, Sem.run_bind, Sem.run_pure, Result.andThen_ok, invoke, callFunc, run_program, hfn, hb.1, Bool.false_eq_true, if_false]
            have hbn : fn.body.isNone = false := by cases hbo : fn.body <;> simp [hbo] at hb ⊢
            simp only [hbn, Bool.false_eq_true, if_false, Sem.run_pure]
            congr 2
            apply Array.ext'
            rw [hargs]
            simp
        rw [hrun, Oper.upon_enter]
        refine hcall.mono ?_
        rintro e w' ⟨R', ρ', he, hE', hG'⟩
        subst he
        exact hN R' ρ' w' hE' hG'
  · exact h.elim

theorem stepOp_ok {d : Delta} (hE : E.Sound) (hC : Ctx a R ρ gh next d.next w ev) (h : (stepOp E o ev gh next).reach d) : OpOK E.P o a R ρ gh next w d := by
  unfold stepOp at h
  split at h
  · rename_i x ho; exact stepMove_ok (.inl ho) hC h
  · rename_i x ho; exact stepMove_ok (.inr ho) hC h
  · rename_i c x y ho; exact stepPick_ok ho hC h
  · rename_i t ho; exact stepAlloc_ok ho hC h
  · rename_i t x ho; exact stepBox_ok ho hC h
  · rename_i t ps ho; exact stepBuild_ok ho hC h
  · rename_i t n ps ho; exact stepBuildS_ok ho hC h
  · rename_i t x ho
    split at h
    · rename_i tr hw; exact stepLoadW_ok ho hC hw h
    · exact stepLoad_ok ho hC h
  · rename_i t x y ho
    split at h
    · rename_i tr hw; exact stepStoreW_ok ho hC hw h
    · exact stepStore_ok ho hC h
  · rename_i x ho; exact stepNil_ok ho hC h
  · rename_i op t x y ty ho; exact stepBin_ok ho hC h
  · rename_i op t x ho; exact stepUn_ok ho hC h
  · rename_i s d x ho; exact stepConv_ok ho hC h
  · rename_i f p q ho; exact stepMkFn_ok ho hC h
  · rename_i t x y ho
    split at h
    · exact stepMakeC_ok ho hC h
    · exact stepMake_ok ho hC h
  · rename_i t x lo hi ho
    split at h
    · split at h
      · rename_i tr hw; exact stepSliceW_ok ho hC hw h
      · exact stepSlice_ok ho hC h
    · exact stepSlice_ok ho hC h
  · rename_i t x lo hi mx ho; exact stepSlice3_ok ho hC h
  · rename_i t x f ho; exact stepField_ok ho hC h
  · rename_i t x f ho; exact stepFieldV_ok ho hC h
  · rename_i t x y ho; exact stepIdx_ok ho hC h
  · rename_i t x y ho; exact stepIndexV_ok ho hC h
  · rename_i x i ho; exact stepExtract_ok ho hC h
  · rename_i f args T ho; exact stepCall_ok ho hE hC h
  · rename_i x t T ho
    split at h
    · rename_i tr hw; exact stepLenW_ok (T := ⟨t :: T⟩) rfl ho hC hw h
    · exact stepLen_ok (T := ⟨t :: T⟩) rfl ho hC h
  · rename_i x y t t' ho
    split at h
    · rename_i tr hw; exact stepAppendW_ok ho hC hw h
    · exact stepAppend_ok ho hC h
  · rename_i x t ho; exact stepClear_ok ho hC h
  · rename_i x y t t' ho; exact stepCopy_ok ho hC h
  · rename_i args T ho; exact stepMM_ok (mx := true) ho hC h
  · rename_i args T ho; exact stepMM_ok (mx := false) ho hC h
  · exact h.elim

/-! ### where a row's element lies: known by the row's shape alone -/
def shapeOf (P : Program) (o : Oper) (ev : Operand → Option Tv) (sh : Gh) (next : Nat) : Option (Tree Delta) :=
  match o.op with
  | .move x => some (stepMove (ev x) next)
  | .assign x => some (stepMove (ev x) next)
  | .indexAddr t x y =>
    match ev x with
    | some (.one (.row id)) => match rowLen sh id with | some _ => some (stepIdx P t (some (.one (.row id))) (ev y) sh next) | none => none
    | some (.one (.ptr id off)) =>
      match sureP sh (.ptr id off), P.underlying t, (ev y).bind numOf with
      | true, some (.array len elem), some (c, _, n) => match sizeT P elem with | some sz => some (idxIn id off c n sz len next) | none => none
      | _, _, _ => none
    | _ => none
  | .nilCheck x =>
    match ev x with
    | some (.one (.ptr id off)) => match sureP sh (.ptr id off) with | true => some (.leaf ⟨.one (.ptr id off), [], next⟩) | false => none
    | _ => none
  | .fieldAddr s x f =>
    match ev x with
    | some (.one (.ptr id off)) =>
      match sureP sh (.ptr id off), (fieldsT P s).bind (·[f]?) with
      | true, some fl => match sizeT P fl.type with | some (_ + 1) => some (.leaf ⟨.one (.ptr id (off + fl.offset)), [], next⟩) | _ => none
      | _, _ => none
    | _ => none
  | _ => none

def Shp (ρ : Env) (sh : Gh) : Prop := (∀ id q, rowLen sh id = some q → (ρ id).len = q.2 ∧ q.2 ≤ (ρ id).cap ∧ (0 < q.2 → ∃ b o, (ρ id).addr = some ⟨b, o, none⟩)) ∧
  ∀ id off, sureP sh (.ptr id off) = true → ∃ b o, SV.den ρ (.ptr id off) = .pointer (some ⟨b, o, none⟩)

theorem RepG.shp {sh : Gh} (hG : RepG R ρ sh w) : Shp ρ sh := ⟨fun _ q hq => rowLen_sound (sz := q.1) (n := q.2) hG hq, fun _ _ h => sureP_sound hG h⟩

/-- a region's shapes speak of blocks that there are -/
def ShpB (sh : Gh) (n : Nat) : Prop := (∀ id q, rowLen sh id = some q → id < n) ∧ ∀ id off, sureP sh (.ptr id off) = true → id < n

theorem Shp.env {ρ' : Env} {sh : Gh} {n : Nat} (h : Shp ρ sh) (hb : ShpB sh n) (he : ∀ id, id < n → ρ' id = ρ id) : Shp ρ' sh := ⟨fun id q hq => by
  rw [he id (hb.1 id q hq)]; exact h.1 id q hq, fun id off hq => by
  have := h.2 id off hq
  simp only [SV.den, Env.at] at this ⊢
  rw [he id (hb.2 id off hq)]; exact this⟩

theorem shapeOf_ok {P : Program} {d : Delta} {sh : Gh} {tr : Tree Delta} (hs : Shp ρ sh) (hC : Ctx a R ρ gh next d.next w ev) (ht : shapeOf P o ev sh next = some tr) (h : tr.reach d) : OpOK P o a R ρ gh next w d := by
  unfold shapeOf at ht
  split at ht
  · rename_i x ho
    injection ht with ht; subst ht
    exact stepMove_ok (.inl ho) hC h
  · rename_i x ho
    injection ht with ht; subst ht
    exact stepMove_ok (.inr ho) hC h
  · rename_i t x y ho
    split at ht
    · rename_i id hx
      split at ht
      · rename_i q hq
        injection ht with ht; subst ht
        unfold stepIdx at h
        cases hy : (ev y).bind numOf with
        | none => rw [hy] at h; exact h.elim
        | some p =>
          obtain ⟨c, k, n⟩ := p
          rw [hy] at h
          simp only at h
          split at h
          · rename_i _ heq; cases heq
          · rename_i elem id' hu heq
            injection heq with heq; subst heq
            split at h
            · rename_i sz sz' len hsz hr
              cases hb : Nat.beq sz sz' with
              | false => rw [hb] at h; exact h.elim
              | true =>
                rw [hb] at h
                obtain ⟨⟨h0, h1⟩, h⟩ := h
                cases h
                obtain ⟨e1, _, e2⟩ := hs.1 id _ hr
                simp only at e1 e2
                obtain ⟨b, oo, ha⟩ := e2 (by omega)
                refine OpOK.value hC.rep ?_
                cases hv : ev y with
                | none => rw [hv] at hy; cases hy
                | some vy =>
                  rw [hv] at hy
                  simp only [Option.bind] at hy
                  have ex := hC.val x _ hx
                  have ey := hC.val y _ hv
                  rw [numOf_den hy] at ey
                  simp only [Tv.den] at ex
                  simp only [execOp, ho, ex, ey, Sem.run_bind, Tv.den, SV.den, ha, e1, Env.at, Instr.indexAt, asIntOf, Sem.run_pure, Result.andThen_ok, run_underlying hu, if_pos (show 0 ≤ n ∧ n < (len : Int) from ⟨h0, h1⟩), run_sizeOf' hsz, addr_add, Option.map_some]
                  simp
            · exact h.elim
          · rename_i _ heq; cases heq
          · rename_i _ heq; cases heq
          · exact h.elim
      · cases ht
    · rename_i id off hx
      split at ht
      · rename_i len elem c k n hb hu hy
        split at ht
        · rename_i sz hsz
          injection ht with ht; subst ht
          obtain ⟨h0, h1, h2, h3, h4⟩ := idxIn_sound (ρ := ρ) h
          obtain ⟨b, oo, hd⟩ := hs.2 id off hb
          obtain ⟨v, u, nn⟩ := d
          simp only at h2 h3 h4
          subst h2; subst h3
          refine OpOK.value hC.rep ?_
          cases hv : ev y with
          | none => rw [hv] at hy; cases hy
          | some vy =>
            rw [hv] at hy
            simp only [Option.bind] at hy
            have ex := hC.val x _ hx
            have ey := hC.val y _ hv
            rw [numOf_den hy] at ey
            simp only [Tv.den] at ex
            have hat : ρ.at id (off + n.toNat * sz) = some ⟨b, oo + n.toNat * sz, none⟩ := by
              simp only [SV.den, Env.at] at hd ⊢
              cases ha : (ρ id).addr with
              | none => rw [ha] at hd; simp at hd
              | some ad => rw [ha] at hd; simp at hd ⊢; omega
            rw [hd] at ex
            simp only [execOp, ho, ex, ey, h4, Sem.run_bind, Instr.indexAt, asIntOf, Sem.run_pure, Result.andThen_ok, run_underlying hu, Instr.sureAddr, if_pos (show 0 ≤ n ∧ n < (len : Int) from ⟨h0, h1⟩), run_sizeOf' hsz, addr_add, hat]
        · cases ht
      · cases ht
    · cases ht
  · rename_i x ho
    split at ht
    · rename_i id off hx
      split at ht
      · rename_i hb
        injection ht with ht; subst ht
        cases h
        obtain ⟨b, oo, hd⟩ := hs.2 id off hb
        have ex := hC.val x _ hx
        simp only [Tv.den] at ex
        refine OpOK.value hC.rep ?_
        simp only [execOp, ho, ex, Tv.den, hd, Sem.run_pure]
      · cases ht
    · cases ht
  · rename_i s x f ho
    split at ht
    · rename_i id off hx
      split at ht
      · rename_i fl hb hfl
        split at ht
        · rename_i n hsz
          injection ht with ht; subst ht
          cases h
          obtain ⟨b, oo, hd⟩ := hs.2 id off hb
          have ex := hC.val x _ hx
          simp only [Tv.den] at ex
          refine OpOK.value hC.rep ?_
          unfold fieldsT at hfl
          split at hfl
          · rename_i fs hu
            simp only [Option.bind] at hfl
            have hp : (fieldPlace ⟨b, oo, none⟩ fl).run P w = .ok ⟨b, oo + fl.offset, none⟩ w := by
              unfold fieldPlace
              simp only [Sem.run_bind, run_sizeOf' hsz, Result.andThen_ok, if_neg (show ¬ n + 1 = 0 by omega), Sem.run_pure, addr_add]
            have hsh := shift_den (k := fl.offset) hd (.inl ⟨id, off, rfl⟩)
            simp only [shift] at hsh
            simp only [execOp, ho, ex, Tv.den, hd, Instr.fieldAt, Instr.sureAddr, Sem.run_bind, run_underlying hu, Result.andThen_ok, hfl, Sem.run_pure, hp, hsh]
          · cases hfl
        · cases ht
      · cases ht
    · cases ht
  · cases ht

def stepE (E : Ex) (sh : Gh) (o : Oper) (ev : Operand → Option Tv) (gh : Gh) (next : Nat) : Tree Delta :=
  match shapeOf E.P o ev sh next with
  | some t => t
  | none => stepOp E o ev gh next

theorem stepE_ok {E : Ex} {d : Delta} {sh : Gh} (hE : E.Sound) (hs : Shp ρ sh) (hC : Ctx a R ρ gh next d.next w ev) (h : (stepE E sh o ev gh next).reach d) : OpOK E.P o a R ρ gh next w d := by
  unfold stepE at h
  split at h
  · rename_i t ht; exact shapeOf_ok hs hC ht h
  · exact stepOp_ok hE hC h
end
end Sx
