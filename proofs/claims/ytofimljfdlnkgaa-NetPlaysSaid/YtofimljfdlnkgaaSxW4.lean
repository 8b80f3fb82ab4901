/- A symbolic executor for the model's code: what stands behind moved to the left, cleared, in a row of one's own. -/
import Derived.Test.YtofimljfdlnkgaaSxW3
namespace Sx
open Go Go.RowKit

section
variable {P : Program} {o : Oper} {a : Act} {R : Nat → Prop} {ρ : Env} {gh : Gh} {next : Nat} {w : World} {ev : Operand → Option Tv}

/-- append(s[:i], s[j:]...) -/
def stepAppendW (P : Program) (t t' : TypeId) (s x : Option Tv) (gh : Gh) (next : Nat) : Option (Tree Delta) :=
  match P.underlying t, s, x with
  | some (.slice elem), some (.one (.win id lo i sz)), some (.one (.win id' j m sz')) =>
    bif Nat.beq id id' && !(isIntT P t') then
      match look gh id, (P.info? elem).map (·.size) with
      | some (.own ty xs), some sz0 =>
        bif Nat.beq sz ty.size && Nat.beq sz' ty.size && Nat.beq sz0 ty.size then
          some (.req (lo = 0 ∧ i ≤ j ∧ j + m = xs.length) (.leaf ⟨.one (.win id 0 (i + m) sz), [(id, some (.own ty (xs.take i ++ xs.drop j ++ xs.drop (i + m))))], next⟩))
        else none
      | _, _ => none
    else none
  | _, _, _ => none

theorem stepAppendW_ok {d : Delta} {t t' : TypeId} {x y : Operand} {tr : Tree Delta} (ho : o.op = .call { callee := .builtin .append, args := #[x, y], argTypes := #[t, t'] }) (hC : Ctx a R ρ gh next d.next w ev)
    (ht : stepAppendW P t t' (ev x) (ev y) gh next = some tr) (h : tr.reach d) : OpOK P o a R ρ gh next w d := by
  unfold stepAppendW at ht
  split at ht
  · rename_i elem id lo i sz id' j m sz' hu hx hy
    cases hb : Nat.beq id id' && !(isIntT P t') with
    | false => rw [hb] at ht; cases ht
    | true =>
      rw [hb] at ht
      simp only [cond_true] at ht
      rw [Bool.and_eq_true] at hb
      have e0 := beq_iff.1 hb.1
      subst e0
      have ht' : ∃ e', P.underlying t' = some (.slice e') := by
        have := hb.2
        unfold isIntT at this
        split at this
        · rename_i e' he; exact ⟨e', he⟩
        · cases this
      obtain ⟨e', ht'⟩ := ht'
      split at ht
      · rename_i ty xs sz0 hg hinfo
        cases hz : Nat.beq sz ty.size && Nat.beq sz' ty.size && Nat.beq sz0 ty.size with
        | false => rw [hz] at ht; cases ht
        | true =>
          rw [hz] at ht
          simp only [cond_true] at ht
          injection ht with ht; subst ht
          obtain ⟨⟨hlo, hij, hjm⟩, h⟩ := h
          cases h
          simp only [Bool.and_eq_true] at hz
          have z1 := beq_iff.1 hz.1.1
          have z2 := beq_iff.1 hz.1.2
          have z3 := beq_iff.1 hz.2
          subst z1; subst z2; subst z3; subst hlo
          cases hi : P.info? elem with
          | none => rw [hi] at hinfo; cases hinfo
          | some info =>
            rw [hi] at hinfo
            simp only [Option.map] at hinfo
            injection hinfo with hisz
            have hG := hC.rep
            obtain ⟨f1, f2, f3⟩ := hG.facts _ _ hg
            have ex := hC.val x _ hx
            have ey := hC.val y _ hy
            simp only [Tv.den, SV.den] at ex ey
            have hmi : min i ((ρ id).len - 0) = i := by rw [← f1]; omega
            have hmj : min m ((ρ id).len - j) = m := by rw [← f1]; omega
            rw [hmi] at ex
            rw [hmj] at ey
            have hlen : (xs.take i ++ xs.drop j ++ xs.drop (i + m)).length = xs.length := by simp; omega
            rcases f3 with ⟨q1, q2, q3⟩ | ⟨b, off, cur, T, ha, hh, hfit, hxs⟩
            · subst q2
              simp at hjm
              have hj0 : j = 0 := by omega
              have hm0 : m = 0 := by omega
              subst hj0; subst hm0
              have hi0 : i = 0 := by omega
              subst hi0
              simp only [q1, q3, Env.at, Option.map_none, ite_self, Nat.sub_self] at ex ey
              have hrun := run_append_nil0 (P := P) (w := w) (ty := o.type) (c := 0) (B := none) hu ht' hi
              refine OpOK.of_run (ρ' := ρ) (R' := R) (w' := w) (V := .slice none 0 0) ?_ (by simp [Tv.den, SV.den, q1, q3, Env.at, ← f1]) ?_ ?_
              · simp only [execOp, ho, resolve, Sem.run_bind, Sem.run_pure, Result.andThen_ok, invoke, builtin]
                simp only [List.map_toArray, List.map_cons, List.map_nil, ex, ey]
                rw [show (Value.slice none 0 (0 - 0)) = Value.slice none 0 0 from rfl]
                simp only [hrun, Result.andThen_ok]
              · refine ⟨Nat.le_refl _, rfl, rfl, rfl, fun _ _ _ => rfl, fun _ _ => rfl, fun _ h => h, fun _ h => .inl h, ?_⟩
                rintro k ⟨id2, g, hk, hkb⟩
                simp only [applyUpd, look_cons, look_erase] at hk
                by_cases e : id = id2
                · subst e
                  simp at hk; subst hk
                  simp [Gb.ownB, q1] at hkb
                · rw [if_neg e, if_neg e] at hk
                  exact .inl ⟨id2, g, hk, hkb⟩
              · refine RepG.without hG fun k g hk => ?_
                simp only [applyUpd, look_cons, look_erase] at hk
                by_cases e : id = k
                · subst e
                  simp at hk; subst hk; simpa using hg
                · rw [if_neg e, if_neg e] at hk; exact hk
            · have hRb : ¬ R b := (hG.olt id _ b hg (by simp [Gb.ownB, ha])).2
              -- what is moved
              obtain ⟨news, hnews⟩ : ∃ news, news = (cur.toList.drop (off + j * ty.size)).take (m * ty.size) := ⟨_, rfl⟩
              have hjc : j * ty.size + m * ty.size = xs.length * ty.size := by rw [← Nat.add_mul, hjm]
              have hxc : xs.length * ty.size ≤ (ρ id).cap * ty.size := Nat.mul_le_mul_right _ f2
              have hnl : news.length = m * ty.size := by rw [hnews]; simp; omega
              have hnget : ∀ q, q < m * ty.size → news[q]? = cur[off + j * ty.size + q]? := by
                intro q hq
                rw [hnews, List.getElem?_take, if_pos hq, List.getElem?_drop]; simp
              have hyread : ∀ k y, (xs.drop j)[k]? = some y → ∃ c : List Value, c.length = ty.size ∧ (∀ q, q < ty.size → news[k * ty.size + q]? = c[q]?) ∧ ReadsC R w ty y c := by
                intro k y hk
                rw [List.getElem?_drop] at hk
                have hkl := (List.getElem?_eq_some_iff.1 hk).1
                obtain ⟨c, c1, c2, c3⟩ := hxs (j + k) y hk
                refine ⟨c, c1, fun q hq => ?_, c3⟩
                have hm' : k * ty.size + ty.size ≤ m * ty.size := by rw [← Nat.succ_mul]; exact Nat.mul_le_mul_right _ (by omega)
                rw [hnget _ (by omega), ← c2 q hq, Nat.add_mul]
                congr 1; omega
              have h1c : ∀ v ∈ news, v.oneCell' = true := by
                intro v hv
                obtain ⟨q, hq, hqv⟩ := List.getElem_of_mem hv
                have hq' : q < m * ty.size := by omega
                have hsz : 0 < ty.size := by
                  rcases Nat.eq_zero_or_pos ty.size with h0 | h0
                  · rw [h0] at hq'; simp at hq'
                  · exact h0
                have hk : q / ty.size < m := (Nat.div_lt_iff_lt_mul hsz).2 hq'
                have hkx : q / ty.size < (xs.drop j).length := by simp; omega
                obtain ⟨c, c1, c2, c3⟩ := hyread (q / ty.size) _ (List.getElem?_eq_getElem hkx)
                have hmod := Nat.mod_lt q hsz
                have := c2 (q % ty.size) hmod
                rw [Nat.mul_comm, Nat.div_add_mod, List.getElem?_eq_getElem hq, List.getElem?_eq_getElem (by omega)] at this
                injection this with this
                rw [← hqv, this]
                exact ReadsC_one ty _ _ c3 _ (List.getElem_mem _)
              have hat0 : (if (ρ id).cap ≤ 0 then (ρ id).addr else ρ.at id (0 * ty.size)) = some ⟨b, off, none⟩ := by
                split
                · exact ha
                · simp [Env.at, ha]
              rw [hat0, Nat.sub_zero] at ex
              -- the cells, as the run reads them
              have hfirst : (Builtin.firstCells info.size m (a.eval y)).run P w = .ok news.toArray w := by
                rw [ey]
                by_cases hm0 : m = 0
                · subst hm0
                  have : news = [] := List.eq_nil_of_length_eq_zero (by rw [hnl]; simp)
                  rw [this]
                  split <;> (try cases ρ.at id (j * ty.size)) <;> (try cases (ρ id).addr) <;> simp [Builtin.firstCells, loadCells, loadCellsFrom]
                · rw [if_neg (by omega)]
                  have : ρ.at id (j * ty.size) = some ⟨b, off + j * ty.size, none⟩ := by simp [Env.at, ha]
                  rw [this]
                  refine run_firstCells_some w _ _ _ _ _ news (by rw [hnl, hisz]) fun q v hq => ?_
                  have hql := (List.getElem?_eq_some_iff.1 hq).1
                  rw [addr_add]
                  simp only [World.cell?, hh]
                  rw [hnget q (by omega)] at hq
                  simpa using hq
              have hii : i * ty.size + m * ty.size ≤ xs.length * ty.size := by rw [← Nat.add_mul]; exact Nat.mul_le_mul_right _ (by omega)
              rw [ey] at hfirst
              have hrun := run_append_room' (P := P) (w := w) (ty := o.type) (b := b) (off := off) (sLen := i) (sCap := (ρ id).cap) (m := m) hu ht' hi hh hfirst h1c (by omega) (by rw [hisz, hnl]; omega)
              obtain ⟨W, hW⟩ : ∃ W, W = w.setRow b (cur.toList.take (off + i * info.size) ++ news ++ cur.toList.drop (off + i * info.size + news.length)).toArray := ⟨_, rfl⟩
              rw [← hW] at hrun
              have hother : ∀ k, k ≠ b → W.heap[k]? = w.heap[k]? := fun k hk => by rw [hW]; exact setRow_other w b k _ hk
              have hsp := OwnRow.splice (R := R) (w := w) (w' := W) (T := T) (xs := xs) (ys := xs.drop j) (p := i) f1 f2 ha hfit hxs (fun k hk => hother k fun e => hRb (e ▸ hk)) (by rw [hnl, List.length_drop]; congr 1; omega) hyread (by simp; omega) (by rw [← hisz, hW]; exact setRow_heap w b _ _ T (0, 0) hh)
              have hlj : i + (xs.drop j).length = i + m := by simp; omega
              rw [hlj] at hsp
              have hpair := RepG.upd1 (next := next) (g1 := .own ty (xs.take i ++ xs.drop j ++ xs.drop (i + m))) hG hg (b := b) (by simp [Gb.ownB, ha]) (by simp [Gb.ownB, ha]) hsp hother (by rw [hW]; exact setRow_size _ _ _) (by rw [hW]; rfl) (by rw [hW]; rfl) (by rw [hW]; rfl) next
              refine OpOK.of_run (ρ' := ρ) (R' := R) (w' := W) (V := .slice (some ⟨b, off, none⟩) (i + m) (ρ id).cap) ?_ ?_ hpair.2 hpair.1
              · simp only [execOp, ho, resolve, Sem.run_bind, Sem.run_pure, Result.andThen_ok, invoke, builtin]
                simp only [List.map_toArray, List.map_cons, List.map_nil, ex, ey, hrun, Result.andThen_ok]
              · simp only [Tv.den, SV.den]
                rw [hat0, Nat.sub_zero]
                congr 1
                omega
      · cases ht

  · cases ht

/-- clear(s[i:]) -/
def stepClear (P : Program) (t : TypeId) (x : Option Tv) (gh : Gh) (next : Nat) : Tree Delta :=
  match P.underlying t, x with
  | some (.slice elem), some (.one (.win id lo m sz)) =>
    match look gh id, zeroS P elem with
    | some (.own ty xs), some z =>
      bif Nat.beq sz ty.size && Nat.beq z.length ty.size then
        match collect [] ty z with
        | some y => .req (lo + m ≤ xs.length) (.leaf ⟨.tup [], [(id, some (.own ty (xs.take lo ++ List.replicate m y ++ xs.drop (lo + m))))], next⟩)
        | none => .fail "clear no such zero"
      else .fail "clear sizes"
    | _, _ => .fail "clear what"
  | _, _ => .fail "clear"

theorem stepClear_ok {d : Delta} {t : TypeId} {x : Operand} (ho : o.op = .call { callee := .builtin .clear, args := #[x], argTypes := #[t] }) (hC : Ctx a R ρ gh next d.next w ev)
    (h : (stepClear P t (ev x) gh next).reach d) : OpOK P o a R ρ gh next w d := by
  unfold stepClear at h
  split at h
  · rename_i elem id lo m sz hu hx
    split at h
    · rename_i ty xs z hg hz
      cases hb : Nat.beq sz ty.size && Nat.beq z.length ty.size with
      | false => rw [hb] at h; exact h.elim
      | true =>
        rw [hb] at h
        simp only [cond_true] at h
        rw [Bool.and_eq_true] at hb
        have b1 := beq_iff.1 hb.1
        have b2 := beq_iff.1 hb.2
        subst b1
        split at h
        · rename_i y hy
          obtain ⟨hreq, h⟩ := h
          cases h
          have hG := hC.rep
          obtain ⟨f1, f2, f3⟩ := hG.facts _ _ hg
          have ex := hC.val x _ hx
          simp only [Tv.den, SV.den] at ex
          have hmm : min m ((ρ id).len - lo) = m := by rw [← f1]; omega
          rw [hmm] at ex
          have hzero := zeroS_sound ρ hz
          obtain ⟨zv, z1, z2, z3⟩ := hzero
          have hG0 : RepG R ρ [] w := ⟨fun id g h => by simp [look] at h, hG.rlt, fun id g b h => by simp [look] at h, fun id id' g g' b h => by simp [look] at h⟩
          have hyr : ReadsC R w ty y (dens ρ z) := ReadsC.mono (fun b hb => ⟨by
            rcases hb with hb | ⟨id, g, h1, _⟩
            · exact hb
            · simp [look] at h1, rfl⟩) _ _ _ (collect_sound hG0 ty z y hy)
          have hzl : (dens ρ z).length = ty.size := by simp [b2]
          by_cases hm0 : m = 0
          · subst hm0
            have hsame : xs.take lo ++ List.replicate 0 y ++ xs.drop (lo + 0) = xs := by simp
            rw [hsame]
            have hrun : (Builtin.clear_ #[t] o.type #[a.eval x]).run P w = .ok (.tuple #[]) w := by
              rw [ex]
              cases (if (ρ id).cap ≤ lo then (ρ id).addr else ρ.at id (lo * ty.size)) <;> simp [Builtin.clear_, run_underlying hu]
            have hlk : ∀ k g, look (applyUpd [(id, some (.own ty xs))] gh) k = some g → look gh k = some g := fun k g hk => by
              simp only [applyUpd, look_cons, look_erase] at hk
              by_cases e : id = k
              · subst e; simp at hk; subst hk; exact hg
              · rw [if_neg e, if_neg e] at hk; exact hk
            refine OpOK.of_run (ρ' := ρ) (R' := R) (w' := w) (V := .tuple #[]) ?_ rfl ?_ (RepG.without hG hlk)
            · simp only [execOp, ho, resolve, Sem.run_bind, Sem.run_pure, Result.andThen_ok, invoke, builtin]
              simp only [List.map_toArray, List.map_cons, List.map_nil, hrun, Result.andThen_ok]
            · exact ⟨Nat.le_refl _, rfl, rfl, rfl, fun _ _ _ => rfl, fun _ _ => rfl, fun _ h => h, fun _ h => .inl h, fun k ⟨id2, g, hk, hkb⟩ => .inl ⟨id2, g, hlk _ _ hk, hkb⟩⟩
          · rcases f3 with ⟨q1, q2, q3⟩ | ⟨b, off, cur, T, ha, hh, hfit, hxs⟩
            · subst q2; simp at hreq; omega
            · have hRb : ¬ R b := (hG.olt id _ b hg (by simp [Gb.ownB, ha])).2
              have hml : lo * ty.size + m * ty.size ≤ xs.length * ty.size := by rw [← Nat.add_mul]; exact Nat.mul_le_mul_right _ hreq
              have hxc : xs.length * ty.size ≤ (ρ id).cap * ty.size := Nat.mul_le_mul_right _ f2
              rw [if_neg (by omega)] at ex
              have hat : ρ.at id (lo * ty.size) = some ⟨b, off + lo * ty.size, none⟩ := by simp [Env.at, ha]
              rw [hat] at ex
              obtain ⟨news, hnews⟩ : ∃ news, news = (Builtin.zeroCells zv.cells m).toList := ⟨_, rfl⟩
              have hzsz : zv.cells.size = ty.size := by rw [z2]; simp [b2]
              have hnl : news.length = m * ty.size := by rw [hnews]; simp [size_zeroCells, hzsz]
              have hnget : ∀ k q, k < m → q < ty.size → news[k * ty.size + q]? = (dens ρ z)[q]? := by
                intro k q hk hq
                have hmk : k * ty.size + ty.size ≤ m * ty.size := by rw [← Nat.succ_mul]; exact Nat.mul_le_mul_right _ hk
                rw [hnews, Array.getElem?_toList]
                unfold Builtin.zeroCells
                have e : (k * ty.size + q) % zv.cells.size = q := by rw [hzsz, Nat.add_comm, Nat.add_mul_mod_self_right, Nat.mod_eq_of_lt hq]
                rw [Array.getElem?_map, Array.getElem?_range, if_pos (by rw [hzsz]; omega), Option.map_some, e, getElem!_pos zv.cells q (by omega), List.getElem?_eq_getElem (by omega)]
                congr 1
                simp only [z2, List.getElem_toArray]
              have h1c : ∀ v ∈ news, v.oneCell' = true := by
                intro v hv
                obtain ⟨q, hq, hqv⟩ := List.getElem_of_mem hv
                have hq' : q < m * ty.size := by omega
                have hsz : 0 < ty.size := by
                  rcases Nat.eq_zero_or_pos ty.size with h0 | h0
                  · rw [h0] at hq'; simp at hq'
                  · exact h0
                have hk : q / ty.size < m := (Nat.div_lt_iff_lt_mul hsz).2 hq'
                have hmod := Nat.mod_lt q hsz
                have := hnget (q / ty.size) (q % ty.size) hk hmod
                rw [Nat.mul_comm, Nat.div_add_mod, List.getElem?_eq_getElem hq, List.getElem?_eq_getElem (by omega)] at this
                injection this with this
                rw [← hqv, this]
                exact ReadsC_one ty _ _ hyr _ (List.getElem_mem _)
              have hst := run_storeCells_at (P := P) b (off + lo * ty.size) T news 0 cur w hh (by rw [hnl]; omega) h1c
              simp only [Nat.add_zero] at hst
              obtain ⟨m', rfl⟩ : ∃ m', m = m' + 1 := ⟨m - 1, by omega⟩
              obtain ⟨W, hW⟩ : ∃ W, W = w.setRow b (cur.toList.take (off + lo * ty.size) ++ news ++ cur.toList.drop (off + lo * ty.size + news.length)).toArray := ⟨_, rfl⟩
              have hrun : (Builtin.clear_ #[t] o.type #[a.eval x]).run P w = .ok (.tuple #[]) W := by
                rw [ex, hW]
                simp [Builtin.clear_, run_underlying hu, z1, ← hnews, hst]
              have hother : ∀ k, k ≠ b → W.heap[k]? = w.heap[k]? := fun k hk => by rw [hW]; exact setRow_other w b k _ hk
              have hsp := OwnRow.splice (R := R) (w := w) (w' := W) (T := T) (xs := xs) (ys := List.replicate (m' + 1) y) (p := lo) f1 f2 ha hfit hxs (fun k hk => hother k fun e => hRb (e ▸ hk)) (by rw [hnl]; simp) (fun k u hk => by
                have hkl := (List.getElem?_eq_some_iff.1 hk).1
                simp at hkl
                rw [List.getElem?_replicate, if_pos hkl] at hk
                injection hk with hk; subst hk
                exact ⟨_, hzl, fun q hq => hnget k q hkl hq, hyr⟩) (by simpa using hreq) (by rw [hW]; exact setRow_heap w b _ _ T (0, 0) hh)
              rw [List.length_replicate] at hsp
              have hpair := RepG.upd1 (next := next) (g1 := .own ty (xs.take lo ++ List.replicate (m' + 1) y ++ xs.drop (lo + (m' + 1)))) hG hg (b := b) (by simp [Gb.ownB, ha]) (by simp [Gb.ownB, ha]) hsp hother (by rw [hW]; exact setRow_size _ _ _) (by rw [hW]; rfl) (by rw [hW]; rfl) (by rw [hW]; rfl) next
              refine OpOK.of_run (ρ' := ρ) (R' := R) (w' := W) (V := .tuple #[]) ?_ rfl hpair.2 hpair.1
              simp only [execOp, ho, resolve, Sem.run_bind, Sem.run_pure, Result.andThen_ok, invoke, builtin]
              simp only [List.map_toArray, List.map_cons, List.map_nil, hrun, Result.andThen_ok]
        · exact h.elim
    · exact h.elim
  · exact h.elim
end
end Sx
