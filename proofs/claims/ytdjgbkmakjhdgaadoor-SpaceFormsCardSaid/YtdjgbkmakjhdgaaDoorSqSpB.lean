import Derived.Test.YtdjgbkmakjhdgaaDoorSqSpA
import Derived.Test.YtdjgbkmakjhdgaaDoorSqSpL
import Derived.WalkKit
import Derived.BigCall
namespace Pl
open Go Sx Go.Proofs Go.RowKit
theorem nodeB_iff {n : Int} : nodeB n = true ↔ 0 ≤ n ∧ n < 8 := by simp [nodeB]
theorem atS_ok : PureOK Tryd.prog 15 [ints, i64] [i64] (fun _ => True) (fun x => (atS x.1 x.2.1, ())) :=
  fn_pure (E := M0) (n := 100) M0_ok Tryd.func15 sbA .nil fun x _ => by
    obtain ⟨l, p, _⟩ : List Int × Int × Unit := x
    refine Tree.all_eq (tsA l p) ?_
    show Tree.all (α := Int × Unit) _ (fun y => y = (atS l p, ()))
    simp only [all_leaf, all_fork, all_req, conjP, and_true, true_and, decide_eq_true_eq, decide_eq_false_iff_not, Bool.or_eq_true, Bool.or_eq_false_iff]
    have hm : ∀ c : ¬ p < 0, ¬ (p ≥ if 16 < (l.length : Int) then 16 else (l.length : Int)) → 0 ≤ p ∧ p < (l.length : Int) ∧ p < 16 := fun c d => by
      split at d <;> omega
    refine ⟨fun c d => ?_, fun c => ?_, fun c => ?_⟩
    · have := hm c d
      exact ⟨⟨this.1, this.2.1⟩, ⟨this.1, this.2.1⟩, fun _ => ⟨⟨this.1, this.2.1⟩, ⟨this.1, this.2.1⟩⟩⟩
    · unfold atS
      rw [if_neg]
      simp only [Bool.and_eq_true, decide_eq_true_eq, nodeB_iff]
      rintro ⟨a1, a2, a3, a4, a5⟩
      rcases c with c | c | c | c
      · omega
      · split at c <;> omega
      · omega
      · omega
    · have := hm c.1 c.2.1
      refine ⟨⟨this.1, this.2.1⟩, ⟨this.1, this.2.1⟩, ?_⟩
      unfold atS
      rw [if_pos]
      simp only [Bool.and_eq_true, decide_eq_true_eq, nodeB_iff]
      exact ⟨this.1, this.2.1, this.2.2, by omega, by omega⟩
theorem atS_range (l : List Int) (p : Int) : -1 ≤ atS l p ∧ atS l p < 8 := by
  unfold atS
  split
  · rename_i h
    simp only [Bool.and_eq_true, decide_eq_true_eq, nodeB_iff] at h
    omega
  · omega
def chS (n : Int) : UInt8 := if n = -1 then 45 else UInt8.ofNat (48 + n.toNat)
def txtL (l : List Int) : List UInt8 := (List.range 16).map fun (p : Nat) => chS (atS l (p : Int))
theorem builder_keep {T e : TypeId} {B b : Nat} {bs : List Value} {w w' : World} (h : Lib.IsBuilder T e B b bs w) (k : Below w.heap.size w w') : Lib.IsBuilder T e B b bs w' := by
  have aux : ∀ p, Lib.BuilderAt T e B b p bs w → Lib.BuilderAt T e B b p bs w' := by
    rintro p ⟨h1, v, h2, h3, h4⟩
    have hb : b < w.heap.size := (Array.getElem?_eq_some_iff.1 h2).1
    refine ⟨h1, v, by rw [k.block b hb]; exact h2, ⟨h3.1, ?_⟩, h4⟩
    rcases h3.2 with q | ⟨g, cap, cur, q1, q2, q3, q4⟩
    · exact .inl q
    · have hg : g < w.heap.size := (Array.getElem?_eq_some_iff.1 q3).1
      exact .inr ⟨g, cap, cur, q1, q2, by rw [k.block g hg]; exact q3, q4⟩
  rcases h with h | h
  · exact .inl (aux _ h)
  · exact .inr (aux _ h)
theorem chS_cell {n : Int} (h0 : 0 ≤ n) (h8 : n < 8) : Lib.byteCells [chS n] = [.int .u8 (48 + n)] := by
  have : n = 0 ∨ n = 1 ∨ n = 2 ∨ n = 3 ∨ n = 4 ∨ n = 5 ∨ n = 6 ∨ n = 7 := by omega
  rcases this with rfl | rfl | rfl | rfl | rfl | rfl | rfl | rfl <;> rfl
theorem txt_take {l : List Int} {k : Nat} (h : k < 16) : (txtL l).take (k + 1) = (txtL l).take k ++ [chS (atS l (k : Int))] := by
  have hl : k < (txtL l).length := by simp [txtL]; omega
  rw [List.take_succ_eq_append_getElem hl]
  simp [txtL]
set_option maxHeartbeats 4000000 in
set_option maxRecDepth 1000000 in
theorem text_walk (R : Nat → Prop) (w : World) (l : List Int) (v : Value) (hR : ∀ b, R b → b < w.heap.size) (hv : ReadsC R w ints l [v]) :
    Calls Tryd.prog 13 #[v] w fun e w' => e = .returned (.string ⟨(txtL l).toArray⟩) ∧ Below w.heap.size w w' := by
  go_enter Tryd.func13, Tryd.ntmps13
  go_wp2
  go_loopw [7] (fun i wr => ∃ (k : Nat), k ≤ 16 ∧ i = .int .i64 (k : Int) ∧ Lib.IsBuilder 35 5 w.heap.size w.heap.size (Lib.byteCells ((txtL l).take k)) wr ∧ Below w.heap.size w wr ∧ w.heap.size < wr.heap.size) (fun i _ => 16 - (intOf i).toNat)
  case atStart =>
    refine ⟨0, by omega, rfl, Lib.fresh_isBuilder 35 5 w, (Below.refl _ w).alloc (Nat.le_refl _) _, by simp⟩
  case round =>
    obtain ⟨k, hk, rfl, hI, hbw, hsz⟩ := hrel
    have hR' : ∀ b, R b → b < wr.heap.size := fun b hb => Nat.lt_trans (hR b hb) hsz
    have hv' : ReadsC R wr ints l [v] := ReadsC.mono (fun b hb => ⟨hb, hbw.block b (hR b hb)⟩) _ _ _ hv
    by_cases h16 : k < 16
    · go_wp2_with (go_at_call 15; refine (atS_ok R _ (l, (k : Int), ()) [v, .int .i64 (k : Int)] hR' ⟨[v], _, rfl, hv', [.int .i64 (k : Int)], _, rfl, rfl, rfl⟩ trivial).mono ?_)
      intro e W1 vs he hA b1
      have hA : ∃ cs r, vs = valT i64 cs :: r ∧ cs = [.int .i64 (atS l (k : Int))] ∧ r = [] := hA
      obtain ⟨cs, r, hvs, hcs, hr⟩ := hA
      subst hcs; subst hr; subst hvs
      have he : e = .returned (.int .i64 (atS l (k : Int))) := he
      subst he
      have hI1 := builder_keep hI b1
      have hbw1 : Below w.heap.size w W1 := hbw.trans (b1.mono (by omega))
      have hsz1 : w.heap.size < W1.heap.size := Nat.lt_of_lt_of_le hsz b1.size
      have hrg := atS_range l (k : Int)
      have htk := txt_take (l := l) h16
      have hlen : (Lib.byteCells ((txtL l).take k)).length + 1 ≤ 140737488355328 := by rw [Lib.byteCells_length, List.length_take]; omega
      by_cases hn : atS l (k : Int) = -1
      · go_wp2_with (go_at_call 21; refine (Tryd.Builder_WriteByte w.heap.size w.heap.size _ _ _ hI1 hlen (by omega)).mono ?_)
        rintro e W2 ⟨rfl, h1, b2⟩
        go_wp2
        go_roundw
        case rel =>
          refine ⟨k + 1, by omega, by simp, ?_, hbw1.trans b2, Nat.lt_of_lt_of_le hsz1 b2.size⟩
          rw [htk, Lib.byteCells_append, hn]; exact Or.inr h1
        case measure => simp [intOf]; omega
      · go_wp2_with (go_at_call 21; refine (Tryd.Builder_WriteByte w.heap.size w.heap.size _ _ _ hI1 hlen (by omega)).mono ?_)
        rintro e W2 ⟨rfl, h1, b2⟩
        go_wp2
        go_roundw
        case rel =>
          refine ⟨k + 1, by omega, by simp, ?_, hbw1.trans b2, Nat.lt_of_lt_of_le hsz1 b2.size⟩
          rw [htk, Lib.byteCells_append, chS_cell (by omega) (by omega)]; exact Or.inr h1
        case measure => simp [intOf]; omega
    · have hk16 : k = 16 := by omega
      subst hk16
      go_wp2_with (go_at_call 22; refine (Tryd.Builder_String_any w.heap.size w.heap.size _ _ hI (by omega)).mono ?_)
      rintro e W1 ⟨rfl, b1⟩
      go_wp2
      go_ret
      rw [List.take_of_length_le (by simp [txtL])]
      exact ⟨rfl, hbw.trans b1⟩
def txtB (l : List Int) : ByteArray := ⟨(txtL l).toArray⟩
theorem text_ok : PureOK Tryd.prog 13 [ints] [.str] (fun _ => True) (fun x => (txtB x.1, ())) := by
  rintro R w ⟨xs, u⟩ args hR ⟨cs, r, e, hrd, er⟩ _
  have hrd' := hrd
  obtain ⟨A, cap, rfl, _⟩ := hrd'
  have er : r = [] := er
  subst er; subst e
  refine (text_walk R w xs _ hR hrd).mono ?_
  rintro e w' ⟨he, hb⟩
  exact ⟨[.string ⟨(txtL xs).toArray⟩], he, ⟨[.string ⟨(txtL xs).toArray⟩], [], rfl, rfl, rfl⟩, hb⟩
end Pl
