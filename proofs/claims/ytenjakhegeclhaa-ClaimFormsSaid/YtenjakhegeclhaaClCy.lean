import Derived.Test.YtenjakhegeclhaaClCx2
import Derived.Test.YtenjakhegeclhaaClCq3
namespace Pl
open Go Sx Go.Proofs Go.RowKit
theorem peers_ok : PureOK Try.prog 14 [ints, i64] [ints] (fun x => (List.length (α := Int) x.1 : Int) < big ∧ x.2.1 = -1) (fun x => (memL x.1, ())) :=
  fn_pure (E := X0) (n := 100) X0_ok Try.func14 bodyPe (LpsOK.cons lPe (.cons (viaP_ok lPf) .nil)) fun x h => by
    obtain ⟨l, s, _⟩ : List Int × Int × Unit := x
    obtain ⟨h1, h2⟩ := h
    simp only at h1 h2
    subst h2
    exact peers_t l h1
abbrev KPe : Nat × Sx.Spec := (14, pureSp [ints, i64] [ints] (fun x => (List.length (α := Int) x.1 : Int) < big ∧ x.2.1 = -1) (fun x => (memL x.1, ())))
noncomputable abbrev X2 : Ex := mkExM Try.prog [KPe, KR7]
theorem X2_ok : X2.Sound := mkExM_sound ⟨pureSp_ok peers_ok, pureSp_ok r7_ok, trivial⟩
theorem body7Q : Try.f16.body = some (bodyOf Try.f16) := by kernel_rfl
theorem body7A : Try.f18.body = some (bodyOf Try.f18) := by kernel_rfl
def K7 : Bool → Int
  | true => 0
  | false => 1
def q7 (now : List Int) (e : Int) (b : Bool) : List Int → Int → List Int → Int → List Int × Int
  | [], _, out, more => (out, more)
  | m :: r, i, out, more => if decide (more > 0) && (decide (hasL now m > e) == b) then q7 now e b r (i + 1) ((bif b then out.set i.toNat e else out).set i.toNat ((bif b then out.set i.toNat e else out).getD i.toNat 0 + 1)) (more - 1) else q7 now e b r (i + 1) (bif b then out.set i.toNat e else out) more
structure AQa where
  now : List Int
  out : List Int
  m : List Int
  more : Int
  e : Int
  i : Int
def LQa (b : Bool) : LoopC AQa where
  n0 := 4
  det st := match rowS st 0 i64, rowS st 8 i64, rowS st 31 i64, intS st 7, intS st 6, intS st 33 with | some now, some l0, some l1, some n2, some n3, some i4 => some ⟨now, l0, l1, n2, n3, i4⟩ | _, _, _, _, _, _ => none
  inv a := ⟨[(33, iv a.i), (32, iv (↑a.m.length : Int)), (31, .one (.row 2)), (9, .one (.cint .i64 (K7 b))), (28, .one (.cint .i64 (K7 b))), (8, .one (.row 3)), (7, iv a.more), (6, iv a.e), (5, .one (.row 2)), (0, .one (.row 0))],
    [(3, .own i64 a.out), (2, .ro i64 a.m), (0, .ro i64 a.now)], 4⟩
  ok a := a.out.length = a.m.length ∧ a.m.length ≤ 8 ∧ 0 ≤ a.i ∧ a.i ≤ a.m.length ∧ 0 ≤ a.e ∧ a.e + a.more ≤ 40 ∧ okQ a.out a.more
  mu a := a.m.length - a.i.toNat
  fin a := .leaf ⟨4, ⟨[(28, .one (.cint .i64 (K7 b))), (8, .one (.row 3)), (7, iv (q7 a.now a.e b (a.m.drop a.i.toNat) a.i a.out a.more).2), (6, iv a.e), (5, .one (.row 2)), (0, .one (.row 0))],
    [(3, .own i64 (q7 a.now a.e b (a.m.drop a.i.toNat) a.i a.out a.more).1), (2, .ro i64 a.m), (0, .ro i64 a.now)], 4⟩⟩
structure AQb where
  now : List Int
  out : List Int
  m : List Int
  more : Int
  e : Int
  i : Int
  n0 : Int
  i1 : Int
  i2 : Int
def LQb (b : Bool) : LoopC AQb where
  n0 := 4
  det st := match rowS st 0 i64, rowS st 8 i64, rowS st 31 i64, intS st 7, intS st 6, intS st 10, intS st 11, intS st 38, intS st 12 with | some now, some out, some m, some more, some e, some i, some n0, some i1, some i2 => some ⟨now, out, m, more, e, i, n0, i1, i2⟩ | _, _, _, _, _, _, _, _, _ => none
  inv a := ⟨[(38, iv a.i1), (12, iv a.i2), (11, iv a.n0), (10, iv a.i), (33, iv a.i), (32, iv (↑a.m.length : Int)), (31, .one (.row 2)), (9, .one (.cint .i64 (K7 b))), (28, .one (.cint .i64 (K7 b))), (8, .one (.row 3)), (7, iv a.more), (6, iv a.e), (5, .one (.row 2)), (0, .one (.row 0))],
    [(3, .own i64 a.out), (2, .ro i64 a.m), (0, .ro i64 a.now)], 4⟩
  ok a := 0 ≤ a.i1 ∧ a.i1 ≤ 16 ∧ 0 ≤ a.i2 ∧ a.i2 ≤ a.i1
  mu a := 16 - a.i1.toNat
  fin a := .leaf ⟨6, ⟨[(12, iv (a.i2 + cntB (fun p => atL a.now (p : Int) == a.n0) (16 - a.i1.toNat) a.i1.toNat)), (10, iv a.i), (33, iv a.i), (32, iv (↑a.m.length : Int)), (31, .one (.row 2)), (9, .one (.cint .i64 (K7 b))), (28, .one (.cint .i64 (K7 b))), (8, .one (.row 3)), (7, iv a.more), (6, iv a.e), (5, .one (.row 2)), (0, .one (.row 0))], [(3, .own i64 a.out), (2, .ro i64 a.m), (0, .ro i64 a.now)], 4⟩⟩
noncomputable def spQb : St → Tree Out := fun st => match Sx.look st.slots 28 with | some (.one (.cint _ n)) => (if n = 0 then (LQb true).sp st else (LQb false).sp st) | _ => .fail "round"
noncomputable def spQa : St → Tree Out := fun st => match Sx.look st.slots 28 with | some (.one (.cint _ n)) => (if n = 0 then (LQa true).sp st else (LQa false).sp st) | _ => .fail "round"
theorem rQbt (now out m : List Int) (more e i n0 i1 i2 : Int) : @Eq _
  ((LQb true).round X2 [] 100 Try.f16 2 ⟨now, out, m, more, e, i, n0, i1, i2⟩)
  (.fork (decide (i1 < (16 : Int))) (
 .req ((0 : Int) ≤ i1) (
  .fork (Pl.atL now i1 == n0) (
   .req (IntKind.i64.wrap (i1 + (1 : Int)) = IntKind.i64.wrap (i1 + (1 : Int)) ∧ IntKind.i64.wrap (i2 + (1 : Int)) = IntKind.i64.wrap (i2 + (1 : Int)) ∧ n0 = n0 ∧ i = i ∧ i = i ∧ (↑m.length : Int) = (↑m.length : Int) ∧ more = more ∧ e = e ∧ out = out ∧ m = m ∧ now = now) (
    .leaf (Option.some { now := now, out := out, m := m, more := more, e := e, i := i, n0 := n0, i1 := IntKind.i64.wrap (i1 + (1 : Int)), i2 := IntKind.i64.wrap (i2 + (1 : Int)) }))) (
   .req (IntKind.i64.wrap (i1 + (1 : Int)) = IntKind.i64.wrap (i1 + (1 : Int)) ∧ i2 = i2 ∧ n0 = n0 ∧ i = i ∧ i = i ∧ (↑m.length : Int) = (↑m.length : Int) ∧ more = more ∧ e = e ∧ out = out ∧ m = m ∧ now = now) (
    .leaf (Option.some { now := now, out := out, m := m, more := more, e := e, i := i, n0 := n0, i1 := IntKind.i64.wrap (i1 + (1 : Int)), i2 := i2 }))))) (
 .req (i2 = i2 + cntB (fun p => Pl.atL now (↑p : Int) == n0) (16 - i1.toNat) i1.toNat ∧ i = i ∧ i = i ∧ (↑m.length : Int) = (↑m.length : Int) ∧ more = more ∧ e = e ∧ out = out ∧ m = m ∧ now = now) (
  .leaf (Option.none))) : Tree (Option Pl.AQb)) := by kernel_rfl
theorem rQbf (now out m : List Int) (more e i n0 i1 i2 : Int) : @Eq _
  ((LQb false).round X2 [] 100 Try.f16 2 ⟨now, out, m, more, e, i, n0, i1, i2⟩)
  (.fork (decide (i1 < (16 : Int))) (
 .req ((0 : Int) ≤ i1) (
  .fork (Pl.atL now i1 == n0) (
   .req (IntKind.i64.wrap (i1 + (1 : Int)) = IntKind.i64.wrap (i1 + (1 : Int)) ∧ IntKind.i64.wrap (i2 + (1 : Int)) = IntKind.i64.wrap (i2 + (1 : Int)) ∧ n0 = n0 ∧ i = i ∧ i = i ∧ (↑m.length : Int) = (↑m.length : Int) ∧ more = more ∧ e = e ∧ out = out ∧ m = m ∧ now = now) (
    .leaf (Option.some { now := now, out := out, m := m, more := more, e := e, i := i, n0 := n0, i1 := IntKind.i64.wrap (i1 + (1 : Int)), i2 := IntKind.i64.wrap (i2 + (1 : Int)) }))) (
   .req (IntKind.i64.wrap (i1 + (1 : Int)) = IntKind.i64.wrap (i1 + (1 : Int)) ∧ i2 = i2 ∧ n0 = n0 ∧ i = i ∧ i = i ∧ (↑m.length : Int) = (↑m.length : Int) ∧ more = more ∧ e = e ∧ out = out ∧ m = m ∧ now = now) (
    .leaf (Option.some { now := now, out := out, m := m, more := more, e := e, i := i, n0 := n0, i1 := IntKind.i64.wrap (i1 + (1 : Int)), i2 := i2 }))))) (
 .req (i2 = i2 + cntB (fun p => Pl.atL now (↑p : Int) == n0) (16 - i1.toNat) i1.toNat ∧ i = i ∧ i = i ∧ (↑m.length : Int) = (↑m.length : Int) ∧ more = more ∧ e = e ∧ out = out ∧ m = m ∧ now = now) (
  .leaf (Option.none))) : Tree (Option Pl.AQb)) := by kernel_rfl
theorem rQat (now out m : List Int) (more e i : Int) : @Eq _
  ((LQa true).round X2 [(2, spQb)] 100 Try.f16 1 ⟨now, out, m, more, e, i⟩)
  (.fork (decide (i < (↑m.length : Int))) (
 .req ((0 : Int) ≤ i ∧ i < (↑m.length : Int)) (
  .req ((0 : Int) ≤ i ∧ i < (↑m.length : Int)) (
   .req ((0 : Int) ≤ (0 : Int) ∧ (0 : Int) ≤ (16 : Int) ∧ (0 : Int) ≤ (0 : Int) ∧ (0 : Int) ≤ (0 : Int)) (
    .req ((0 : Int) = (0 : Int) ∧ (0 : Int) = (0 : Int) ∧ m.getD i.toNat (0 : Int) = m.getD i.toNat (0 : Int) ∧ i = i ∧ i = i ∧ (↑m.length : Int) = (↑m.length : Int) ∧ more = more ∧ e = e ∧ out = out ∧ m = m ∧ now = now) (
     .req ((0 : Int) ≤ i ∧ i < (↑out.length : Int)) (
      .req ((0 : Int) ≤ i ∧ i < (↑out.length : Int)) (
       .req (True) (
        .fork (decide (more > (0 : Int)) && decide ((0 : Int) + cntB (fun p => Pl.atL now (↑p : Int) == m.getD i.toNat (0 : Int)) 16 0 > e) == true) (
         .req ((0 : Int) ≤ i ∧ i < (↑(out.set i.toNat e).length : Int)) (
          .req ((0 : Int) ≤ i ∧ i < (↑(out.set i.toNat e).length : Int)) (
           .req ((0 : Int) ≤ i ∧ i < (↑(out.set i.toNat e).length : Int)) (
            .req ((0 : Int) ≤ i ∧ i < (↑(out.set i.toNat e).length : Int)) (
             .req (IntKind.i64.wrap (i + (1 : Int)) = IntKind.i64.wrap (i + (1 : Int)) ∧ (↑m.length : Int) = (↑m.length : Int) ∧ IntKind.i64.wrap (more - (1 : Int)) = IntKind.i64.wrap (more - (1 : Int)) ∧ e = e ∧ (out.set i.toNat e).set i.toNat (IntKind.i64.wrap ((out.set i.toNat e).getD i.toNat (0 : Int) + (1 : Int))) = (out.set i.toNat e).set i.toNat (IntKind.i64.wrap ((out.set i.toNat e).getD i.toNat (0 : Int) + (1 : Int))) ∧ m = m ∧ now = now) (
              .leaf (Option.some { now := now, out := (out.set i.toNat e).set i.toNat (IntKind.i64.wrap ((out.set i.toNat e).getD i.toNat (0 : Int) + (1 : Int))), m := m, more := IntKind.i64.wrap (more - (1 : Int)), e := e, i := IntKind.i64.wrap (i + (1 : Int)) }))))))) (
         .req (IntKind.i64.wrap (i + (1 : Int)) = IntKind.i64.wrap (i + (1 : Int)) ∧ (↑m.length : Int) = (↑m.length : Int) ∧ more = more ∧ e = e ∧ out.set i.toNat e = out.set i.toNat e ∧ m = m ∧ now = now) (
          .leaf (Option.some { now := now, out := out.set i.toNat e, m := m, more := more, e := e, i := IntKind.i64.wrap (i + (1 : Int)) }))))))))))) (
 .req (more = (Pl.q7 now e true (List.drop i.toNat m) i out more).2 ∧ e = e ∧ out = (Pl.q7 now e true (List.drop i.toNat m) i out more).1 ∧ m = m ∧ now = now) (
  .leaf (Option.none))) : Tree (Option Pl.AQa)) := by kernel_rfl
theorem rQaf (now out m : List Int) (more e i : Int) : @Eq _
  ((LQa false).round X2 [(2, spQb)] 100 Try.f16 1 ⟨now, out, m, more, e, i⟩)
  (.fork (decide (i < (↑m.length : Int))) (
 .req ((0 : Int) ≤ i ∧ i < (↑m.length : Int)) (
  .req ((0 : Int) ≤ i ∧ i < (↑m.length : Int)) (
   .req ((0 : Int) ≤ (0 : Int) ∧ (0 : Int) ≤ (16 : Int) ∧ (0 : Int) ≤ (0 : Int) ∧ (0 : Int) ≤ (0 : Int)) (
    .req ((0 : Int) = (0 : Int) ∧ (0 : Int) = (0 : Int) ∧ m.getD i.toNat (0 : Int) = m.getD i.toNat (0 : Int) ∧ i = i ∧ i = i ∧ (↑m.length : Int) = (↑m.length : Int) ∧ more = more ∧ e = e ∧ out = out ∧ m = m ∧ now = now) (
     .req (True) (
      .fork (decide (more > (0 : Int)) && decide ((0 : Int) + cntB (fun p => Pl.atL now (↑p : Int) == m.getD i.toNat (0 : Int)) 16 0 > e) == false) (
       .req ((0 : Int) ≤ i ∧ i < (↑out.length : Int)) (
        .req ((0 : Int) ≤ i ∧ i < (↑out.length : Int)) (
         .req ((0 : Int) ≤ i ∧ i < (↑out.length : Int)) (
          .req ((0 : Int) ≤ i ∧ i < (↑out.length : Int)) (
           .req (IntKind.i64.wrap (i + (1 : Int)) = IntKind.i64.wrap (i + (1 : Int)) ∧ (↑m.length : Int) = (↑m.length : Int) ∧ IntKind.i64.wrap (more - (1 : Int)) = IntKind.i64.wrap (more - (1 : Int)) ∧ e = e ∧ out.set i.toNat (IntKind.i64.wrap (out.getD i.toNat (0 : Int) + (1 : Int))) = out.set i.toNat (IntKind.i64.wrap (out.getD i.toNat (0 : Int) + (1 : Int))) ∧ m = m ∧ now = now) (
            .leaf (Option.some { now := now, out := out.set i.toNat (IntKind.i64.wrap (out.getD i.toNat (0 : Int) + (1 : Int))), m := m, more := IntKind.i64.wrap (more - (1 : Int)), e := e, i := IntKind.i64.wrap (i + (1 : Int)) }))))))) (
       .req (IntKind.i64.wrap (i + (1 : Int)) = IntKind.i64.wrap (i + (1 : Int)) ∧ (↑m.length : Int) = (↑m.length : Int) ∧ more = more ∧ e = e ∧ out = out ∧ m = m ∧ now = now) (
        .leaf (Option.some { now := now, out := out, m := m, more := more, e := e, i := IntKind.i64.wrap (i + (1 : Int)) }))))))))) (
 .req (more = (Pl.q7 now e false (List.drop i.toNat m) i out more).2 ∧ e = e ∧ out = (Pl.q7 now e false (List.drop i.toNat m) i out more).1 ∧ m = m ∧ now = now) (
  .leaf (Option.none))) : Tree (Option Pl.AQa)) := by kernel_rfl
theorem t7Q (now ms : List Int) : @Eq _
  (fnO X2 [(1, spQa)] 100 Try.f16 [ints, ints] [ints] (now, ms, ()))
  (.req ((↑ms.length : Int) < (4611686018427387904 : Int) ∧ (-1 : Int) = (-1 : Int)) (
 .fork ((↑(Pl.memL ms).length : Int) == (0 : Int)) (
  .leaf ((([] : List Int), ()))) (
  .req ((↑(Pl.memL ms).length : Int) ≠ (0 : Int)) (
   .req ((↑(Pl.memL ms).length : Int) ≠ (0 : Int)) (
    .req ((0 : Int) ≤ (↑(Pl.memL ms).length : Int) ∧ (↑(Pl.memL ms).length : Int) ≤ (↑(Pl.memL ms).length : Int) ∧ (8 : Int) * (↑(Pl.memL ms).length : Int) ≤ (140737488355328 : Int) ∧ (↑(Pl.memL ms).length : Int) ≤ (140737488355328 : Int)) (
     .req ((List.replicate (↑(Pl.memL ms).length : Int).toNat (0 : Int)).length = (Pl.memL ms).length ∧ (Pl.memL ms).length ≤ 8 ∧ (0 : Int) ≤ (0 : Int) ∧ (0 : Int) ≤ (↑(Pl.memL ms).length : Int) ∧ (0 : Int) ≤ IntKind.i64.wrap (Int.tdiv (16 : Int) (↑(Pl.memL ms).length : Int)) ∧ IntKind.i64.wrap (Int.tdiv (16 : Int) (↑(Pl.memL ms).length : Int)) + Int.tmod (16 : Int) (↑(Pl.memL ms).length : Int) ≤ (40 : Int) ∧ (0 : Int) ≤ Int.tmod (16 : Int) (↑(Pl.memL ms).length : Int) ∧ ∀ (x : Int), x ∈ List.replicate (↑(Pl.memL ms).length : Int).toNat (0 : Int) → (0 : Int) ≤ x ∧ x + Int.tmod (16 : Int) (↑(Pl.memL ms).length : Int) ≤ (40 : Int)) (
      .req ((0 : Int) = (0 : Int) ∧ (↑(Pl.memL ms).length : Int) = (↑(Pl.memL ms).length : Int) ∧ Int.tmod (16 : Int) (↑(Pl.memL ms).length : Int) = Int.tmod (16 : Int) (↑(Pl.memL ms).length : Int) ∧ IntKind.i64.wrap (Int.tdiv (16 : Int) (↑(Pl.memL ms).length : Int)) = IntKind.i64.wrap (Int.tdiv (16 : Int) (↑(Pl.memL ms).length : Int)) ∧ List.replicate (↑(Pl.memL ms).length : Int).toNat (0 : Int) = List.replicate (↑(Pl.memL ms).length : Int).toNat (0 : Int) ∧ Pl.memL ms = Pl.memL ms ∧ now = now) (
       .req ((Pl.q7 now (IntKind.i64.wrap (Int.tdiv (16 : Int) (↑(Pl.memL ms).length : Int))) true (List.drop 0 (Pl.memL ms)) (0 : Int) (List.replicate (↑(Pl.memL ms).length : Int).toNat (0 : Int)) (Int.tmod (16 : Int) (↑(Pl.memL ms).length : Int))).1.length = (Pl.memL ms).length ∧ (Pl.memL ms).length ≤ 8 ∧ (0 : Int) ≤ (0 : Int) ∧ (0 : Int) ≤ (↑(Pl.memL ms).length : Int) ∧ (0 : Int) ≤ IntKind.i64.wrap (Int.tdiv (16 : Int) (↑(Pl.memL ms).length : Int)) ∧ IntKind.i64.wrap (Int.tdiv (16 : Int) (↑(Pl.memL ms).length : Int)) + (Pl.q7 now (IntKind.i64.wrap (Int.tdiv (16 : Int) (↑(Pl.memL ms).length : Int))) true (List.drop 0 (Pl.memL ms)) (0 : Int) (List.replicate (↑(Pl.memL ms).length : Int).toNat (0 : Int)) (Int.tmod (16 : Int) (↑(Pl.memL ms).length : Int))).2 ≤ (40 : Int) ∧ (0 : Int) ≤ (Pl.q7 now (IntKind.i64.wrap (Int.tdiv (16 : Int) (↑(Pl.memL ms).length : Int))) true (List.drop 0 (Pl.memL ms)) (0 : Int) (List.replicate (↑(Pl.memL ms).length : Int).toNat (0 : Int)) (Int.tmod (16 : Int) (↑(Pl.memL ms).length : Int))).2 ∧ ∀ (x : Int), x ∈ (Pl.q7 now (IntKind.i64.wrap (Int.tdiv (16 : Int) (↑(Pl.memL ms).length : Int))) true (List.drop 0 (Pl.memL ms)) (0 : Int) (List.replicate (↑(Pl.memL ms).length : Int).toNat (0 : Int)) (Int.tmod (16 : Int) (↑(Pl.memL ms).length : Int))).1 → (0 : Int) ≤ x ∧ x + (Pl.q7 now (IntKind.i64.wrap (Int.tdiv (16 : Int) (↑(Pl.memL ms).length : Int))) true (List.drop 0 (Pl.memL ms)) (0 : Int) (List.replicate (↑(Pl.memL ms).length : Int).toNat (0 : Int)) (Int.tmod (16 : Int) (↑(Pl.memL ms).length : Int))).2 ≤ (40 : Int)) (
        .req ((0 : Int) = (0 : Int) ∧ (↑(Pl.memL ms).length : Int) = (↑(Pl.memL ms).length : Int) ∧ (Pl.q7 now (IntKind.i64.wrap (Int.tdiv (16 : Int) (↑(Pl.memL ms).length : Int))) true (List.drop 0 (Pl.memL ms)) (0 : Int) (List.replicate (↑(Pl.memL ms).length : Int).toNat (0 : Int)) (Int.tmod (16 : Int) (↑(Pl.memL ms).length : Int))).2 = (Pl.q7 now (IntKind.i64.wrap (Int.tdiv (16 : Int) (↑(Pl.memL ms).length : Int))) true (List.drop 0 (Pl.memL ms)) (0 : Int) (List.replicate (↑(Pl.memL ms).length : Int).toNat (0 : Int)) (Int.tmod (16 : Int) (↑(Pl.memL ms).length : Int))).2 ∧ IntKind.i64.wrap (Int.tdiv (16 : Int) (↑(Pl.memL ms).length : Int)) = IntKind.i64.wrap (Int.tdiv (16 : Int) (↑(Pl.memL ms).length : Int)) ∧ (Pl.q7 now (IntKind.i64.wrap (Int.tdiv (16 : Int) (↑(Pl.memL ms).length : Int))) true (List.drop 0 (Pl.memL ms)) (0 : Int) (List.replicate (↑(Pl.memL ms).length : Int).toNat (0 : Int)) (Int.tmod (16 : Int) (↑(Pl.memL ms).length : Int))).1 = (Pl.q7 now (IntKind.i64.wrap (Int.tdiv (16 : Int) (↑(Pl.memL ms).length : Int))) true (List.drop 0 (Pl.memL ms)) (0 : Int) (List.replicate (↑(Pl.memL ms).length : Int).toNat (0 : Int)) (Int.tmod (16 : Int) (↑(Pl.memL ms).length : Int))).1 ∧ Pl.memL ms = Pl.memL ms ∧ now = now) (
         .leaf (((Pl.q7 now (IntKind.i64.wrap (Int.tdiv (16 : Int) (↑(Pl.memL ms).length : Int))) false (List.drop 0 (Pl.memL ms)) (0 : Int) (Pl.q7 now (IntKind.i64.wrap (Int.tdiv (16 : Int) (↑(Pl.memL ms).length : Int))) true (List.drop 0 (Pl.memL ms)) (0 : Int) (List.replicate (↑(Pl.memL ms).length : Int).toNat (0 : Int)) (Int.tmod (16 : Int) (↑(Pl.memL ms).length : Int))).1 (Pl.q7 now (IntKind.i64.wrap (Int.tdiv (16 : Int) (↑(Pl.memL ms).length : Int))) true (List.drop 0 (Pl.memL ms)) (0 : Int) (List.replicate (↑(Pl.memL ms).length : Int).toNat (0 : Int)) (Int.tmod (16 : Int) (↑(Pl.memL ms).length : Int))).2).1, ()))))))))))) : Tree (List Int × PUnit)) := by kernel_rfl
end Pl
