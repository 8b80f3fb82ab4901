import Derived.Test.YtdjgbkmakjhdgaaSpCa3
import Derived.Test.YtdjgbkmakjhdgaaSpSpE
import Derived.Test.YtdjgbkmakjhdgaaSx28
namespace Pl
open Go Sx Go.Proofs Go.RowKit
abbrev KAt : Nat × Sx.Spec := (24, pureSp [ints, i64] [i64] (fun x => 0 ≤ x.2.1) (fun x => (atL x.1 x.2.1, ())))
abbrev KCt : Nat × Sx.Spec := (20, pureSp [ints, i64] [.bool] (fun x => (List.length (α := Int) x.1 : Int) < big) (fun x => (List.contains (α := Int) x.1 x.2.1, ())))
abbrev KHas : Nat × Sx.Spec := (29, pureSp [ints, i64] [i64] (fun _ => True) (fun x => (hasL x.1 x.2.1, ())))
abbrev KMe : Nat × Sx.Spec := (15, pureSp [ints] [ints] (fun x => (List.length (α := Int) x.1 : Int) < big) (fun x => (memL x.1, ())))
noncomputable abbrev KRp : Nat × Sx.Spec := (28, repSp)
theorem bodyQ : Try.f16.body = some (bodyOf Try.f16) := by kernel_rfl
noncomputable abbrev C2 : Ex := mkExM Try.prog [KHas, KMe, KRp]
theorem C2_ok : C2.Sound := mkExM_sound ⟨pureSp_ok has_ok, pureSp_ok mem_ok, repSp_ok, trivial⟩
def NQ : Bool → Nat
  | true => 30
  | false => 40
def KQ : Bool → Int
  | true => 0
  | false => 1
def qLoop (now : List Int) (each : Int) (rich : Bool) : List Int → Int → List Int → Int → List Int × Int
  | [], _, out, more => (out, more)
  | m :: r, i, out, more => if decide (more > 0) && (decide (hasL now m > each) == rich) then qLoop now each rich r (i + 1) (out.set i.toNat (out.getD i.toNat 0 + 1)) (more - 1) else qLoop now each rich r (i + 1) out more
structure AQ where
  now : List Int
  l0 : List Int
  l1 : List Int
  n2 : Int
  n3 : Int
  i4 : Int
  i5 : Int
def LQ (b : Bool) : LoopC AQ where
  n0 := NQ b + 1
  det st := match rowS st 0 i64, rowS st 8 i64, rowS st 35 i64, intS st 7, intS st 6, intS st 36, intS st 37 with | some now, some l0, some l1, some n2, some n3, some i4, some i5 => some ⟨now, l0, l1, n2, n3, i4, i5⟩ | _, _, _, _, _, _, _ => none
  inv a := ⟨[(8, .one (.row (NQ b))), (37, iv a.i5), (36, iv a.i4), (35, .one (.row 2)), (10, .one (.cbool b)), (31, .one (.cint .i64 (KQ b))), (30, .one (.cint IntKind.i64 (2 : Int))), (29, .one (.sub 5 0 2 2)), (7, iv a.n2), (6, iv a.n3), (5, .one (.row 2)), (0, .one (.row 0))],
    [(NQ b, .own i64 a.l0), (5, .blk [SV.cbool true, SV.cbool false]), (2, .ro i64 a.l1), (0, .ro i64 a.now)], NQ b + 1⟩
  ok a := a.i4 = a.l1.length ∧ a.l0.length = a.l1.length ∧ 0 ≤ a.i5 ∧ a.i5 ≤ a.i4 ∧ a.l1.length ≤ 8 ∧ 0 ≤ a.n2 ∧ ∀ x ∈ a.l0, 0 ≤ x ∧ x + a.n2 ≤ 40
  mu a := a.l1.length - a.i5.toNat
  fin a := .leaf ⟨4, ⟨[(8, .one (.row (NQ b))), (31, .one (.cint .i64 (KQ b))), (30, .one (.cint .i64 (2 : Int))), (29, .one (.sub 5 0 2 2)), (7, iv (qLoop a.now a.n3 b (a.l1.drop a.i5.toNat) a.i5 a.l0 a.n2).2), (6, iv a.n3), (5, .one (.row 2)), (0, .one (.row 0))],
    [(NQ b, .own i64 (qLoop a.now a.n3 b (a.l1.drop a.i5.toNat) a.i5 a.l0 a.n2).1), (5, .blk [SV.cbool true, SV.cbool false]), (2, .ro i64 a.l1), (0, .ro i64 a.now)], NQ b + 1⟩⟩
noncomputable def spQ : St → Tree Out := fun st => match Sx.look st.slots 10 with | some (.one (.cbool true)) => viaN 30 [(8, i64)] (LQ true).sp st | some (.one (.cbool false)) => viaN 40 [(8, i64)] (LQ false).sp st | _ => .fail "rich"
theorem rQt (now l0 l1 : List Int) (n2 n3 i4 i5 : Int) : @Eq _
  ((LQ true).round C2 [] 100 Try.f16 1 ⟨now, l0, l1, n2, n3, i4, i5⟩)
  (.fork (decide (i5 < i4)) (
 .req ((0 : Int) ≤ i5 ∧ i5 < (↑l1.length : Int)) (
  .req ((0 : Int) ≤ i5 ∧ i5 < (↑l1.length : Int)) (
   .req (decide (n2 > (0 : Int)) = true → conjP [True]) (
    .fork (decide (n2 > (0 : Int)) && decide (Pl.hasL now (l1.getD i5.toNat (0 : Int)) > n3) == true) (
     .req ((0 : Int) ≤ i5 ∧ i5 < (↑l0.length : Int)) (
      .req ((0 : Int) ≤ i5 ∧ i5 < (↑l0.length : Int)) (
       .req ((0 : Int) ≤ i5 ∧ i5 < (↑l0.length : Int)) (
        .req ((0 : Int) ≤ i5 ∧ i5 < (↑l0.length : Int)) (
         .req (IntKind.i64.wrap (i5 + (1 : Int)) = IntKind.i64.wrap (i5 + (1 : Int)) ∧ i4 = i4 ∧ 0 = 0 ∧ 2 = 2 ∧ 2 = 2 ∧ IntKind.i64.wrap (n2 - (1 : Int)) = IntKind.i64.wrap (n2 - (1 : Int)) ∧ n3 = n3 ∧ l0.set i5.toNat (IntKind.i64.wrap (l0.getD i5.toNat (0 : Int) + (1 : Int))) = l0.set i5.toNat (IntKind.i64.wrap (l0.getD i5.toNat (0 : Int) + (1 : Int))) ∧ l1 = l1 ∧ now = now) (
          .leaf (Option.some { now := now, l0 := l0.set i5.toNat (IntKind.i64.wrap (l0.getD i5.toNat (0 : Int) + (1 : Int))), l1 := l1, n2 := IntKind.i64.wrap (n2 - (1 : Int)), n3 := n3, i4 := i4, i5 := IntKind.i64.wrap (i5 + (1 : Int)) }))))))) (
     .req (IntKind.i64.wrap (i5 + (1 : Int)) = IntKind.i64.wrap (i5 + (1 : Int)) ∧ i4 = i4 ∧ 0 = 0 ∧ 2 = 2 ∧ 2 = 2 ∧ n2 = n2 ∧ n3 = n3 ∧ l0 = l0 ∧ l1 = l1 ∧ now = now) (
      .leaf (Option.some { now := now, l0 := l0, l1 := l1, n2 := n2, n3 := n3, i4 := i4, i5 := IntKind.i64.wrap (i5 + (1 : Int)) }))))))) (
 .req (0 = 0 ∧ 2 = 2 ∧ 2 = 2 ∧ n2 = (Pl.qLoop now n3 true (List.drop i5.toNat l1) i5 l0 n2).2 ∧ n3 = n3 ∧ l0 = (Pl.qLoop now n3 true (List.drop i5.toNat l1) i5 l0 n2).1 ∧ l1 = l1 ∧ now = now) (
  .leaf (Option.none))) : Tree (Option Pl.AQ)) := by kernel_rfl
theorem rQf (now l0 l1 : List Int) (n2 n3 i4 i5 : Int) : @Eq _
  ((LQ false).round C2 [] 100 Try.f16 1 ⟨now, l0, l1, n2, n3, i4, i5⟩)
  (.fork (decide (i5 < i4)) (
 .req ((0 : Int) ≤ i5 ∧ i5 < (↑l1.length : Int)) (
  .req ((0 : Int) ≤ i5 ∧ i5 < (↑l1.length : Int)) (
   .req (decide (n2 > (0 : Int)) = true → conjP [True]) (
    .fork (decide (n2 > (0 : Int)) && decide (Pl.hasL now (l1.getD i5.toNat (0 : Int)) > n3) == false) (
     .req ((0 : Int) ≤ i5 ∧ i5 < (↑l0.length : Int)) (
      .req ((0 : Int) ≤ i5 ∧ i5 < (↑l0.length : Int)) (
       .req ((0 : Int) ≤ i5 ∧ i5 < (↑l0.length : Int)) (
        .req ((0 : Int) ≤ i5 ∧ i5 < (↑l0.length : Int)) (
         .req (IntKind.i64.wrap (i5 + (1 : Int)) = IntKind.i64.wrap (i5 + (1 : Int)) ∧ i4 = i4 ∧ 0 = 0 ∧ 2 = 2 ∧ 2 = 2 ∧ IntKind.i64.wrap (n2 - (1 : Int)) = IntKind.i64.wrap (n2 - (1 : Int)) ∧ n3 = n3 ∧ l0.set i5.toNat (IntKind.i64.wrap (l0.getD i5.toNat (0 : Int) + (1 : Int))) = l0.set i5.toNat (IntKind.i64.wrap (l0.getD i5.toNat (0 : Int) + (1 : Int))) ∧ l1 = l1 ∧ now = now) (
          .leaf (Option.some { now := now, l0 := l0.set i5.toNat (IntKind.i64.wrap (l0.getD i5.toNat (0 : Int) + (1 : Int))), l1 := l1, n2 := IntKind.i64.wrap (n2 - (1 : Int)), n3 := n3, i4 := i4, i5 := IntKind.i64.wrap (i5 + (1 : Int)) }))))))) (
     .req (IntKind.i64.wrap (i5 + (1 : Int)) = IntKind.i64.wrap (i5 + (1 : Int)) ∧ i4 = i4 ∧ 0 = 0 ∧ 2 = 2 ∧ 2 = 2 ∧ n2 = n2 ∧ n3 = n3 ∧ l0 = l0 ∧ l1 = l1 ∧ now = now) (
      .leaf (Option.some { now := now, l0 := l0, l1 := l1, n2 := n2, n3 := n3, i4 := i4, i5 := IntKind.i64.wrap (i5 + (1 : Int)) }))))))) (
 .req (0 = 0 ∧ 2 = 2 ∧ 2 = 2 ∧ n2 = (Pl.qLoop now n3 false (List.drop i5.toNat l1) i5 l0 n2).2 ∧ n3 = n3 ∧ l0 = (Pl.qLoop now n3 false (List.drop i5.toNat l1) i5 l0 n2).1 ∧ l1 = l1 ∧ now = now) (
  .leaf (Option.none))) : Tree (Option Pl.AQ)) := by kernel_rfl
theorem tQ (now ms : List Int) : @Eq _
  (fnO C2 [(1, spQ)] 100 Try.f16 [ints, ints] [ints] (now, ms, ()))
  (.req ((↑ms.length : Int) < (4611686018427387904 : Int)) (
 .fork ((↑(Pl.memL ms).length : Int) == (0 : Int)) (
  .leaf ((([] : List Int), ()))) (
  .req ((↑(Pl.memL ms).length : Int) ≠ (0 : Int)) (
   .req ((↑(Pl.memL ms).length : Int) ≠ (0 : Int)) (
    .fork (decide ((↑(Pl.memL ms).length : Int) = (1 : Int))) (
     .req ((0 : Int) ≤ (32 : Int)) (
      .req ((0 : Int) ≤ (32 : Int)) (
       .req ((0 : Int) ≤ (32 : Int)) (
        .req ((0 : Int) ≤ (32 : Int)) (
         .req ((0 : Int) ≤ (32 : Int)) (
          .req ((↑(Pl.memL ms).length : Int) = (↑(Pl.memL ms).length : Int) ∧ 1 = (Pl.memL ms).length ∧ (0 : Int) ≤ (0 : Int) ∧ (0 : Int) ≤ (↑(Pl.memL ms).length : Int) ∧ (Pl.memL ms).length ≤ 8 ∧ (0 : Int) ≤ Int.tmod (16 : Int) (↑(Pl.memL ms).length : Int) ∧ ∀ (x : Int), x ∈ [IntKind.i64.wrap (Int.tdiv (16 : Int) (↑(Pl.memL ms).length : Int))] → (0 : Int) ≤ x ∧ x + Int.tmod (16 : Int) (↑(Pl.memL ms).length : Int) ≤ (40 : Int)) (
           .req ((0 : Int) = (0 : Int) ∧ (↑(Pl.memL ms).length : Int) = (↑(Pl.memL ms).length : Int) ∧ 0 = 0 ∧ 2 = 2 ∧ 2 = 2 ∧ Int.tmod (16 : Int) (↑(Pl.memL ms).length : Int) = Int.tmod (16 : Int) (↑(Pl.memL ms).length : Int) ∧ IntKind.i64.wrap (Int.tdiv (16 : Int) (↑(Pl.memL ms).length : Int)) = IntKind.i64.wrap (Int.tdiv (16 : Int) (↑(Pl.memL ms).length : Int)) ∧ [IntKind.i64.wrap (Int.tdiv (16 : Int) (↑(Pl.memL ms).length : Int))] = [IntKind.i64.wrap (Int.tdiv (16 : Int) (↑(Pl.memL ms).length : Int))] ∧ Pl.memL ms = Pl.memL ms ∧ now = now) (
            .req ((↑(Pl.memL ms).length : Int) = (↑(Pl.memL ms).length : Int) ∧ (Pl.qLoop now (IntKind.i64.wrap (Int.tdiv (16 : Int) (↑(Pl.memL ms).length : Int))) true (List.drop 0 (Pl.memL ms)) (0 : Int) [IntKind.i64.wrap (Int.tdiv (16 : Int) (↑(Pl.memL ms).length : Int))] (Int.tmod (16 : Int) (↑(Pl.memL ms).length : Int))).1.length = (Pl.memL ms).length ∧ (0 : Int) ≤ (0 : Int) ∧ (0 : Int) ≤ (↑(Pl.memL ms).length : Int) ∧ (Pl.memL ms).length ≤ 8 ∧ (0 : Int) ≤ (Pl.qLoop now (IntKind.i64.wrap (Int.tdiv (16 : Int) (↑(Pl.memL ms).length : Int))) true (List.drop 0 (Pl.memL ms)) (0 : Int) [IntKind.i64.wrap (Int.tdiv (16 : Int) (↑(Pl.memL ms).length : Int))] (Int.tmod (16 : Int) (↑(Pl.memL ms).length : Int))).2 ∧ ∀ (x : Int), x ∈ (Pl.qLoop now (IntKind.i64.wrap (Int.tdiv (16 : Int) (↑(Pl.memL ms).length : Int))) true (List.drop 0 (Pl.memL ms)) (0 : Int) [IntKind.i64.wrap (Int.tdiv (16 : Int) (↑(Pl.memL ms).length : Int))] (Int.tmod (16 : Int) (↑(Pl.memL ms).length : Int))).1 → (0 : Int) ≤ x ∧ x + (Pl.qLoop now (IntKind.i64.wrap (Int.tdiv (16 : Int) (↑(Pl.memL ms).length : Int))) true (List.drop 0 (Pl.memL ms)) (0 : Int) [IntKind.i64.wrap (Int.tdiv (16 : Int) (↑(Pl.memL ms).length : Int))] (Int.tmod (16 : Int) (↑(Pl.memL ms).length : Int))).2 ≤ (40 : Int)) (
             .req ((0 : Int) = (0 : Int) ∧ (↑(Pl.memL ms).length : Int) = (↑(Pl.memL ms).length : Int) ∧ 0 = 0 ∧ 2 = 2 ∧ 2 = 2 ∧ (Pl.qLoop now (IntKind.i64.wrap (Int.tdiv (16 : Int) (↑(Pl.memL ms).length : Int))) true (List.drop 0 (Pl.memL ms)) (0 : Int) [IntKind.i64.wrap (Int.tdiv (16 : Int) (↑(Pl.memL ms).length : Int))] (Int.tmod (16 : Int) (↑(Pl.memL ms).length : Int))).2 = (Pl.qLoop now (IntKind.i64.wrap (Int.tdiv (16 : Int) (↑(Pl.memL ms).length : Int))) true (List.drop 0 (Pl.memL ms)) (0 : Int) [IntKind.i64.wrap (Int.tdiv (16 : Int) (↑(Pl.memL ms).length : Int))] (Int.tmod (16 : Int) (↑(Pl.memL ms).length : Int))).2 ∧ IntKind.i64.wrap (Int.tdiv (16 : Int) (↑(Pl.memL ms).length : Int)) = IntKind.i64.wrap (Int.tdiv (16 : Int) (↑(Pl.memL ms).length : Int)) ∧ (Pl.qLoop now (IntKind.i64.wrap (Int.tdiv (16 : Int) (↑(Pl.memL ms).length : Int))) true (List.drop 0 (Pl.memL ms)) (0 : Int) [IntKind.i64.wrap (Int.tdiv (16 : Int) (↑(Pl.memL ms).length : Int))] (Int.tmod (16 : Int) (↑(Pl.memL ms).length : Int))).1 = (Pl.qLoop now (IntKind.i64.wrap (Int.tdiv (16 : Int) (↑(Pl.memL ms).length : Int))) true (List.drop 0 (Pl.memL ms)) (0 : Int) [IntKind.i64.wrap (Int.tdiv (16 : Int) (↑(Pl.memL ms).length : Int))] (Int.tmod (16 : Int) (↑(Pl.memL ms).length : Int))).1 ∧ Pl.memL ms = Pl.memL ms ∧ now = now) (
              .leaf (((Pl.qLoop now (IntKind.i64.wrap (Int.tdiv (16 : Int) (↑(Pl.memL ms).length : Int))) false (List.drop 0 (Pl.memL ms)) (0 : Int) (Pl.qLoop now (IntKind.i64.wrap (Int.tdiv (16 : Int) (↑(Pl.memL ms).length : Int))) true (List.drop 0 (Pl.memL ms)) (0 : Int) [IntKind.i64.wrap (Int.tdiv (16 : Int) (↑(Pl.memL ms).length : Int))] (Int.tmod (16 : Int) (↑(Pl.memL ms).length : Int))).1 (Pl.qLoop now (IntKind.i64.wrap (Int.tdiv (16 : Int) (↑(Pl.memL ms).length : Int))) true (List.drop 0 (Pl.memL ms)) (0 : Int) [IntKind.i64.wrap (Int.tdiv (16 : Int) (↑(Pl.memL ms).length : Int))] (Int.tmod (16 : Int) (↑(Pl.memL ms).length : Int))).2).1, ())))))))))))) (
     .fork (decide ((↑(Pl.memL ms).length : Int) = (2 : Int))) (
      .req ((0 : Int) ≤ (32 : Int)) (
       .req ((0 : Int) ≤ (32 : Int)) (
        .req ((0 : Int) ≤ (32 : Int)) (
         .req ((0 : Int) ≤ (32 : Int)) (
          .req ((0 : Int) ≤ (32 : Int)) (
           .req ((↑(Pl.memL ms).length : Int) = (↑(Pl.memL ms).length : Int) ∧ 2 = (Pl.memL ms).length ∧ (0 : Int) ≤ (0 : Int) ∧ (0 : Int) ≤ (↑(Pl.memL ms).length : Int) ∧ (Pl.memL ms).length ≤ 8 ∧ (0 : Int) ≤ Int.tmod (16 : Int) (↑(Pl.memL ms).length : Int) ∧ ∀ (x : Int), x ∈ [IntKind.i64.wrap (Int.tdiv (16 : Int) (↑(Pl.memL ms).length : Int)), IntKind.i64.wrap (Int.tdiv (16 : Int) (↑(Pl.memL ms).length : Int))] → (0 : Int) ≤ x ∧ x + Int.tmod (16 : Int) (↑(Pl.memL ms).length : Int) ≤ (40 : Int)) (
            .req ((0 : Int) = (0 : Int) ∧ (↑(Pl.memL ms).length : Int) = (↑(Pl.memL ms).length : Int) ∧ 0 = 0 ∧ 2 = 2 ∧ 2 = 2 ∧ Int.tmod (16 : Int) (↑(Pl.memL ms).length : Int) = Int.tmod (16 : Int) (↑(Pl.memL ms).length : Int) ∧ IntKind.i64.wrap (Int.tdiv (16 : Int) (↑(Pl.memL ms).length : Int)) = IntKind.i64.wrap (Int.tdiv (16 : Int) (↑(Pl.memL ms).length : Int)) ∧ [IntKind.i64.wrap (Int.tdiv (16 : Int) (↑(Pl.memL ms).length : Int)), IntKind.i64.wrap (Int.tdiv (16 : Int) (↑(Pl.memL ms).length : Int))] = [IntKind.i64.wrap (Int.tdiv (16 : Int) (↑(Pl.memL ms).length : Int)), IntKind.i64.wrap (Int.tdiv (16 : Int) (↑(Pl.memL ms).length : Int))] ∧ Pl.memL ms = Pl.memL ms ∧ now = now) (
             .req ((↑(Pl.memL ms).length : Int) = (↑(Pl.memL ms).length : Int) ∧ (Pl.qLoop now (IntKind.i64.wrap (Int.tdiv (16 : Int) (↑(Pl.memL ms).length : Int))) true (List.drop 0 (Pl.memL ms)) (0 : Int) [IntKind.i64.wrap (Int.tdiv (16 : Int) (↑(Pl.memL ms).length : Int)), IntKind.i64.wrap (Int.tdiv (16 : Int) (↑(Pl.memL ms).length : Int))] (Int.tmod (16 : Int) (↑(Pl.memL ms).length : Int))).1.length = (Pl.memL ms).length ∧ (0 : Int) ≤ (0 : Int) ∧ (0 : Int) ≤ (↑(Pl.memL ms).length : Int) ∧ (Pl.memL ms).length ≤ 8 ∧ (0 : Int) ≤ (Pl.qLoop now (IntKind.i64.wrap (Int.tdiv (16 : Int) (↑(Pl.memL ms).length : Int))) true (List.drop 0 (Pl.memL ms)) (0 : Int) [IntKind.i64.wrap (Int.tdiv (16 : Int) (↑(Pl.memL ms).length : Int)), IntKind.i64.wrap (Int.tdiv (16 : Int) (↑(Pl.memL ms).length : Int))] (Int.tmod (16 : Int) (↑(Pl.memL ms).length : Int))).2 ∧ ∀ (x : Int), x ∈ (Pl.qLoop now (IntKind.i64.wrap (Int.tdiv (16 : Int) (↑(Pl.memL ms).length : Int))) true (List.drop 0 (Pl.memL ms)) (0 : Int) [IntKind.i64.wrap (Int.tdiv (16 : Int) (↑(Pl.memL ms).length : Int)), IntKind.i64.wrap (Int.tdiv (16 : Int) (↑(Pl.memL ms).length : Int))] (Int.tmod (16 : Int) (↑(Pl.memL ms).length : Int))).1 → (0 : Int) ≤ x ∧ x + (Pl.qLoop now (IntKind.i64.wrap (Int.tdiv (16 : Int) (↑(Pl.memL ms).length : Int))) true (List.drop 0 (Pl.memL ms)) (0 : Int) [IntKind.i64.wrap (Int.tdiv (16 : Int) (↑(Pl.memL ms).length : Int)), IntKind.i64.wrap (Int.tdiv (16 : Int) (↑(Pl.memL ms).length : Int))] (Int.tmod (16 : Int) (↑(Pl.memL ms).length : Int))).2 ≤ (40 : Int)) (
              .req ((0 : Int) = (0 : Int) ∧ (↑(Pl.memL ms).length : Int) = (↑(Pl.memL ms).length : Int) ∧ 0 = 0 ∧ 2 = 2 ∧ 2 = 2 ∧ (Pl.qLoop now (IntKind.i64.wrap (Int.tdiv (16 : Int) (↑(Pl.memL ms).length : Int))) true (List.drop 0 (Pl.memL ms)) (0 : Int) [IntKind.i64.wrap (Int.tdiv (16 : Int) (↑(Pl.memL ms).length : Int)), IntKind.i64.wrap (Int.tdiv (16 : Int) (↑(Pl.memL ms).length : Int))] (Int.tmod (16 : Int) (↑(Pl.memL ms).length : Int))).2 = (Pl.qLoop now (IntKind.i64.wrap (Int.tdiv (16 : Int) (↑(Pl.memL ms).length : Int))) true (List.drop 0 (Pl.memL ms)) (0 : Int) [IntKind.i64.wrap (Int.tdiv (16 : Int) (↑(Pl.memL ms).length : Int)), IntKind.i64.wrap (Int.tdiv (16 : Int) (↑(Pl.memL ms).length : Int))] (Int.tmod (16 : Int) (↑(Pl.memL ms).length : Int))).2 ∧ IntKind.i64.wrap (Int.tdiv (16 : Int) (↑(Pl.memL ms).length : Int)) = IntKind.i64.wrap (Int.tdiv (16 : Int) (↑(Pl.memL ms).length : Int)) ∧ (Pl.qLoop now (IntKind.i64.wrap (Int.tdiv (16 : Int) (↑(Pl.memL ms).length : Int))) true (List.drop 0 (Pl.memL ms)) (0 : Int) [IntKind.i64.wrap (Int.tdiv (16 : Int) (↑(Pl.memL ms).length : Int)), IntKind.i64.wrap (Int.tdiv (16 : Int) (↑(Pl.memL ms).length : Int))] (Int.tmod (16 : Int) (↑(Pl.memL ms).length : Int))).1 = (Pl.qLoop now (IntKind.i64.wrap (Int.tdiv (16 : Int) (↑(Pl.memL ms).length : Int))) true (List.drop 0 (Pl.memL ms)) (0 : Int) [IntKind.i64.wrap (Int.tdiv (16 : Int) (↑(Pl.memL ms).length : Int)), IntKind.i64.wrap (Int.tdiv (16 : Int) (↑(Pl.memL ms).length : Int))] (Int.tmod (16 : Int) (↑(Pl.memL ms).length : Int))).1 ∧ Pl.memL ms = Pl.memL ms ∧ now = now) (
               .leaf (((Pl.qLoop now (IntKind.i64.wrap (Int.tdiv (16 : Int) (↑(Pl.memL ms).length : Int))) false (List.drop 0 (Pl.memL ms)) (0 : Int) (Pl.qLoop now (IntKind.i64.wrap (Int.tdiv (16 : Int) (↑(Pl.memL ms).length : Int))) true (List.drop 0 (Pl.memL ms)) (0 : Int) [IntKind.i64.wrap (Int.tdiv (16 : Int) (↑(Pl.memL ms).length : Int)), IntKind.i64.wrap (Int.tdiv (16 : Int) (↑(Pl.memL ms).length : Int))] (Int.tmod (16 : Int) (↑(Pl.memL ms).length : Int))).1 (Pl.qLoop now (IntKind.i64.wrap (Int.tdiv (16 : Int) (↑(Pl.memL ms).length : Int))) true (List.drop 0 (Pl.memL ms)) (0 : Int) [IntKind.i64.wrap (Int.tdiv (16 : Int) (↑(Pl.memL ms).length : Int)), IntKind.i64.wrap (Int.tdiv (16 : Int) (↑(Pl.memL ms).length : Int))] (Int.tmod (16 : Int) (↑(Pl.memL ms).length : Int))).2).1, ())))))))))))) (
      .fork (decide ((↑(Pl.memL ms).length : Int) = (3 : Int))) (
       .req ((0 : Int) ≤ (32 : Int)) (
        .req ((0 : Int) ≤ (32 : Int)) (
         .req ((0 : Int) ≤ (32 : Int)) (
          .req ((0 : Int) ≤ (32 : Int)) (
           .req ((0 : Int) ≤ (32 : Int)) (
            .req ((↑(Pl.memL ms).length : Int) = (↑(Pl.memL ms).length : Int) ∧ 3 = (Pl.memL ms).length ∧ (0 : Int) ≤ (0 : Int) ∧ (0 : Int) ≤ (↑(Pl.memL ms).length : Int) ∧ (Pl.memL ms).length ≤ 8 ∧ (0 : Int) ≤ Int.tmod (16 : Int) (↑(Pl.memL ms).length : Int) ∧ ∀ (x : Int), x ∈ [IntKind.i64.wrap (Int.tdiv (16 : Int) (↑(Pl.memL ms).length : Int)), IntKind.i64.wrap (Int.tdiv (16 : Int) (↑(Pl.memL ms).length : Int)), IntKind.i64.wrap (Int.tdiv (16 : Int) (↑(Pl.memL ms).length : Int))] → (0 : Int) ≤ x ∧ x + Int.tmod (16 : Int) (↑(Pl.memL ms).length : Int) ≤ (40 : Int)) (
             .req ((0 : Int) = (0 : Int) ∧ (↑(Pl.memL ms).length : Int) = (↑(Pl.memL ms).length : Int) ∧ 0 = 0 ∧ 2 = 2 ∧ 2 = 2 ∧ Int.tmod (16 : Int) (↑(Pl.memL ms).length : Int) = Int.tmod (16 : Int) (↑(Pl.memL ms).length : Int) ∧ IntKind.i64.wrap (Int.tdiv (16 : Int) (↑(Pl.memL ms).length : Int)) = IntKind.i64.wrap (Int.tdiv (16 : Int) (↑(Pl.memL ms).length : Int)) ∧ [IntKind.i64.wrap (Int.tdiv (16 : Int) (↑(Pl.memL ms).length : Int)), IntKind.i64.wrap (Int.tdiv (16 : Int) (↑(Pl.memL ms).length : Int)), IntKind.i64.wrap (Int.tdiv (16 : Int) (↑(Pl.memL ms).length : Int))] = [IntKind.i64.wrap (Int.tdiv (16 : Int) (↑(Pl.memL ms).length : Int)), IntKind.i64.wrap (Int.tdiv (16 : Int) (↑(Pl.memL ms).length : Int)), IntKind.i64.wrap (Int.tdiv (16 : Int) (↑(Pl.memL ms).length : Int))] ∧ Pl.memL ms = Pl.memL ms ∧ now = now) (
              .req ((↑(Pl.memL ms).length : Int) = (↑(Pl.memL ms).length : Int) ∧ (Pl.qLoop now (IntKind.i64.wrap (Int.tdiv (16 : Int) (↑(Pl.memL ms).length : Int))) true (List.drop 0 (Pl.memL ms)) (0 : Int) [IntKind.i64.wrap (Int.tdiv (16 : Int) (↑(Pl.memL ms).length : Int)), IntKind.i64.wrap (Int.tdiv (16 : Int) (↑(Pl.memL ms).length : Int)), IntKind.i64.wrap (Int.tdiv (16 : Int) (↑(Pl.memL ms).length : Int))] (Int.tmod (16 : Int) (↑(Pl.memL ms).length : Int))).1.length = (Pl.memL ms).length ∧ (0 : Int) ≤ (0 : Int) ∧ (0 : Int) ≤ (↑(Pl.memL ms).length : Int) ∧ (Pl.memL ms).length ≤ 8 ∧ (0 : Int) ≤ (Pl.qLoop now (IntKind.i64.wrap (Int.tdiv (16 : Int) (↑(Pl.memL ms).length : Int))) true (List.drop 0 (Pl.memL ms)) (0 : Int) [IntKind.i64.wrap (Int.tdiv (16 : Int) (↑(Pl.memL ms).length : Int)), IntKind.i64.wrap (Int.tdiv (16 : Int) (↑(Pl.memL ms).length : Int)), IntKind.i64.wrap (Int.tdiv (16 : Int) (↑(Pl.memL ms).length : Int))] (Int.tmod (16 : Int) (↑(Pl.memL ms).length : Int))).2 ∧ ∀ (x : Int), x ∈ (Pl.qLoop now (IntKind.i64.wrap (Int.tdiv (16 : Int) (↑(Pl.memL ms).length : Int))) true (List.drop 0 (Pl.memL ms)) (0 : Int) [IntKind.i64.wrap (Int.tdiv (16 : Int) (↑(Pl.memL ms).length : Int)), IntKind.i64.wrap (Int.tdiv (16 : Int) (↑(Pl.memL ms).length : Int)), IntKind.i64.wrap (Int.tdiv (16 : Int) (↑(Pl.memL ms).length : Int))] (Int.tmod (16 : Int) (↑(Pl.memL ms).length : Int))).1 → (0 : Int) ≤ x ∧ x + (Pl.qLoop now (IntKind.i64.wrap (Int.tdiv (16 : Int) (↑(Pl.memL ms).length : Int))) true (List.drop 0 (Pl.memL ms)) (0 : Int) [IntKind.i64.wrap (Int.tdiv (16 : Int) (↑(Pl.memL ms).length : Int)), IntKind.i64.wrap (Int.tdiv (16 : Int) (↑(Pl.memL ms).length : Int)), IntKind.i64.wrap (Int.tdiv (16 : Int) (↑(Pl.memL ms).length : Int))] (Int.tmod (16 : Int) (↑(Pl.memL ms).length : Int))).2 ≤ (40 : Int)) (
               .req ((0 : Int) = (0 : Int) ∧ (↑(Pl.memL ms).length : Int) = (↑(Pl.memL ms).length : Int) ∧ 0 = 0 ∧ 2 = 2 ∧ 2 = 2 ∧ (Pl.qLoop now (IntKind.i64.wrap (Int.tdiv (16 : Int) (↑(Pl.memL ms).length : Int))) true (List.drop 0 (Pl.memL ms)) (0 : Int) [IntKind.i64.wrap (Int.tdiv (16 : Int) (↑(Pl.memL ms).length : Int)), IntKind.i64.wrap (Int.tdiv (16 : Int) (↑(Pl.memL ms).length : Int)), IntKind.i64.wrap (Int.tdiv (16 : Int) (↑(Pl.memL ms).length : Int))] (Int.tmod (16 : Int) (↑(Pl.memL ms).length : Int))).2 = (Pl.qLoop now (IntKind.i64.wrap (Int.tdiv (16 : Int) (↑(Pl.memL ms).length : Int))) true (List.drop 0 (Pl.memL ms)) (0 : Int) [IntKind.i64.wrap (Int.tdiv (16 : Int) (↑(Pl.memL ms).length : Int)), IntKind.i64.wrap (Int.tdiv (16 : Int) (↑(Pl.memL ms).length : Int)), IntKind.i64.wrap (Int.tdiv (16 : Int) (↑(Pl.memL ms).length : Int))] (Int.tmod (16 : Int) (↑(Pl.memL ms).length : Int))).2 ∧ IntKind.i64.wrap (Int.tdiv (16 : Int) (↑(Pl.memL ms).length : Int)) = IntKind.i64.wrap (Int.tdiv (16 : Int) (↑(Pl.memL ms).length : Int)) ∧ (Pl.qLoop now (IntKind.i64.wrap (Int.tdiv (16 : Int) (↑(Pl.memL ms).length : Int))) true (List.drop 0 (Pl.memL ms)) (0 : Int) [IntKind.i64.wrap (Int.tdiv (16 : Int) (↑(Pl.memL ms).length : Int)), IntKind.i64.wrap (Int.tdiv (16 : Int) (↑(Pl.memL ms).length : Int)), IntKind.i64.wrap (Int.tdiv (16 : Int) (↑(Pl.memL ms).length : Int))] (Int.tmod (16 : Int) (↑(Pl.memL ms).length : Int))).1 = (Pl.qLoop now (IntKind.i64.wrap (Int.tdiv (16 : Int) (↑(Pl.memL ms).length : Int))) true (List.drop 0 (Pl.memL ms)) (0 : Int) [IntKind.i64.wrap (Int.tdiv (16 : Int) (↑(Pl.memL ms).length : Int)), IntKind.i64.wrap (Int.tdiv (16 : Int) (↑(Pl.memL ms).length : Int)), IntKind.i64.wrap (Int.tdiv (16 : Int) (↑(Pl.memL ms).length : Int))] (Int.tmod (16 : Int) (↑(Pl.memL ms).length : Int))).1 ∧ Pl.memL ms = Pl.memL ms ∧ now = now) (
                .leaf (((Pl.qLoop now (IntKind.i64.wrap (Int.tdiv (16 : Int) (↑(Pl.memL ms).length : Int))) false (List.drop 0 (Pl.memL ms)) (0 : Int) (Pl.qLoop now (IntKind.i64.wrap (Int.tdiv (16 : Int) (↑(Pl.memL ms).length : Int))) true (List.drop 0 (Pl.memL ms)) (0 : Int) [IntKind.i64.wrap (Int.tdiv (16 : Int) (↑(Pl.memL ms).length : Int)), IntKind.i64.wrap (Int.tdiv (16 : Int) (↑(Pl.memL ms).length : Int)), IntKind.i64.wrap (Int.tdiv (16 : Int) (↑(Pl.memL ms).length : Int))] (Int.tmod (16 : Int) (↑(Pl.memL ms).length : Int))).1 (Pl.qLoop now (IntKind.i64.wrap (Int.tdiv (16 : Int) (↑(Pl.memL ms).length : Int))) true (List.drop 0 (Pl.memL ms)) (0 : Int) [IntKind.i64.wrap (Int.tdiv (16 : Int) (↑(Pl.memL ms).length : Int)), IntKind.i64.wrap (Int.tdiv (16 : Int) (↑(Pl.memL ms).length : Int)), IntKind.i64.wrap (Int.tdiv (16 : Int) (↑(Pl.memL ms).length : Int))] (Int.tmod (16 : Int) (↑(Pl.memL ms).length : Int))).2).1, ())))))))))))) (
       .fork (decide ((↑(Pl.memL ms).length : Int) = (4 : Int))) (
        .req ((0 : Int) ≤ (32 : Int)) (
         .req ((0 : Int) ≤ (32 : Int)) (
          .req ((0 : Int) ≤ (32 : Int)) (
           .req ((0 : Int) ≤ (32 : Int)) (
            .req ((0 : Int) ≤ (32 : Int)) (
             .req ((↑(Pl.memL ms).length : Int) = (↑(Pl.memL ms).length : Int) ∧ 4 = (Pl.memL ms).length ∧ (0 : Int) ≤ (0 : Int) ∧ (0 : Int) ≤ (↑(Pl.memL ms).length : Int) ∧ (Pl.memL ms).length ≤ 8 ∧ (0 : Int) ≤ Int.tmod (16 : Int) (↑(Pl.memL ms).length : Int) ∧ ∀ (x : Int), x ∈ List.replicate 4 (IntKind.i64.wrap (Int.tdiv (16 : Int) (↑(Pl.memL ms).length : Int))) → (0 : Int) ≤ x ∧ x + Int.tmod (16 : Int) (↑(Pl.memL ms).length : Int) ≤ (40 : Int)) (
              .req ((0 : Int) = (0 : Int) ∧ (↑(Pl.memL ms).length : Int) = (↑(Pl.memL ms).length : Int) ∧ 0 = 0 ∧ 2 = 2 ∧ 2 = 2 ∧ Int.tmod (16 : Int) (↑(Pl.memL ms).length : Int) = Int.tmod (16 : Int) (↑(Pl.memL ms).length : Int) ∧ IntKind.i64.wrap (Int.tdiv (16 : Int) (↑(Pl.memL ms).length : Int)) = IntKind.i64.wrap (Int.tdiv (16 : Int) (↑(Pl.memL ms).length : Int)) ∧ List.replicate 4 (IntKind.i64.wrap (Int.tdiv (16 : Int) (↑(Pl.memL ms).length : Int))) = List.replicate 4 (IntKind.i64.wrap (Int.tdiv (16 : Int) (↑(Pl.memL ms).length : Int))) ∧ Pl.memL ms = Pl.memL ms ∧ now = now) (
               .req ((↑(Pl.memL ms).length : Int) = (↑(Pl.memL ms).length : Int) ∧ (Pl.qLoop now (IntKind.i64.wrap (Int.tdiv (16 : Int) (↑(Pl.memL ms).length : Int))) true (List.drop 0 (Pl.memL ms)) (0 : Int) (List.replicate 4 (IntKind.i64.wrap (Int.tdiv (16 : Int) (↑(Pl.memL ms).length : Int)))) (Int.tmod (16 : Int) (↑(Pl.memL ms).length : Int))).1.length = (Pl.memL ms).length ∧ (0 : Int) ≤ (0 : Int) ∧ (0 : Int) ≤ (↑(Pl.memL ms).length : Int) ∧ (Pl.memL ms).length ≤ 8 ∧ (0 : Int) ≤ (Pl.qLoop now (IntKind.i64.wrap (Int.tdiv (16 : Int) (↑(Pl.memL ms).length : Int))) true (List.drop 0 (Pl.memL ms)) (0 : Int) (List.replicate 4 (IntKind.i64.wrap (Int.tdiv (16 : Int) (↑(Pl.memL ms).length : Int)))) (Int.tmod (16 : Int) (↑(Pl.memL ms).length : Int))).2 ∧ ∀ (x : Int), x ∈ (Pl.qLoop now (IntKind.i64.wrap (Int.tdiv (16 : Int) (↑(Pl.memL ms).length : Int))) true (List.drop 0 (Pl.memL ms)) (0 : Int) (List.replicate 4 (IntKind.i64.wrap (Int.tdiv (16 : Int) (↑(Pl.memL ms).length : Int)))) (Int.tmod (16 : Int) (↑(Pl.memL ms).length : Int))).1 → (0 : Int) ≤ x ∧ x + (Pl.qLoop now (IntKind.i64.wrap (Int.tdiv (16 : Int) (↑(Pl.memL ms).length : Int))) true (List.drop 0 (Pl.memL ms)) (0 : Int) (List.replicate 4 (IntKind.i64.wrap (Int.tdiv (16 : Int) (↑(Pl.memL ms).length : Int)))) (Int.tmod (16 : Int) (↑(Pl.memL ms).length : Int))).2 ≤ (40 : Int)) (
                .req ((0 : Int) = (0 : Int) ∧ (↑(Pl.memL ms).length : Int) = (↑(Pl.memL ms).length : Int) ∧ 0 = 0 ∧ 2 = 2 ∧ 2 = 2 ∧ (Pl.qLoop now (IntKind.i64.wrap (Int.tdiv (16 : Int) (↑(Pl.memL ms).length : Int))) true (List.drop 0 (Pl.memL ms)) (0 : Int) (List.replicate 4 (IntKind.i64.wrap (Int.tdiv (16 : Int) (↑(Pl.memL ms).length : Int)))) (Int.tmod (16 : Int) (↑(Pl.memL ms).length : Int))).2 = (Pl.qLoop now (IntKind.i64.wrap (Int.tdiv (16 : Int) (↑(Pl.memL ms).length : Int))) true (List.drop 0 (Pl.memL ms)) (0 : Int) (List.replicate 4 (IntKind.i64.wrap (Int.tdiv (16 : Int) (↑(Pl.memL ms).length : Int)))) (Int.tmod (16 : Int) (↑(Pl.memL ms).length : Int))).2 ∧ IntKind.i64.wrap (Int.tdiv (16 : Int) (↑(Pl.memL ms).length : Int)) = IntKind.i64.wrap (Int.tdiv (16 : Int) (↑(Pl.memL ms).length : Int)) ∧ (Pl.qLoop now (IntKind.i64.wrap (Int.tdiv (16 : Int) (↑(Pl.memL ms).length : Int))) true (List.drop 0 (Pl.memL ms)) (0 : Int) (List.replicate 4 (IntKind.i64.wrap (Int.tdiv (16 : Int) (↑(Pl.memL ms).length : Int)))) (Int.tmod (16 : Int) (↑(Pl.memL ms).length : Int))).1 = (Pl.qLoop now (IntKind.i64.wrap (Int.tdiv (16 : Int) (↑(Pl.memL ms).length : Int))) true (List.drop 0 (Pl.memL ms)) (0 : Int) (List.replicate 4 (IntKind.i64.wrap (Int.tdiv (16 : Int) (↑(Pl.memL ms).length : Int)))) (Int.tmod (16 : Int) (↑(Pl.memL ms).length : Int))).1 ∧ Pl.memL ms = Pl.memL ms ∧ now = now) (
                 .leaf (((Pl.qLoop now (IntKind.i64.wrap (Int.tdiv (16 : Int) (↑(Pl.memL ms).length : Int))) false (List.drop 0 (Pl.memL ms)) (0 : Int) (Pl.qLoop now (IntKind.i64.wrap (Int.tdiv (16 : Int) (↑(Pl.memL ms).length : Int))) true (List.drop 0 (Pl.memL ms)) (0 : Int) (List.replicate 4 (IntKind.i64.wrap (Int.tdiv (16 : Int) (↑(Pl.memL ms).length : Int)))) (Int.tmod (16 : Int) (↑(Pl.memL ms).length : Int))).1 (Pl.qLoop now (IntKind.i64.wrap (Int.tdiv (16 : Int) (↑(Pl.memL ms).length : Int))) true (List.drop 0 (Pl.memL ms)) (0 : Int) (List.replicate 4 (IntKind.i64.wrap (Int.tdiv (16 : Int) (↑(Pl.memL ms).length : Int)))) (Int.tmod (16 : Int) (↑(Pl.memL ms).length : Int))).2).1, ())))))))))))) (
        .fork (decide ((↑(Pl.memL ms).length : Int) = (5 : Int))) (
         .req ((0 : Int) ≤ (32 : Int)) (
          .req ((0 : Int) ≤ (32 : Int)) (
           .req ((0 : Int) ≤ (32 : Int)) (
            .req ((0 : Int) ≤ (32 : Int)) (
             .req ((0 : Int) ≤ (32 : Int)) (
              .req ((↑(Pl.memL ms).length : Int) = (↑(Pl.memL ms).length : Int) ∧ 5 = (Pl.memL ms).length ∧ (0 : Int) ≤ (0 : Int) ∧ (0 : Int) ≤ (↑(Pl.memL ms).length : Int) ∧ (Pl.memL ms).length ≤ 8 ∧ (0 : Int) ≤ Int.tmod (16 : Int) (↑(Pl.memL ms).length : Int) ∧ ∀ (x : Int), x ∈ List.replicate 5 (IntKind.i64.wrap (Int.tdiv (16 : Int) (↑(Pl.memL ms).length : Int))) → (0 : Int) ≤ x ∧ x + Int.tmod (16 : Int) (↑(Pl.memL ms).length : Int) ≤ (40 : Int)) (
               .req ((0 : Int) = (0 : Int) ∧ (↑(Pl.memL ms).length : Int) = (↑(Pl.memL ms).length : Int) ∧ 0 = 0 ∧ 2 = 2 ∧ 2 = 2 ∧ Int.tmod (16 : Int) (↑(Pl.memL ms).length : Int) = Int.tmod (16 : Int) (↑(Pl.memL ms).length : Int) ∧ IntKind.i64.wrap (Int.tdiv (16 : Int) (↑(Pl.memL ms).length : Int)) = IntKind.i64.wrap (Int.tdiv (16 : Int) (↑(Pl.memL ms).length : Int)) ∧ List.replicate 5 (IntKind.i64.wrap (Int.tdiv (16 : Int) (↑(Pl.memL ms).length : Int))) = List.replicate 5 (IntKind.i64.wrap (Int.tdiv (16 : Int) (↑(Pl.memL ms).length : Int))) ∧ Pl.memL ms = Pl.memL ms ∧ now = now) (
                .req ((↑(Pl.memL ms).length : Int) = (↑(Pl.memL ms).length : Int) ∧ (Pl.qLoop now (IntKind.i64.wrap (Int.tdiv (16 : Int) (↑(Pl.memL ms).length : Int))) true (List.drop 0 (Pl.memL ms)) (0 : Int) (List.replicate 5 (IntKind.i64.wrap (Int.tdiv (16 : Int) (↑(Pl.memL ms).length : Int)))) (Int.tmod (16 : Int) (↑(Pl.memL ms).length : Int))).1.length = (Pl.memL ms).length ∧ (0 : Int) ≤ (0 : Int) ∧ (0 : Int) ≤ (↑(Pl.memL ms).length : Int) ∧ (Pl.memL ms).length ≤ 8 ∧ (0 : Int) ≤ (Pl.qLoop now (IntKind.i64.wrap (Int.tdiv (16 : Int) (↑(Pl.memL ms).length : Int))) true (List.drop 0 (Pl.memL ms)) (0 : Int) (List.replicate 5 (IntKind.i64.wrap (Int.tdiv (16 : Int) (↑(Pl.memL ms).length : Int)))) (Int.tmod (16 : Int) (↑(Pl.memL ms).length : Int))).2 ∧ ∀ (x : Int), x ∈ (Pl.qLoop now (IntKind.i64.wrap (Int.tdiv (16 : Int) (↑(Pl.memL ms).length : Int))) true (List.drop 0 (Pl.memL ms)) (0 : Int) (List.replicate 5 (IntKind.i64.wrap (Int.tdiv (16 : Int) (↑(Pl.memL ms).length : Int)))) (Int.tmod (16 : Int) (↑(Pl.memL ms).length : Int))).1 → (0 : Int) ≤ x ∧ x + (Pl.qLoop now (IntKind.i64.wrap (Int.tdiv (16 : Int) (↑(Pl.memL ms).length : Int))) true (List.drop 0 (Pl.memL ms)) (0 : Int) (List.replicate 5 (IntKind.i64.wrap (Int.tdiv (16 : Int) (↑(Pl.memL ms).length : Int)))) (Int.tmod (16 : Int) (↑(Pl.memL ms).length : Int))).2 ≤ (40 : Int)) (
                 .req ((0 : Int) = (0 : Int) ∧ (↑(Pl.memL ms).length : Int) = (↑(Pl.memL ms).length : Int) ∧ 0 = 0 ∧ 2 = 2 ∧ 2 = 2 ∧ (Pl.qLoop now (IntKind.i64.wrap (Int.tdiv (16 : Int) (↑(Pl.memL ms).length : Int))) true (List.drop 0 (Pl.memL ms)) (0 : Int) (List.replicate 5 (IntKind.i64.wrap (Int.tdiv (16 : Int) (↑(Pl.memL ms).length : Int)))) (Int.tmod (16 : Int) (↑(Pl.memL ms).length : Int))).2 = (Pl.qLoop now (IntKind.i64.wrap (Int.tdiv (16 : Int) (↑(Pl.memL ms).length : Int))) true (List.drop 0 (Pl.memL ms)) (0 : Int) (List.replicate 5 (IntKind.i64.wrap (Int.tdiv (16 : Int) (↑(Pl.memL ms).length : Int)))) (Int.tmod (16 : Int) (↑(Pl.memL ms).length : Int))).2 ∧ IntKind.i64.wrap (Int.tdiv (16 : Int) (↑(Pl.memL ms).length : Int)) = IntKind.i64.wrap (Int.tdiv (16 : Int) (↑(Pl.memL ms).length : Int)) ∧ (Pl.qLoop now (IntKind.i64.wrap (Int.tdiv (16 : Int) (↑(Pl.memL ms).length : Int))) true (List.drop 0 (Pl.memL ms)) (0 : Int) (List.replicate 5 (IntKind.i64.wrap (Int.tdiv (16 : Int) (↑(Pl.memL ms).length : Int)))) (Int.tmod (16 : Int) (↑(Pl.memL ms).length : Int))).1 = (Pl.qLoop now (IntKind.i64.wrap (Int.tdiv (16 : Int) (↑(Pl.memL ms).length : Int))) true (List.drop 0 (Pl.memL ms)) (0 : Int) (List.replicate 5 (IntKind.i64.wrap (Int.tdiv (16 : Int) (↑(Pl.memL ms).length : Int)))) (Int.tmod (16 : Int) (↑(Pl.memL ms).length : Int))).1 ∧ Pl.memL ms = Pl.memL ms ∧ now = now) (
                  .leaf (((Pl.qLoop now (IntKind.i64.wrap (Int.tdiv (16 : Int) (↑(Pl.memL ms).length : Int))) false (List.drop 0 (Pl.memL ms)) (0 : Int) (Pl.qLoop now (IntKind.i64.wrap (Int.tdiv (16 : Int) (↑(Pl.memL ms).length : Int))) true (List.drop 0 (Pl.memL ms)) (0 : Int) (List.replicate 5 (IntKind.i64.wrap (Int.tdiv (16 : Int) (↑(Pl.memL ms).length : Int)))) (Int.tmod (16 : Int) (↑(Pl.memL ms).length : Int))).1 (Pl.qLoop now (IntKind.i64.wrap (Int.tdiv (16 : Int) (↑(Pl.memL ms).length : Int))) true (List.drop 0 (Pl.memL ms)) (0 : Int) (List.replicate 5 (IntKind.i64.wrap (Int.tdiv (16 : Int) (↑(Pl.memL ms).length : Int)))) (Int.tmod (16 : Int) (↑(Pl.memL ms).length : Int))).2).1, ())))))))))))) (
         .fork (decide ((↑(Pl.memL ms).length : Int) = (6 : Int))) (
          .req ((0 : Int) ≤ (32 : Int)) (
           .req ((0 : Int) ≤ (32 : Int)) (
            .req ((0 : Int) ≤ (32 : Int)) (
             .req ((0 : Int) ≤ (32 : Int)) (
              .req ((0 : Int) ≤ (32 : Int)) (
               .req ((↑(Pl.memL ms).length : Int) = (↑(Pl.memL ms).length : Int) ∧ 6 = (Pl.memL ms).length ∧ (0 : Int) ≤ (0 : Int) ∧ (0 : Int) ≤ (↑(Pl.memL ms).length : Int) ∧ (Pl.memL ms).length ≤ 8 ∧ (0 : Int) ≤ Int.tmod (16 : Int) (↑(Pl.memL ms).length : Int) ∧ ∀ (x : Int), x ∈ List.replicate 6 (IntKind.i64.wrap (Int.tdiv (16 : Int) (↑(Pl.memL ms).length : Int))) → (0 : Int) ≤ x ∧ x + Int.tmod (16 : Int) (↑(Pl.memL ms).length : Int) ≤ (40 : Int)) (
                .req ((0 : Int) = (0 : Int) ∧ (↑(Pl.memL ms).length : Int) = (↑(Pl.memL ms).length : Int) ∧ 0 = 0 ∧ 2 = 2 ∧ 2 = 2 ∧ Int.tmod (16 : Int) (↑(Pl.memL ms).length : Int) = Int.tmod (16 : Int) (↑(Pl.memL ms).length : Int) ∧ IntKind.i64.wrap (Int.tdiv (16 : Int) (↑(Pl.memL ms).length : Int)) = IntKind.i64.wrap (Int.tdiv (16 : Int) (↑(Pl.memL ms).length : Int)) ∧ List.replicate 6 (IntKind.i64.wrap (Int.tdiv (16 : Int) (↑(Pl.memL ms).length : Int))) = List.replicate 6 (IntKind.i64.wrap (Int.tdiv (16 : Int) (↑(Pl.memL ms).length : Int))) ∧ Pl.memL ms = Pl.memL ms ∧ now = now) (
                 .req ((↑(Pl.memL ms).length : Int) = (↑(Pl.memL ms).length : Int) ∧ (Pl.qLoop now (IntKind.i64.wrap (Int.tdiv (16 : Int) (↑(Pl.memL ms).length : Int))) true (List.drop 0 (Pl.memL ms)) (0 : Int) (List.replicate 6 (IntKind.i64.wrap (Int.tdiv (16 : Int) (↑(Pl.memL ms).length : Int)))) (Int.tmod (16 : Int) (↑(Pl.memL ms).length : Int))).1.length = (Pl.memL ms).length ∧ (0 : Int) ≤ (0 : Int) ∧ (0 : Int) ≤ (↑(Pl.memL ms).length : Int) ∧ (Pl.memL ms).length ≤ 8 ∧ (0 : Int) ≤ (Pl.qLoop now (IntKind.i64.wrap (Int.tdiv (16 : Int) (↑(Pl.memL ms).length : Int))) true (List.drop 0 (Pl.memL ms)) (0 : Int) (List.replicate 6 (IntKind.i64.wrap (Int.tdiv (16 : Int) (↑(Pl.memL ms).length : Int)))) (Int.tmod (16 : Int) (↑(Pl.memL ms).length : Int))).2 ∧ ∀ (x : Int), x ∈ (Pl.qLoop now (IntKind.i64.wrap (Int.tdiv (16 : Int) (↑(Pl.memL ms).length : Int))) true (List.drop 0 (Pl.memL ms)) (0 : Int) (List.replicate 6 (IntKind.i64.wrap (Int.tdiv (16 : Int) (↑(Pl.memL ms).length : Int)))) (Int.tmod (16 : Int) (↑(Pl.memL ms).length : Int))).1 → (0 : Int) ≤ x ∧ x + (Pl.qLoop now (IntKind.i64.wrap (Int.tdiv (16 : Int) (↑(Pl.memL ms).length : Int))) true (List.drop 0 (Pl.memL ms)) (0 : Int) (List.replicate 6 (IntKind.i64.wrap (Int.tdiv (16 : Int) (↑(Pl.memL ms).length : Int)))) (Int.tmod (16 : Int) (↑(Pl.memL ms).length : Int))).2 ≤ (40 : Int)) (
                  .req ((0 : Int) = (0 : Int) ∧ (↑(Pl.memL ms).length : Int) = (↑(Pl.memL ms).length : Int) ∧ 0 = 0 ∧ 2 = 2 ∧ 2 = 2 ∧ (Pl.qLoop now (IntKind.i64.wrap (Int.tdiv (16 : Int) (↑(Pl.memL ms).length : Int))) true (List.drop 0 (Pl.memL ms)) (0 : Int) (List.replicate 6 (IntKind.i64.wrap (Int.tdiv (16 : Int) (↑(Pl.memL ms).length : Int)))) (Int.tmod (16 : Int) (↑(Pl.memL ms).length : Int))).2 = (Pl.qLoop now (IntKind.i64.wrap (Int.tdiv (16 : Int) (↑(Pl.memL ms).length : Int))) true (List.drop 0 (Pl.memL ms)) (0 : Int) (List.replicate 6 (IntKind.i64.wrap (Int.tdiv (16 : Int) (↑(Pl.memL ms).length : Int)))) (Int.tmod (16 : Int) (↑(Pl.memL ms).length : Int))).2 ∧ IntKind.i64.wrap (Int.tdiv (16 : Int) (↑(Pl.memL ms).length : Int)) = IntKind.i64.wrap (Int.tdiv (16 : Int) (↑(Pl.memL ms).length : Int)) ∧ (Pl.qLoop now (IntKind.i64.wrap (Int.tdiv (16 : Int) (↑(Pl.memL ms).length : Int))) true (List.drop 0 (Pl.memL ms)) (0 : Int) (List.replicate 6 (IntKind.i64.wrap (Int.tdiv (16 : Int) (↑(Pl.memL ms).length : Int)))) (Int.tmod (16 : Int) (↑(Pl.memL ms).length : Int))).1 = (Pl.qLoop now (IntKind.i64.wrap (Int.tdiv (16 : Int) (↑(Pl.memL ms).length : Int))) true (List.drop 0 (Pl.memL ms)) (0 : Int) (List.replicate 6 (IntKind.i64.wrap (Int.tdiv (16 : Int) (↑(Pl.memL ms).length : Int)))) (Int.tmod (16 : Int) (↑(Pl.memL ms).length : Int))).1 ∧ Pl.memL ms = Pl.memL ms ∧ now = now) (
                   .leaf (((Pl.qLoop now (IntKind.i64.wrap (Int.tdiv (16 : Int) (↑(Pl.memL ms).length : Int))) false (List.drop 0 (Pl.memL ms)) (0 : Int) (Pl.qLoop now (IntKind.i64.wrap (Int.tdiv (16 : Int) (↑(Pl.memL ms).length : Int))) true (List.drop 0 (Pl.memL ms)) (0 : Int) (List.replicate 6 (IntKind.i64.wrap (Int.tdiv (16 : Int) (↑(Pl.memL ms).length : Int)))) (Int.tmod (16 : Int) (↑(Pl.memL ms).length : Int))).1 (Pl.qLoop now (IntKind.i64.wrap (Int.tdiv (16 : Int) (↑(Pl.memL ms).length : Int))) true (List.drop 0 (Pl.memL ms)) (0 : Int) (List.replicate 6 (IntKind.i64.wrap (Int.tdiv (16 : Int) (↑(Pl.memL ms).length : Int)))) (Int.tmod (16 : Int) (↑(Pl.memL ms).length : Int))).2).1, ())))))))))))) (
          .fork (decide ((↑(Pl.memL ms).length : Int) = (7 : Int))) (
           .req ((0 : Int) ≤ (32 : Int)) (
            .req ((0 : Int) ≤ (32 : Int)) (
             .req ((0 : Int) ≤ (32 : Int)) (
              .req ((0 : Int) ≤ (32 : Int)) (
               .req ((0 : Int) ≤ (32 : Int)) (
                .req ((↑(Pl.memL ms).length : Int) = (↑(Pl.memL ms).length : Int) ∧ 7 = (Pl.memL ms).length ∧ (0 : Int) ≤ (0 : Int) ∧ (0 : Int) ≤ (↑(Pl.memL ms).length : Int) ∧ (Pl.memL ms).length ≤ 8 ∧ (0 : Int) ≤ Int.tmod (16 : Int) (↑(Pl.memL ms).length : Int) ∧ ∀ (x : Int), x ∈ List.replicate 7 (IntKind.i64.wrap (Int.tdiv (16 : Int) (↑(Pl.memL ms).length : Int))) → (0 : Int) ≤ x ∧ x + Int.tmod (16 : Int) (↑(Pl.memL ms).length : Int) ≤ (40 : Int)) (
                 .req ((0 : Int) = (0 : Int) ∧ (↑(Pl.memL ms).length : Int) = (↑(Pl.memL ms).length : Int) ∧ 0 = 0 ∧ 2 = 2 ∧ 2 = 2 ∧ Int.tmod (16 : Int) (↑(Pl.memL ms).length : Int) = Int.tmod (16 : Int) (↑(Pl.memL ms).length : Int) ∧ IntKind.i64.wrap (Int.tdiv (16 : Int) (↑(Pl.memL ms).length : Int)) = IntKind.i64.wrap (Int.tdiv (16 : Int) (↑(Pl.memL ms).length : Int)) ∧ List.replicate 7 (IntKind.i64.wrap (Int.tdiv (16 : Int) (↑(Pl.memL ms).length : Int))) = List.replicate 7 (IntKind.i64.wrap (Int.tdiv (16 : Int) (↑(Pl.memL ms).length : Int))) ∧ Pl.memL ms = Pl.memL ms ∧ now = now) (
                  .req ((↑(Pl.memL ms).length : Int) = (↑(Pl.memL ms).length : Int) ∧ (Pl.qLoop now (IntKind.i64.wrap (Int.tdiv (16 : Int) (↑(Pl.memL ms).length : Int))) true (List.drop 0 (Pl.memL ms)) (0 : Int) (List.replicate 7 (IntKind.i64.wrap (Int.tdiv (16 : Int) (↑(Pl.memL ms).length : Int)))) (Int.tmod (16 : Int) (↑(Pl.memL ms).length : Int))).1.length = (Pl.memL ms).length ∧ (0 : Int) ≤ (0 : Int) ∧ (0 : Int) ≤ (↑(Pl.memL ms).length : Int) ∧ (Pl.memL ms).length ≤ 8 ∧ (0 : Int) ≤ (Pl.qLoop now (IntKind.i64.wrap (Int.tdiv (16 : Int) (↑(Pl.memL ms).length : Int))) true (List.drop 0 (Pl.memL ms)) (0 : Int) (List.replicate 7 (IntKind.i64.wrap (Int.tdiv (16 : Int) (↑(Pl.memL ms).length : Int)))) (Int.tmod (16 : Int) (↑(Pl.memL ms).length : Int))).2 ∧ ∀ (x : Int), x ∈ (Pl.qLoop now (IntKind.i64.wrap (Int.tdiv (16 : Int) (↑(Pl.memL ms).length : Int))) true (List.drop 0 (Pl.memL ms)) (0 : Int) (List.replicate 7 (IntKind.i64.wrap (Int.tdiv (16 : Int) (↑(Pl.memL ms).length : Int)))) (Int.tmod (16 : Int) (↑(Pl.memL ms).length : Int))).1 → (0 : Int) ≤ x ∧ x + (Pl.qLoop now (IntKind.i64.wrap (Int.tdiv (16 : Int) (↑(Pl.memL ms).length : Int))) true (List.drop 0 (Pl.memL ms)) (0 : Int) (List.replicate 7 (IntKind.i64.wrap (Int.tdiv (16 : Int) (↑(Pl.memL ms).length : Int)))) (Int.tmod (16 : Int) (↑(Pl.memL ms).length : Int))).2 ≤ (40 : Int)) (
                   .req ((0 : Int) = (0 : Int) ∧ (↑(Pl.memL ms).length : Int) = (↑(Pl.memL ms).length : Int) ∧ 0 = 0 ∧ 2 = 2 ∧ 2 = 2 ∧ (Pl.qLoop now (IntKind.i64.wrap (Int.tdiv (16 : Int) (↑(Pl.memL ms).length : Int))) true (List.drop 0 (Pl.memL ms)) (0 : Int) (List.replicate 7 (IntKind.i64.wrap (Int.tdiv (16 : Int) (↑(Pl.memL ms).length : Int)))) (Int.tmod (16 : Int) (↑(Pl.memL ms).length : Int))).2 = (Pl.qLoop now (IntKind.i64.wrap (Int.tdiv (16 : Int) (↑(Pl.memL ms).length : Int))) true (List.drop 0 (Pl.memL ms)) (0 : Int) (List.replicate 7 (IntKind.i64.wrap (Int.tdiv (16 : Int) (↑(Pl.memL ms).length : Int)))) (Int.tmod (16 : Int) (↑(Pl.memL ms).length : Int))).2 ∧ IntKind.i64.wrap (Int.tdiv (16 : Int) (↑(Pl.memL ms).length : Int)) = IntKind.i64.wrap (Int.tdiv (16 : Int) (↑(Pl.memL ms).length : Int)) ∧ (Pl.qLoop now (IntKind.i64.wrap (Int.tdiv (16 : Int) (↑(Pl.memL ms).length : Int))) true (List.drop 0 (Pl.memL ms)) (0 : Int) (List.replicate 7 (IntKind.i64.wrap (Int.tdiv (16 : Int) (↑(Pl.memL ms).length : Int)))) (Int.tmod (16 : Int) (↑(Pl.memL ms).length : Int))).1 = (Pl.qLoop now (IntKind.i64.wrap (Int.tdiv (16 : Int) (↑(Pl.memL ms).length : Int))) true (List.drop 0 (Pl.memL ms)) (0 : Int) (List.replicate 7 (IntKind.i64.wrap (Int.tdiv (16 : Int) (↑(Pl.memL ms).length : Int)))) (Int.tmod (16 : Int) (↑(Pl.memL ms).length : Int))).1 ∧ Pl.memL ms = Pl.memL ms ∧ now = now) (
                    .leaf (((Pl.qLoop now (IntKind.i64.wrap (Int.tdiv (16 : Int) (↑(Pl.memL ms).length : Int))) false (List.drop 0 (Pl.memL ms)) (0 : Int) (Pl.qLoop now (IntKind.i64.wrap (Int.tdiv (16 : Int) (↑(Pl.memL ms).length : Int))) true (List.drop 0 (Pl.memL ms)) (0 : Int) (List.replicate 7 (IntKind.i64.wrap (Int.tdiv (16 : Int) (↑(Pl.memL ms).length : Int)))) (Int.tmod (16 : Int) (↑(Pl.memL ms).length : Int))).1 (Pl.qLoop now (IntKind.i64.wrap (Int.tdiv (16 : Int) (↑(Pl.memL ms).length : Int))) true (List.drop 0 (Pl.memL ms)) (0 : Int) (List.replicate 7 (IntKind.i64.wrap (Int.tdiv (16 : Int) (↑(Pl.memL ms).length : Int)))) (Int.tmod (16 : Int) (↑(Pl.memL ms).length : Int))).2).1, ())))))))))))) (
           .fork (decide ((↑(Pl.memL ms).length : Int) = (8 : Int))) (
            .req ((0 : Int) ≤ (32 : Int)) (
             .req ((0 : Int) ≤ (32 : Int)) (
              .req ((0 : Int) ≤ (32 : Int)) (
               .req ((0 : Int) ≤ (32 : Int)) (
                .req ((0 : Int) ≤ (32 : Int)) (
                 .req ((↑(Pl.memL ms).length : Int) = (↑(Pl.memL ms).length : Int) ∧ 8 = (Pl.memL ms).length ∧ (0 : Int) ≤ (0 : Int) ∧ (0 : Int) ≤ (↑(Pl.memL ms).length : Int) ∧ (Pl.memL ms).length ≤ 8 ∧ (0 : Int) ≤ Int.tmod (16 : Int) (↑(Pl.memL ms).length : Int) ∧ ∀ (x : Int), x ∈ List.replicate 8 (IntKind.i64.wrap (Int.tdiv (16 : Int) (↑(Pl.memL ms).length : Int))) → (0 : Int) ≤ x ∧ x + Int.tmod (16 : Int) (↑(Pl.memL ms).length : Int) ≤ (40 : Int)) (
                  .req ((0 : Int) = (0 : Int) ∧ (↑(Pl.memL ms).length : Int) = (↑(Pl.memL ms).length : Int) ∧ 0 = 0 ∧ 2 = 2 ∧ 2 = 2 ∧ Int.tmod (16 : Int) (↑(Pl.memL ms).length : Int) = Int.tmod (16 : Int) (↑(Pl.memL ms).length : Int) ∧ IntKind.i64.wrap (Int.tdiv (16 : Int) (↑(Pl.memL ms).length : Int)) = IntKind.i64.wrap (Int.tdiv (16 : Int) (↑(Pl.memL ms).length : Int)) ∧ List.replicate 8 (IntKind.i64.wrap (Int.tdiv (16 : Int) (↑(Pl.memL ms).length : Int))) = List.replicate 8 (IntKind.i64.wrap (Int.tdiv (16 : Int) (↑(Pl.memL ms).length : Int))) ∧ Pl.memL ms = Pl.memL ms ∧ now = now) (
                   .req ((↑(Pl.memL ms).length : Int) = (↑(Pl.memL ms).length : Int) ∧ (Pl.qLoop now (IntKind.i64.wrap (Int.tdiv (16 : Int) (↑(Pl.memL ms).length : Int))) true (List.drop 0 (Pl.memL ms)) (0 : Int) (List.replicate 8 (IntKind.i64.wrap (Int.tdiv (16 : Int) (↑(Pl.memL ms).length : Int)))) (Int.tmod (16 : Int) (↑(Pl.memL ms).length : Int))).1.length = (Pl.memL ms).length ∧ (0 : Int) ≤ (0 : Int) ∧ (0 : Int) ≤ (↑(Pl.memL ms).length : Int) ∧ (Pl.memL ms).length ≤ 8 ∧ (0 : Int) ≤ (Pl.qLoop now (IntKind.i64.wrap (Int.tdiv (16 : Int) (↑(Pl.memL ms).length : Int))) true (List.drop 0 (Pl.memL ms)) (0 : Int) (List.replicate 8 (IntKind.i64.wrap (Int.tdiv (16 : Int) (↑(Pl.memL ms).length : Int)))) (Int.tmod (16 : Int) (↑(Pl.memL ms).length : Int))).2 ∧ ∀ (x : Int), x ∈ (Pl.qLoop now (IntKind.i64.wrap (Int.tdiv (16 : Int) (↑(Pl.memL ms).length : Int))) true (List.drop 0 (Pl.memL ms)) (0 : Int) (List.replicate 8 (IntKind.i64.wrap (Int.tdiv (16 : Int) (↑(Pl.memL ms).length : Int)))) (Int.tmod (16 : Int) (↑(Pl.memL ms).length : Int))).1 → (0 : Int) ≤ x ∧ x + (Pl.qLoop now (IntKind.i64.wrap (Int.tdiv (16 : Int) (↑(Pl.memL ms).length : Int))) true (List.drop 0 (Pl.memL ms)) (0 : Int) (List.replicate 8 (IntKind.i64.wrap (Int.tdiv (16 : Int) (↑(Pl.memL ms).length : Int)))) (Int.tmod (16 : Int) (↑(Pl.memL ms).length : Int))).2 ≤ (40 : Int)) (
                    .req ((0 : Int) = (0 : Int) ∧ (↑(Pl.memL ms).length : Int) = (↑(Pl.memL ms).length : Int) ∧ 0 = 0 ∧ 2 = 2 ∧ 2 = 2 ∧ (Pl.qLoop now (IntKind.i64.wrap (Int.tdiv (16 : Int) (↑(Pl.memL ms).length : Int))) true (List.drop 0 (Pl.memL ms)) (0 : Int) (List.replicate 8 (IntKind.i64.wrap (Int.tdiv (16 : Int) (↑(Pl.memL ms).length : Int)))) (Int.tmod (16 : Int) (↑(Pl.memL ms).length : Int))).2 = (Pl.qLoop now (IntKind.i64.wrap (Int.tdiv (16 : Int) (↑(Pl.memL ms).length : Int))) true (List.drop 0 (Pl.memL ms)) (0 : Int) (List.replicate 8 (IntKind.i64.wrap (Int.tdiv (16 : Int) (↑(Pl.memL ms).length : Int)))) (Int.tmod (16 : Int) (↑(Pl.memL ms).length : Int))).2 ∧ IntKind.i64.wrap (Int.tdiv (16 : Int) (↑(Pl.memL ms).length : Int)) = IntKind.i64.wrap (Int.tdiv (16 : Int) (↑(Pl.memL ms).length : Int)) ∧ (Pl.qLoop now (IntKind.i64.wrap (Int.tdiv (16 : Int) (↑(Pl.memL ms).length : Int))) true (List.drop 0 (Pl.memL ms)) (0 : Int) (List.replicate 8 (IntKind.i64.wrap (Int.tdiv (16 : Int) (↑(Pl.memL ms).length : Int)))) (Int.tmod (16 : Int) (↑(Pl.memL ms).length : Int))).1 = (Pl.qLoop now (IntKind.i64.wrap (Int.tdiv (16 : Int) (↑(Pl.memL ms).length : Int))) true (List.drop 0 (Pl.memL ms)) (0 : Int) (List.replicate 8 (IntKind.i64.wrap (Int.tdiv (16 : Int) (↑(Pl.memL ms).length : Int)))) (Int.tmod (16 : Int) (↑(Pl.memL ms).length : Int))).1 ∧ Pl.memL ms = Pl.memL ms ∧ now = now) (
                     .leaf (((Pl.qLoop now (IntKind.i64.wrap (Int.tdiv (16 : Int) (↑(Pl.memL ms).length : Int))) false (List.drop 0 (Pl.memL ms)) (0 : Int) (Pl.qLoop now (IntKind.i64.wrap (Int.tdiv (16 : Int) (↑(Pl.memL ms).length : Int))) true (List.drop 0 (Pl.memL ms)) (0 : Int) (List.replicate 8 (IntKind.i64.wrap (Int.tdiv (16 : Int) (↑(Pl.memL ms).length : Int)))) (Int.tmod (16 : Int) (↑(Pl.memL ms).length : Int))).1 (Pl.qLoop now (IntKind.i64.wrap (Int.tdiv (16 : Int) (↑(Pl.memL ms).length : Int))) true (List.drop 0 (Pl.memL ms)) (0 : Int) (List.replicate 8 (IntKind.i64.wrap (Int.tdiv (16 : Int) (↑(Pl.memL ms).length : Int)))) (Int.tmod (16 : Int) (↑(Pl.memL ms).length : Int))).2).1, ())))))))))))) (
            .fail "no such number")))))))))))) : Tree (List Int × PUnit)) := by kernel_rfl
end Pl
namespace Pl
open Go Sx Go.Proofs Go.RowKit
theorem qLoop_len (now : List Int) (e : Int) (b : Bool) : ∀ (l : List Int) (i : Int) (out : List Int) (m : Int), (qLoop now e b l i out m).1.length = out.length
  | [], _, _, _ => rfl
  | x :: r, i, out, m => by
    simp only [qLoop]
    split
    · rw [qLoop_len]; simp
    · exact qLoop_len now e b r _ _ _
def okQ (out : List Int) (m : Int) : Prop := 0 ≤ m ∧ ∀ x ∈ out, 0 ≤ x ∧ x + m ≤ 40
theorem okQ_step {out : List Int} {m : Int} (h : okQ out m) (hm : m > 0) (k : Nat) (hk : k < out.length) : okQ (out.set k (out.getD k 0 + 1)) (m - 1) := by
  refine ⟨by omega, fun x hx => ?_⟩
  rcases List.mem_or_eq_of_mem_set hx with h1 | h1
  · have := h.2 x h1; omega
  · have hg : out.getD k 0 ∈ out := by rw [getD_get 0 hk]; exact List.getElem_mem hk
    have := h.2 _ hg
    omega
theorem qLoop_ok (now : List Int) (e : Int) (b : Bool) : ∀ (l : List Int) (i : Int) (out : List Int) (m : Int), 0 ≤ i → i + l.length ≤ out.length → okQ out m → okQ (qLoop now e b l i out m).1 (qLoop now e b l i out m).2
  | [], _, _, _, _, _, h => h
  | x :: r, i, out, m, h0, hl, h => by
    simp only [List.length_cons] at hl
    simp only [qLoop]
    split
    · rename_i hc
      simp only [Bool.and_eq_true, decide_eq_true_eq] at hc
      exact qLoop_ok now e b r _ _ _ (by omega) (by simp; omega) (okQ_step h hc.1 _ (by omega))
    · exact qLoop_ok now e b r _ _ _ (by omega) (by omega) h
theorem lQ1 (b : Bool) : ∀ st out, ((LQ b).sp st).reach out → CodeOK Try.prog Try.f16.ntmps (.loop (loopAt (bodyOf Try.f16) 1)) st out := by
  refine (LQ b).sound C2_ok (lps := []) (n := 100) (inner rfl) (fun _ => by cases b <;> rfl) ?_
  rintro ⟨now, l0, l1, n2, n3, i4, i5⟩ ⟨h1, h2, h3, h4, h5, h6, h7⟩
  simp only at h1 h2 h3 h4 h5 h6 h7
  have hq : okQ l0 n2 := ⟨h6, h7⟩
  have step : ∀ (c : i5 < i4), (qLoop now n3 b (l1.drop i5.toNat) i5 l0 n2) = if decide (n2 > 0) && (decide (hasL now (l1.getD i5.toNat 0) > n3) == b) then qLoop now n3 b (l1.drop (i5 + 1).toNat) (i5 + 1) (l0.set i5.toNat (l0.getD i5.toNat 0 + 1)) (n2 - 1) else qLoop now n3 b (l1.drop (i5 + 1).toNat) (i5 + 1) l0 n2 := fun c => by
    rw [drop_cons 0 h3 (by omega), qLoop]
  have hin : ∀ c : i5 < i4, (0 ≤ i5 ∧ i5 < (l1.length : Int)) ∧ (0 ≤ i5 ∧ i5 < (l0.length : Int)) := fun c => ⟨⟨h3, by omega⟩, ⟨h3, by omega⟩⟩
  have yes : ∀ (c : i5 < i4), (decide (n2 > 0) && (decide (hasL now (l1.getD i5.toNat 0) > n3) == b)) = true → (LQ b).Next ⟨now, l0, l1, n2, n3, i4, i5⟩ (some ⟨now, l0.set i5.toNat (IntKind.i64.wrap (l0.getD i5.toNat 0 + 1)), l1, IntKind.i64.wrap (n2 - 1), n3, i4, IntKind.i64.wrap (i5 + 1)⟩) := by
    intro c d
    have hn : n2 > 0 := by simp only [Bool.and_eq_true, decide_eq_true_eq] at d; exact d.1
    have hlt : i5.toNat < l0.length := by omega
    have hg : l0.getD i5.toNat 0 ∈ l0 := by rw [getD_get 0 hlt]; exact List.getElem_mem hlt
    have hb := h7 _ hg
    rw [IntWalk.i64_in (i5 + 1) (by omega), IntWalk.i64_in (n2 - 1) (by omega), IntWalk.i64_in (l0.getD i5.toNat 0 + 1) (by omega)]
    have hs := okQ_step hq hn _ hlt
    refine ⟨⟨h1, by simpa using h2, by dsimp only; omega, by dsimp only; omega, h5, hs.1, hs.2⟩, by simp only [LQ]; omega, ?_⟩
    simp only [LQ]
    rw [step c, if_pos d]
  have no : ∀ (c : i5 < i4), (decide (n2 > 0) && (decide (hasL now (l1.getD i5.toNat 0) > n3) == b)) = false → (LQ b).Next ⟨now, l0, l1, n2, n3, i4, i5⟩ (some ⟨now, l0, l1, n2, n3, i4, IntKind.i64.wrap (i5 + 1)⟩) := by
    intro c d
    rw [IntWalk.i64_in (i5 + 1) (by omega)]
    refine ⟨⟨h1, h2, by dsimp only; omega, by dsimp only; omega, h5, h6, h7⟩, by simp only [LQ]; omega, ?_⟩
    simp only [LQ]
    rw [step c, if_neg (by rw [d]; decide)]
  have hend : ∀ c : ¬ i5 < i4, (qLoop now n3 b (l1.drop i5.toNat) i5 l0 n2) = (l0, n2) := fun c => by
    rw [drop_end (by omega)]; rfl
  cases b with
  | true =>
    rw [rQt]
    simp only [Tree.all, true_and, and_true, implies_true, conjP, decide_eq_true_eq, decide_eq_false_iff_not]
    exact ⟨fun c => ⟨(hin c).1, (hin c).1, fun d => ⟨(hin c).2, (hin c).2, (hin c).2, (hin c).2, yes c d⟩, fun d => no c d⟩, fun c => by rw [hend c]; trivial⟩
  | false =>
    rw [rQf]
    simp only [Tree.all, true_and, and_true, implies_true, conjP, decide_eq_true_eq, decide_eq_false_iff_not]
    exact ⟨fun c => ⟨(hin c).1, (hin c).1, fun d => ⟨(hin c).2, (hin c).2, (hin c).2, (hin c).2, yes c d⟩, fun d => no c d⟩, fun c => by rw [hend c]; trivial⟩
theorem lQ : LpsOK Try.prog Try.f16 [(1, spQ)] := by
  refine .cons (fun st out h => ?_) .nil
  unfold spQ at h
  split at h
  · exact viaN_ok (lQ1 true) st out h
  · exact viaN_ok (lQ1 false) st out h
  · exact h.elim
end Pl
namespace Pl
open Go Sx Go.Proofs Go.RowKit
def qEach (n : Int) : Int := IntKind.i64.wrap (Int.tdiv 16 n)
def quotaM (now l : List Int) : List Int :=
  let n : Int := (l.length : Int)
  let r := qLoop now (qEach n) true l 0 (List.replicate l.length (qEach n)) (Int.tmod 16 n)
  (qLoop now (qEach n) false l 0 r.1 r.2).1
def quotaL (now ms : List Int) : List Int := if (memL ms).length = 0 then [] else quotaM now (memL ms)
theorem memL_len (ms : List Int) : (memL ms).length ≤ 8 := fltB_len _ _ _
theorem qNum {n : Int} (h0 : 1 ≤ n) (h1 : n ≤ 8) : 0 ≤ qEach n ∧ qEach n + Int.tmod 16 n ≤ 40 ∧ 0 ≤ Int.tmod 16 n ∧ Int.tmod 16 n < n := by
  have : n = 1 ∨ n = 2 ∨ n = 3 ∨ n = 4 ∨ n = 5 ∨ n = 6 ∨ n = 7 ∨ n = 8 := by omega
  rcases this with h | h | h | h | h | h | h | h <;> subst h <;> decide
theorem okQ0 {n : Int} (h0 : 1 ≤ n) (h1 : n ≤ 8) (k : Nat) : okQ (List.replicate k (qEach n)) (Int.tmod 16 n) := by
  obtain ⟨a, b, c, _⟩ := qNum h0 h1
  refine ⟨c, fun x hx => ?_⟩
  have := (List.mem_replicate.1 hx).2
  subst this
  exact ⟨a, b⟩
theorem quotaM_eq (now l : List Int) (k : Nat) (hk : l.length = k) : quotaM now l = (qLoop now (qEach (l.length : Int)) false l 0 (qLoop now (qEach (l.length : Int)) true l 0 (List.replicate k (qEach (l.length : Int))) (Int.tmod 16 (l.length : Int))).1 (qLoop now (qEach (l.length : Int)) true l 0 (List.replicate k (qEach (l.length : Int))) (Int.tmod 16 (l.length : Int))).2).1 := by
  subst hk; rfl
theorem quotas_t (now ms : List Int) (h : (ms.length : Int) < big) : (fnO C2 [(1, spQ)] 100 Try.f16 [ints, ints] [ints] (now, ms, ())).all fun y => y = (quotaL now ms, ()) := by
  rw [tQ]
  have h8 := memL_len ms
  unfold quotaL
  generalize memL ms = l at *
  have hq : ∀ k : Nat, l.length = k → 1 ≤ k → (k = l.length ∧ (0 : Int) ≤ 0 ∧ 0 ≤ (l.length : Int) ∧ l.length ≤ 8 ∧ 0 ≤ Int.tmod 16 (l.length : Int) ∧ ∀ x : Int, x ∈ List.replicate k (qEach (l.length : Int)) → 0 ≤ x ∧ x + Int.tmod 16 (l.length : Int) ≤ 40) := fun k hk h1 => by
    have := okQ0 (n := (l.length : Int)) (by omega) (by omega) k
    exact ⟨hk.symm, by omega, by omega, h8, this.1, this.2⟩
  have hr : ∀ k : Nat, l.length = k → 1 ≤ k → okQ (qLoop now (qEach (l.length : Int)) true l 0 (List.replicate k (qEach (l.length : Int))) (Int.tmod 16 (l.length : Int))).1 (qLoop now (qEach (l.length : Int)) true l 0 (List.replicate k (qEach (l.length : Int))) (Int.tmod 16 (l.length : Int))).2 ∧
      (qLoop now (qEach (l.length : Int)) true l 0 (List.replicate k (qEach (l.length : Int))) (Int.tmod 16 (l.length : Int))).1.length = l.length := fun k hk h1 =>
    ⟨qLoop_ok _ _ _ _ _ _ _ (by omega) (by simp; omega) (okQ0 (by omega) (by omega) k), by rw [qLoop_len]; simp [hk]⟩
  have e0 : List.drop 0 l = l := rfl
  have eE : IntKind.i64.wrap (Int.tdiv 16 (l.length : Int)) = qEach (l.length : Int) := rfl
  simp only [all_leaf, all_fork, all_req, e0, eE, true_and, and_true, decide_eq_true_eq, decide_eq_false_iff_not, beq_iff_eq, beq_eq_false_iff_ne, ne_eq]
  have hc : l.length = 0 ∨ l.length = 1 ∨ l.length = 2 ∨ l.length = 3 ∨ l.length = 4 ∨ l.length = 5 ∨ l.length = 6 ∨ l.length = 7 ∨ l.length = 8 := by omega
  refine ⟨h, fun c => by rw [if_pos (by omega)], fun c => ⟨c, c, ?_⟩⟩
  rw [if_neg (by omega)]
  exact ⟨fun c1 => ⟨by omega, by omega, by omega, by omega, by omega, hq 1 (by omega) (by omega), ⟨(hr 1 (by omega) (by omega)).2, by omega, by omega, h8, (hr 1 (by omega) (by omega)).1.1, (hr 1 (by omega) (by omega)).1.2⟩, by rw [quotaM_eq now l 1 (by omega)]; try rfl⟩, fun d1 => ⟨fun c1 => ⟨by omega, by omega, by omega, by omega, by omega, hq 2 (by omega) (by omega), ⟨(hr 2 (by omega) (by omega)).2, by omega, by omega, h8, (hr 2 (by omega) (by omega)).1.1, (hr 2 (by omega) (by omega)).1.2⟩, by rw [quotaM_eq now l 2 (by omega)]; try rfl⟩, fun d2 => ⟨fun c1 => ⟨by omega, by omega, by omega, by omega, by omega, hq 3 (by omega) (by omega), ⟨(hr 3 (by omega) (by omega)).2, by omega, by omega, h8, (hr 3 (by omega) (by omega)).1.1, (hr 3 (by omega) (by omega)).1.2⟩, by rw [quotaM_eq now l 3 (by omega)]; try rfl⟩, fun d3 => ⟨fun c1 => ⟨by omega, by omega, by omega, by omega, by omega, hq 4 (by omega) (by omega), ⟨(hr 4 (by omega) (by omega)).2, by omega, by omega, h8, (hr 4 (by omega) (by omega)).1.1, (hr 4 (by omega) (by omega)).1.2⟩, by rw [quotaM_eq now l 4 (by omega)]; try rfl⟩, fun d4 => ⟨fun c1 => ⟨by omega, by omega, by omega, by omega, by omega, hq 5 (by omega) (by omega), ⟨(hr 5 (by omega) (by omega)).2, by omega, by omega, h8, (hr 5 (by omega) (by omega)).1.1, (hr 5 (by omega) (by omega)).1.2⟩, by rw [quotaM_eq now l 5 (by omega)]; try rfl⟩, fun d5 => ⟨fun c1 => ⟨by omega, by omega, by omega, by omega, by omega, hq 6 (by omega) (by omega), ⟨(hr 6 (by omega) (by omega)).2, by omega, by omega, h8, (hr 6 (by omega) (by omega)).1.1, (hr 6 (by omega) (by omega)).1.2⟩, by rw [quotaM_eq now l 6 (by omega)]; try rfl⟩, fun d6 => ⟨fun c1 => ⟨by omega, by omega, by omega, by omega, by omega, hq 7 (by omega) (by omega), ⟨(hr 7 (by omega) (by omega)).2, by omega, by omega, h8, (hr 7 (by omega) (by omega)).1.1, (hr 7 (by omega) (by omega)).1.2⟩, by rw [quotaM_eq now l 7 (by omega)]; try rfl⟩, fun d7 => ⟨fun c1 => ⟨by omega, by omega, by omega, by omega, by omega, hq 8 (by omega) (by omega), ⟨(hr 8 (by omega) (by omega)).2, by omega, by omega, h8, (hr 8 (by omega) (by omega)).1.1, (hr 8 (by omega) (by omega)).1.2⟩, by rw [quotaM_eq now l 8 (by omega)]; try rfl⟩, fun d8 => by exfalso; omega⟩⟩⟩⟩⟩⟩⟩⟩
theorem quotas_own : PureOwnOK Try.prog 16 [ints, ints] [ints] (fun x => (List.length (α := Int) x.2.1 : Int) < big) (fun x => (quotaL x.1 x.2.1, ())) :=
  fn_own (E := C2) (n := 100) C2_ok Try.func16 bodyQ lQ fun x h => quotas_t x.1 x.2.1 h
theorem quotas_ok : PureOK Try.prog 16 [ints, ints] [ints] (fun x => (List.length (α := Int) x.2.1 : Int) < big) (fun x => (quotaL x.1 x.2.1, ())) := quotas_own.pure
end Pl
namespace Pl
open Go Sx Go.Proofs Go.RowKit
abbrev Deal : Ty := .cat ints (.cat ints (.rep 16 i64))
abbrev DealD : Type := List Int × List Int × List Int
theorem bodyBs : Try.f31.body = some (bodyOf Try.f31) := by kernel_rfl
theorem bodyBe : Try.f26.body = some (bodyOf Try.f26) := by kernel_rfl
theorem bodyGi : Try.f25.body = some (bodyOf Try.f25) := by kernel_rfl
theorem bodyAs : Try.f14.body = some (bodyOf Try.f14) := by kernel_rfl
def bsd (to : List Int) (p n : Int) : Bool := to.getD ((p + 1) % 16).toNat 0 == n || to.getD ((p + 15) % 16).toNat 0 == n
noncomputable abbrev W0 : Ex := mkExM Try.prog []
theorem W0_ok : W0.Sound := mkExM_sound trivial
theorem tBs (d : DealD) (p n : Int) : @Eq _
  (fnT W0 [] 100 Try.f31 [.ptr Deal, i64, i64] [.bool] (d, p, n, ()))
  (.req ((16 : Int) ≠ (0 : Int) ∧ ((0 : Int) ≤ (IntKind.i64.wrap (p + (1 : Int))).tmod (16 : Int) ∧ (IntKind.i64.wrap (p + (1 : Int))).tmod (16 : Int) < (16 : Int)) ∧ ((0 : Int) ≤ (IntKind.i64.wrap (p + (1 : Int))).tmod (16 : Int) ∧ (IntKind.i64.wrap (p + (1 : Int))).tmod (16 : Int) < (16 : Int)) ∧ (((tab 16 d.2.2 (0 : Int)).getD ((IntKind.i64.wrap (p + (1 : Int))).tmod (16 : Int)).toNat (0 : Int) == n) = false → conjP [(16 : Int) ≠ (0 : Int), (0 : Int) ≤ (IntKind.i64.wrap (IntKind.i64.wrap (p + (16 : Int)) - (1 : Int))).tmod (16 : Int) ∧ (IntKind.i64.wrap (IntKind.i64.wrap (p + (16 : Int)) - (1 : Int))).tmod (16 : Int) < (16 : Int), (0 : Int) ≤ (IntKind.i64.wrap (IntKind.i64.wrap (p + (16 : Int)) - (1 : Int))).tmod (16 : Int) ∧ (IntKind.i64.wrap (IntKind.i64.wrap (p + (16 : Int)) - (1 : Int))).tmod (16 : Int) < (16 : Int)])) (
 .leaf (((tab 16 d.2.2 (0 : Int)).getD ((IntKind.i64.wrap (p + (1 : Int))).tmod (16 : Int)).toNat (0 : Int) == n || (tab 16 d.2.2 (0 : Int)).getD ((IntKind.i64.wrap (IntKind.i64.wrap (p + (16 : Int)) - (1 : Int))).tmod (16 : Int)).toNat (0 : Int) == n, ()))) : Tree (Bool × PUnit)) := by kernel_rfl
def bstC (to lacks : List Int) (p : Int) (ap : Bool) : List Int → Int → Int → Int
  | [], _, out => out
  | n :: r, i, out => bstC to lacks p ap r (i + 1) (if decide (lacks.getD i.toNat 0 > 0) && !(ap && bsd to p n) && (decide (out < 0) || decide (lacks.getD i.toNat 0 > lacks.getD out.toNat 0)) then i else out)
noncomputable abbrev W1 : Ex := mkExM Try.prog [(31, pureSp [.ptr Deal, i64, i64] [.bool] (fun x => List.length (α := Int) x.1.2.2 = 16 ∧ 0 ≤ x.2.1 ∧ x.2.1 < 16) (fun x => (bsd x.1.2.2 x.2.1 x.2.2.1, ())))]
structure ABe where
  d : Pl.DealD
  p : Int
  ap : Bool
  i0 : Int
  i1 : Int
def LBe : LoopC ABe where
  n0 := 3
  det st := match datG st 0 0 Deal, intS st 1, boolS st 2, intS st 15, intS st 7 with | some d, some p, some ap, some i0, some i1 => some ⟨d, p, ap, i0, i1⟩ | _, _, _, _, _ => none
  inv a := ⟨[(15, iv a.i0), (14, iv (↑a.d.1.length : Int)), (13, .one (.row 1)), (7, iv a.i1), (0, .one (.ptr 0 0)), (1, iv a.p), (2, .one (.bool a.ap))],
    [(0, .rob [.row 1, .row 2, .int .i64 (a.d.2.2.getD 0 (0 : Int)), .int .i64 (a.d.2.2.getD 1 (0 : Int)), .int .i64 (a.d.2.2.getD 2 (0 : Int)), .int .i64 (a.d.2.2.getD 3 (0 : Int)), .int .i64 (a.d.2.2.getD 4 (0 : Int)), .int .i64 (a.d.2.2.getD 5 (0 : Int)), .int .i64 (a.d.2.2.getD 6 (0 : Int)), .int .i64 (a.d.2.2.getD 7 (0 : Int)), .int .i64 (a.d.2.2.getD 8 (0 : Int)), .int .i64 (a.d.2.2.getD 9 (0 : Int)), .int .i64 (a.d.2.2.getD 10 (0 : Int)), .int .i64 (a.d.2.2.getD 11 (0 : Int)), .int .i64 (a.d.2.2.getD 12 (0 : Int)), .int .i64 (a.d.2.2.getD 13 (0 : Int)), .int .i64 (a.d.2.2.getD 14 (0 : Int)), .int .i64 (a.d.2.2.getD 15 (0 : Int))]), (1, .ro i64 a.d.1), (2, .ro i64 a.d.2.1)], 3⟩
  ok a := a.d.2.2.length = 16 ∧ a.d.2.1.length = a.d.1.length ∧ a.d.1.length ≤ 8 ∧ 0 ≤ a.p ∧ a.p < 16 ∧ 0 ≤ a.i0 ∧ a.i0 ≤ a.d.1.length ∧ -1 ≤ a.i1 ∧ a.i1 < a.d.1.length
  mu a := a.d.1.length - a.i0.toNat
  fin a := .leaf ⟨2, ⟨[(7, iv (bstC a.d.2.2 a.d.2.1 a.p a.ap (a.d.1.drop a.i0.toNat) a.i0 a.i1))], [], 3⟩⟩
theorem rBe (d : DealD) (p : Int) (ap : Bool) (i0 i1 : Int) : @Eq _
  (LBe.round W1 [] 100 Try.f26 0 ⟨d, p, ap, i0, i1⟩)
  (.fork (decide (i0 < (↑d.1.length : Int))) (
 .req ((0 : Int) ≤ i0 ∧ i0 < (↑d.1.length : Int)) (
  .req ((0 : Int) ≤ i0 ∧ i0 < (↑d.1.length : Int)) (
   .req (((0 : Int) ≤ i0 ∧ i0 < (↑d.2.1.length : Int)) ∧ ((0 : Int) ≤ i0 ∧ i0 < (↑d.2.1.length : Int)) ∧ (decide (d.2.1.getD i0.toNat (0 : Int) > (0 : Int)) = true → conjP [ap = true → conjP [16 = 16 ∧ (0 : Int) ≤ p ∧ p < (16 : Int), (!Pl.bsd (tab 16 d.2.2 (0 : Int)) p (d.1.getD i0.toNat (0 : Int))) = true → conjP [decide (i1 < (0 : Int)) = false → conjP [(0 : Int) ≤ i0 ∧ i0 < (↑d.2.1.length : Int), (0 : Int) ≤ i0 ∧ i0 < (↑d.2.1.length : Int), (0 : Int) ≤ i1 ∧ i1 < (↑d.2.1.length : Int), (0 : Int) ≤ i1 ∧ i1 < (↑d.2.1.length : Int)]]], ap = false → conjP [decide (i1 < (0 : Int)) = false → conjP [(0 : Int) ≤ i0 ∧ i0 < (↑d.2.1.length : Int), (0 : Int) ≤ i0 ∧ i0 < (↑d.2.1.length : Int), (0 : Int) ≤ i1 ∧ i1 < (↑d.2.1.length : Int), (0 : Int) ≤ i1 ∧ i1 < (↑d.2.1.length : Int)]]])) (
    .fork (decide (d.2.1.getD i0.toNat (0 : Int) > (0 : Int)) && bif ap then !Pl.bsd (tab 16 d.2.2 (0 : Int)) p (d.1.getD i0.toNat (0 : Int)) && (decide (i1 < (0 : Int)) || decide (d.2.1.getD i0.toNat (0 : Int) > d.2.1.getD i1.toNat (0 : Int))) else decide (i1 < (0 : Int)) || decide (d.2.1.getD i0.toNat (0 : Int) > d.2.1.getD i1.toNat (0 : Int))) (
     .req (IntKind.i64.wrap (i0 + (1 : Int)) = IntKind.i64.wrap (i0 + (1 : Int)) ∧ (↑d.1.length : Int) = (↑d.1.length : Int) ∧ i0 = i0 ∧ p = p ∧ ap = ap ∧ d.2.2.getD 0 (0 : Int) = (tab 16 d.2.2 (0 : Int)).getD 0 (0 : Int) ∧ d.2.2.getD 1 (0 : Int) = (tab 16 d.2.2 (0 : Int)).getD 1 (0 : Int) ∧ d.2.2.getD 2 (0 : Int) = (tab 16 d.2.2 (0 : Int)).getD 2 (0 : Int) ∧ d.2.2.getD 3 (0 : Int) = (tab 16 d.2.2 (0 : Int)).getD 3 (0 : Int) ∧ d.2.2.getD 4 (0 : Int) = (tab 16 d.2.2 (0 : Int)).getD 4 (0 : Int) ∧ d.2.2.getD 5 (0 : Int) = (tab 16 d.2.2 (0 : Int)).getD 5 (0 : Int) ∧ d.2.2.getD 6 (0 : Int) = (tab 16 d.2.2 (0 : Int)).getD 6 (0 : Int) ∧ d.2.2.getD 7 (0 : Int) = (tab 16 d.2.2 (0 : Int)).getD 7 (0 : Int) ∧ d.2.2.getD 8 (0 : Int) = (tab 16 d.2.2 (0 : Int)).getD 8 (0 : Int) ∧ d.2.2.getD 9 (0 : Int) = (tab 16 d.2.2 (0 : Int)).getD 9 (0 : Int) ∧ d.2.2.getD 10 (0 : Int) = (tab 16 d.2.2 (0 : Int)).getD 10 (0 : Int) ∧ d.2.2.getD 11 (0 : Int) = (tab 16 d.2.2 (0 : Int)).getD 11 (0 : Int) ∧ d.2.2.getD 12 (0 : Int) = (tab 16 d.2.2 (0 : Int)).getD 12 (0 : Int) ∧ d.2.2.getD 13 (0 : Int) = (tab 16 d.2.2 (0 : Int)).getD 13 (0 : Int) ∧ d.2.2.getD 14 (0 : Int) = (tab 16 d.2.2 (0 : Int)).getD 14 (0 : Int) ∧ d.2.2.getD 15 (0 : Int) = (tab 16 d.2.2 (0 : Int)).getD 15 (0 : Int) ∧ d.1 = d.1 ∧ d.2.1 = d.2.1) (
      .leaf (Option.some { d := (d.1, d.2.1, tab 16 d.2.2 (0 : Int)), p := p, ap := ap, i0 := IntKind.i64.wrap (i0 + (1 : Int)), i1 := i0 }))) (
     .req (IntKind.i64.wrap (i0 + (1 : Int)) = IntKind.i64.wrap (i0 + (1 : Int)) ∧ (↑d.1.length : Int) = (↑d.1.length : Int) ∧ i1 = i1 ∧ p = p ∧ ap = ap ∧ d.2.2.getD 0 (0 : Int) = (tab 16 d.2.2 (0 : Int)).getD 0 (0 : Int) ∧ d.2.2.getD 1 (0 : Int) = (tab 16 d.2.2 (0 : Int)).getD 1 (0 : Int) ∧ d.2.2.getD 2 (0 : Int) = (tab 16 d.2.2 (0 : Int)).getD 2 (0 : Int) ∧ d.2.2.getD 3 (0 : Int) = (tab 16 d.2.2 (0 : Int)).getD 3 (0 : Int) ∧ d.2.2.getD 4 (0 : Int) = (tab 16 d.2.2 (0 : Int)).getD 4 (0 : Int) ∧ d.2.2.getD 5 (0 : Int) = (tab 16 d.2.2 (0 : Int)).getD 5 (0 : Int) ∧ d.2.2.getD 6 (0 : Int) = (tab 16 d.2.2 (0 : Int)).getD 6 (0 : Int) ∧ d.2.2.getD 7 (0 : Int) = (tab 16 d.2.2 (0 : Int)).getD 7 (0 : Int) ∧ d.2.2.getD 8 (0 : Int) = (tab 16 d.2.2 (0 : Int)).getD 8 (0 : Int) ∧ d.2.2.getD 9 (0 : Int) = (tab 16 d.2.2 (0 : Int)).getD 9 (0 : Int) ∧ d.2.2.getD 10 (0 : Int) = (tab 16 d.2.2 (0 : Int)).getD 10 (0 : Int) ∧ d.2.2.getD 11 (0 : Int) = (tab 16 d.2.2 (0 : Int)).getD 11 (0 : Int) ∧ d.2.2.getD 12 (0 : Int) = (tab 16 d.2.2 (0 : Int)).getD 12 (0 : Int) ∧ d.2.2.getD 13 (0 : Int) = (tab 16 d.2.2 (0 : Int)).getD 13 (0 : Int) ∧ d.2.2.getD 14 (0 : Int) = (tab 16 d.2.2 (0 : Int)).getD 14 (0 : Int) ∧ d.2.2.getD 15 (0 : Int) = (tab 16 d.2.2 (0 : Int)).getD 15 (0 : Int) ∧ d.1 = d.1 ∧ d.2.1 = d.2.1) (
      .leaf (Option.some { d := (d.1, d.2.1, tab 16 d.2.2 (0 : Int)), p := p, ap := ap, i0 := IntKind.i64.wrap (i0 + (1 : Int)), i1 := i1 }))))))) (
 .req (i1 = Pl.bstC d.2.2 d.2.1 p ap (List.drop i0.toNat d.1) i0 i1) (
  .leaf (Option.none))) : Tree (Option Pl.ABe)) := by kernel_rfl
theorem tBe (d : DealD) (p : Int) (ap : Bool) : @Eq _
  (fnT W1 [(0, LBe.sp)] 100 Try.f26 [.ptr Deal, i64, .bool] [i64] (d, p, ap, ()))
  (.req (16 = 16 ∧ d.2.1.length = d.1.length ∧ d.1.length ≤ 8 ∧ (0 : Int) ≤ p ∧ p < (16 : Int) ∧ (0 : Int) ≤ (0 : Int) ∧ (0 : Int) ≤ (↑d.1.length : Int) ∧ (-1 : Int) ≤ (-1 : Int) ∧ (-1 : Int) < (↑d.1.length : Int)) (
 .req ((0 : Int) = (0 : Int) ∧ (↑d.1.length : Int) = (↑d.1.length : Int) ∧ (-1 : Int) = (-1 : Int) ∧ p = p ∧ ap = ap ∧ d.2.2.getD 0 (0 : Int) = (tab 16 d.2.2 (0 : Int)).getD 0 (0 : Int) ∧ d.2.2.getD 1 (0 : Int) = (tab 16 d.2.2 (0 : Int)).getD 1 (0 : Int) ∧ d.2.2.getD 2 (0 : Int) = (tab 16 d.2.2 (0 : Int)).getD 2 (0 : Int) ∧ d.2.2.getD 3 (0 : Int) = (tab 16 d.2.2 (0 : Int)).getD 3 (0 : Int) ∧ d.2.2.getD 4 (0 : Int) = (tab 16 d.2.2 (0 : Int)).getD 4 (0 : Int) ∧ d.2.2.getD 5 (0 : Int) = (tab 16 d.2.2 (0 : Int)).getD 5 (0 : Int) ∧ d.2.2.getD 6 (0 : Int) = (tab 16 d.2.2 (0 : Int)).getD 6 (0 : Int) ∧ d.2.2.getD 7 (0 : Int) = (tab 16 d.2.2 (0 : Int)).getD 7 (0 : Int) ∧ d.2.2.getD 8 (0 : Int) = (tab 16 d.2.2 (0 : Int)).getD 8 (0 : Int) ∧ d.2.2.getD 9 (0 : Int) = (tab 16 d.2.2 (0 : Int)).getD 9 (0 : Int) ∧ d.2.2.getD 10 (0 : Int) = (tab 16 d.2.2 (0 : Int)).getD 10 (0 : Int) ∧ d.2.2.getD 11 (0 : Int) = (tab 16 d.2.2 (0 : Int)).getD 11 (0 : Int) ∧ d.2.2.getD 12 (0 : Int) = (tab 16 d.2.2 (0 : Int)).getD 12 (0 : Int) ∧ d.2.2.getD 13 (0 : Int) = (tab 16 d.2.2 (0 : Int)).getD 13 (0 : Int) ∧ d.2.2.getD 14 (0 : Int) = (tab 16 d.2.2 (0 : Int)).getD 14 (0 : Int) ∧ d.2.2.getD 15 (0 : Int) = (tab 16 d.2.2 (0 : Int)).getD 15 (0 : Int) ∧ d.1 = d.1 ∧ d.2.1 = d.2.1) (
  .leaf ((Pl.bstC (tab 16 d.2.2 (0 : Int)) d.2.1 p ap (List.drop 0 d.1) (0 : Int) (-1 : Int), ())))) : Tree (Int × PUnit)) := by kernel_rfl
end Pl
namespace Pl
open Go Sx Go.Proofs Go.RowKit
theorem bs_t (d : DealD) (p n : Int) (h : d.2.2.length = 16) (h0 : 0 ≤ p) (h1 : p < 16) : (fnT W0 [] 100 Try.f31 [.ptr Deal, i64, i64] [.bool] (d, p, n, ())).all fun y => y = (bsd d.2.2 p n, ()) := by
  refine Tree.all_eq (tBs d p n) ?_
  show Tree.all (α := Bool × Unit) _ (fun y => y = (bsd d.2.2 p n, ()))
  rw [tab_eq h]
  simp only [all_leaf, all_req, conjP, and_true]
  unfold bsd
  rw [IntWalk.i64_in (p + 1) (by omega), IntWalk.i64_in (p + 16) (by omega), IntWalk.i64_in (p + 16 - 1) (by omega), Int.tmod_eq_emod_of_nonneg (by omega), Int.tmod_eq_emod_of_nonneg (by omega), show p + 16 - 1 = p + 15 by omega]
  exact ⟨⟨by decide, by omega, by omega, fun _ => ⟨by decide, by omega, by omega⟩⟩, rfl⟩
theorem bs_ok : PureOK Try.prog 31 [.ptr Deal, i64, i64] [.bool] (fun x => List.length (α := Int) x.1.2.2 = 16 ∧ 0 ≤ x.2.1 ∧ x.2.1 < 16) (fun x => (bsd x.1.2.2 x.2.1 x.2.2.1, ())) :=
  fn_pure (E := W0) (n := 100) W0_ok Try.func31 bodyBs .nil fun x h => bs_t x.1 x.2.1 x.2.2.1 h.1 h.2.1 h.2.2
abbrev KBs : Nat × Sx.Spec := (31, pureSp [.ptr Deal, i64, i64] [.bool] (fun x => List.length (α := Int) x.1.2.2 = 16 ∧ 0 ≤ x.2.1 ∧ x.2.1 < 16) (fun x => (bsd x.1.2.2 x.2.1 x.2.2.1, ())))
theorem W1_ok : W1.Sound := mkExM_sound ⟨pureSp_ok bs_ok, trivial⟩
theorem bstC_range (to lacks : List Int) (p : Int) (ap : Bool) (N : Int) : ∀ (l : List Int) (i out : Int), 0 ≤ i → i + l.length ≤ N → -1 ≤ out → out < N → -1 ≤ bstC to lacks p ap l i out ∧ bstC to lacks p ap l i out < N
  | [], _, _, _, _, h, h' => ⟨h, h'⟩
  | n :: r, i, out, h0, h1, h, h' => by
    simp only [List.length_cons, Int.natCast_add] at h1
    simp only [bstC]
    refine bstC_range to lacks p ap N r (i + 1) _ (by omega) (by omega) ?_ ?_
    · split <;> omega
    · split <;> omega
theorem lBe : LpsOK Try.prog Try.f26 [(0, LBe.sp)] := by
  refine .cons (LBe.sound W1_ok (lps := []) (n := 100) (inner rfl) (fun _ => rfl) ?_) .nil
  rintro ⟨d, p, ap, i0, i1⟩ ⟨h16, hl, h8, hp0, hp1, h0, h1, h2, h3⟩
  simp only at h16 hl h8 hp0 hp1 h0 h1 h2 h3
  rw [rBe, tab_eq h16]
  have step : ∀ c : i0 < d.1.length, bstC d.2.2 d.2.1 p ap (d.1.drop i0.toNat) i0 i1 = bstC d.2.2 d.2.1 p ap (d.1.drop (i0 + 1).toNat) (i0 + 1) (if decide (d.2.1.getD i0.toNat 0 > 0) && !(ap && bsd d.2.2 p (d.1.getD i0.toNat 0)) && (decide (i1 < 0) || decide (d.2.1.getD i0.toNat 0 > d.2.1.getD i1.toNat 0)) then i0 else i1) := fun c => by
    rw [drop_cons 0 h0 (by omega), bstC]
  have cond : (decide (d.2.1.getD i0.toNat 0 > 0) && bif ap then !Pl.bsd d.2.2 p (d.1.getD i0.toNat 0) && (decide (i1 < 0) || decide (d.2.1.getD i0.toNat 0 > d.2.1.getD i1.toNat 0)) else decide (i1 < 0) || decide (d.2.1.getD i0.toNat 0 > d.2.1.getD i1.toNat 0)) = (decide (d.2.1.getD i0.toNat 0 > 0) && !(ap && bsd d.2.2 p (d.1.getD i0.toNat 0)) && (decide (i1 < 0) || decide (d.2.1.getD i0.toNat 0 > d.2.1.getD i1.toNat 0))) := by
    cases ap <;> simp [Bool.and_assoc]
  rw [cond]
  simp only [all_leaf, all_fork, all_req, conjP, and_true, true_and, implies_true, decide_eq_true_eq, decide_eq_false_iff_not]
  refine ⟨fun c => ?_, fun c => ⟨?_, ?_⟩⟩
  · have hw := IntWalk.i64_in (i0 + 1) (by omega)
    have nx : ∀ v : Int, v = (if (decide (d.2.1.getD i0.toNat 0 > 0) && !(ap && bsd d.2.2 p (d.1.getD i0.toNat 0)) && (decide (i1 < 0) || decide (d.2.1.getD i0.toNat 0 > d.2.1.getD i1.toNat 0))) = true then i0 else i1) → LBe.Next ⟨d, p, ap, i0, i1⟩ (some ⟨(d.1, d.2.1, d.2.2), p, ap, IntKind.i64.wrap (i0 + 1), v⟩) := by
      intro v hv
      rw [hw]
      refine ⟨⟨h16, hl, h8, hp0, hp1, by dsimp only; omega, by dsimp only; omega, ?_, ?_⟩, by simp only [LBe]; omega, ?_⟩
      · dsimp only; rw [hv]; split <;> omega
      · dsimp only; rw [hv]; split <;> omega
      · simp only [LBe]; rw [step c, hv]
    refine ⟨by omega, by omega, ⟨by omega, by omega, fun _ => ?_⟩, fun t => nx _ (by rw [if_pos t]), fun t => nx _ (by rw [if_neg (by rw [t]; decide)])⟩
    have q : ¬ i1 < 0 → (0 ≤ i0 ∧ i0 < (d.2.1.length : Int)) ∧ (0 ≤ i0 ∧ i0 < (d.2.1.length : Int)) ∧ (0 ≤ i1 ∧ i1 < (d.2.1.length : Int)) ∧ 0 ≤ i1 ∧ i1 < (d.2.1.length : Int) := fun z => ⟨by omega, by omega, by omega, by omega⟩
    exact ⟨fun _ => ⟨⟨hp0, hp1⟩, fun _ => q⟩, fun _ => q⟩
  · rw [drop_end (by omega)]; rfl
  · trivial
def bstL (d : DealD) (p : Int) (ap : Bool) : Int := bstC d.2.2 d.2.1 p ap d.1 0 (-1)
theorem best_t (d : DealD) (p : Int) (ap : Bool) (h16 : d.2.2.length = 16) (hl : d.2.1.length = d.1.length) (h8 : d.1.length ≤ 8) (h0 : 0 ≤ p) (h1 : p < 16) : (fnT W1 [(0, LBe.sp)] 100 Try.f26 [.ptr Deal, i64, .bool] [i64] (d, p, ap, ())).all fun y => y = (bstL d p ap, ()) := by
  refine Tree.all_eq (tBe d p ap) ?_
  show Tree.all (α := Int × Unit) _ (fun y => y = (bstL d p ap, ()))
  rw [tab_eq h16]
  simp only [all_leaf, all_req, and_true, true_and]
  exact ⟨⟨hl, h8, h0, h1, by omega, by omega, by omega, by omega⟩, rfl⟩
theorem best_ok : PureOK Try.prog 26 [.ptr Deal, i64, .bool] [i64] (fun x => List.length (α := Int) x.1.2.2 = 16 ∧ List.length (α := Int) x.1.2.1 = List.length (α := Int) x.1.1 ∧ List.length (α := Int) x.1.1 ≤ 8 ∧ 0 ≤ x.2.1 ∧ x.2.1 < 16) (fun x => (bstL x.1 x.2.1 x.2.2.1, ())) :=
  fn_pure (E := W1) (n := 100) W1_ok Try.func26 bodyBe lBe fun x h => best_t x.1 x.2.1 x.2.2.1 h.1 h.2.1 h.2.2.1 h.2.2.2.1 h.2.2.2.2
abbrev KBe : Nat × Sx.Spec := (26, pureSp [.ptr Deal, i64, .bool] [i64] (fun x => List.length (α := Int) x.1.2.2 = 16 ∧ List.length (α := Int) x.1.2.1 = List.length (α := Int) x.1.1 ∧ List.length (α := Int) x.1.1 ≤ 8 ∧ 0 ≤ x.2.1 ∧ x.2.1 < 16) (fun x => (bstL x.1 x.2.1 x.2.2.1, ())))
end Pl
namespace Pl
open Go Sx Go.Proofs Go.RowKit

theorem own_cap {w : World} {base e : Nat} {v : Value} {xs : List Int} (h : w.ownsRow base e 1 v xs.length (xs.map (Value.int .i64))) : v = .slice none 0 0 ∧ xs = [] ∨ ∃ g cap cur T, v = .slice (some ⟨g, 0, none⟩) xs.length cap ∧ base ≤ g ∧ w.heap[g]? = some (.cells cur T (0, 0)) ∧ xs.length ≤ cap ∧ cur.size = cap ∧ ∀ (i : Nat) (x : Int), xs[i]? = some x → cur[i]? = some (Value.int .i64 x) := by
  rcases h.2 with ⟨e0, e1⟩ | ⟨g, cap, cur, rfl, hb, hg, hn, _, hs, ht⟩
  · exact .inl ⟨e0, List.eq_nil_of_length_eq_zero e1⟩
  · refine .inr ⟨g, cap, cur, _, rfl, hb, hg, hn, by omega, fun i x hx => ?_⟩
    have hi : i < xs.length := (List.getElem?_eq_some_iff.1 hx).1
    have h2 : (cur.toList.take (xs.length * 1))[i]? = some (Value.int .i64 x) := by rw [ht]; simp [hx]
    rw [Nat.mul_one, List.getElem?_take_of_lt hi] at h2
    simpa using h2
theorem clone_fresh (Q : Nat → Prop) (w : World) (xs : List Int) (v : Value) (h : IntsV Q w xs v) (hbig : (xs.length : Int) < 17592186044416) :
    Calls Try.prog 27 #[v] w fun e w' => ∃ A cap, e = .returned (.slice A xs.length cap) ∧ xs.length ≤ cap ∧ Below w.heap.size w w' ∧
      ((A = none ∧ xs = [] ∧ cap = 0) ∨ ∃ b o cs T, A = some ⟨b, o, none⟩ ∧ w.heap.size ≤ b ∧ w'.heap[b]? = some (.cells cs T (0, 0)) ∧ o + cap * 1 ≤ cs.size ∧ ∀ (i : Nat) (x : Int), xs[i]? = some x → cs[o + i]? = some (Value.int .i64 x)) := by
  obtain ⟨A, cap, rfl, hcap, hrow⟩ := h
  have fin : ∀ (e : Ending) (w' : World) (v' : Value), e = .returned v' → w'.ownsRow w.heap.size 3 1 v' xs.length (xs.map (Value.int .i64)) → Below w.heap.size w w' →
      ∃ A cap, e = .returned (.slice A xs.length cap) ∧ xs.length ≤ cap ∧ Below w.heap.size w w' ∧
      ((A = none ∧ xs = [] ∧ cap = 0) ∨ ∃ b o cs T, A = some ⟨b, o, none⟩ ∧ w.heap.size ≤ b ∧ w'.heap[b]? = some (.cells cs T (0, 0)) ∧ o + cap * 1 ≤ cs.size ∧ ∀ (i : Nat) (x : Int), xs[i]? = some x → cs[o + i]? = some (Value.int .i64 x)) := by
    intro e w' v' he hown hb
    rcases own_cap hown with ⟨e1, e2⟩ | ⟨g, c, cur, T, e1, hg, hh, hc, hs, hx⟩
    · subst e2
      exact ⟨none, 0, by rw [he, e1]; rfl, Nat.le_refl _, hb, .inl ⟨rfl, rfl, rfl⟩⟩
    · exact ⟨some ⟨g, 0, none⟩, c, by rw [he, e1], hc, hb, .inr ⟨g, 0, cur, T, rfl, hg, hh, by omega, fun i x hi => by rw [Nat.zero_add]; exact hx i x hi⟩⟩
  cases A with
  | none =>
    refine (Any.slices_Clone_int_nil Try.laysClone _ cap w).mono ?_
    rintro e w' ⟨rfl, rfl⟩
    cases xs with
    | nil => exact fin _ _ _ rfl ⟨rfl, .inl ⟨rfl, rfl⟩⟩ (Below.refl _ _)
    | cons x t => obtain ⟨b, o, h, _⟩ := hrow 0 x rfl; cases h
  | some a =>
    cases hxs : xs with
    | nil =>
      subst hxs
      refine (Any.slices_Clone_int_zero Try.laysClone a cap w).mono ?_
      rintro e w' ⟨v', he, hown, _, hb⟩
      exact fin _ _ _ he hown hb
    | cons x t =>
      obtain ⟨b, o, h, _⟩ := hrow 0 x (by rw [hxs]; rfl)
      injection h with h; subst h
      rw [← hxs]
      refine (Any.slices_Clone_int Try.laysClone b o xs.length cap xs w (Nat.le_refl _) (by omega) ?_).mono ?_
      · intro j hj
        obtain ⟨b', o', h', _, hc⟩ := hrow j (xs.getD j 0) (by simp [List.getD_eq_getElem?_getD, List.getElem?_eq_getElem hj])
        injection h' with h'
        have hb' : b = b' := congrArg Addr.block h'
        have ho' : o = o' := congrArg Addr.off h'
        subst hb'; subst ho'
        exact hc
      · rintro e w' ⟨v', he, hown, _, hb⟩
        rw [List.take_of_length_le (Nat.le_refl _)] at hown
        exact fin _ _ _ he hown hb

theorem clone_fok : FreshOK Try.prog 27 [ints] (fun x => (List.length (α := Int) x.1 : Int) < 17592186044416) i64 (fun x => x.1) := by
  rintro R w ⟨xs, u⟩ args hR ⟨cs, r, e, hrd, er⟩ hpre
  obtain ⟨v, rfl, hv⟩ := ints_iff.1 hrd
  subst er; subst e
  refine (clone_fresh R w xs v hv hpre).mono ?_
  rintro e w' ⟨A, cap, h1, h2, h3, h4⟩
  refine ⟨A, cap, h1, h2, h3, ?_⟩
  rcases h4 with h | ⟨b, o, cs, T, k1, k2, k3, k4, k5⟩
  · exact .inl h
  · refine .inr ⟨b, o, cs, T, k1, k2, k3, k4, fun i x hx => ⟨[Value.int .i64 x], rfl, fun j hj => ?_, rfl⟩⟩
    have hj0 : j = 0 := by simp [Ty.size] at hj; omega
    subst hj0
    simpa [Ty.size] using k5 i x hx
end Pl
