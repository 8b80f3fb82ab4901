/-
  No cell of these rows narrows 'for every input' (looked for: loops, veiled, ifaces, maps, wideKeys, modest, calm, conditions, laid).
  DERIVED. THE GIVEN ROWS OF THIS SEAT. 5 by the template 'for every input the law returns true; each argument reads behind the call as it read before'; 0 by the template 'total and deterministic' (their statements: YtmbbdddbijonaaaTotals.lean).
  GIVEN WITH THE SEED: the statements are not yours to turn. If you find one false, say at which input.
  Laid BY PROGRAM, IN A SANDBOX (cutbox-rows.mjs): the forced cells as the released guide's own fill.sh prints them over the translation 5afe4deac67fe5f3… (all of the seat's roots in one cut). By AI agents, Wed Nov 11 2026. No macro, syntax, notation, axiom, sorry.
-/
import Derived.Test.YtmbbdddbijonaaaChecked
import GoSem.Claim
import GoSem.ClaimJoined
import GoSem.ClaimMapViews
import Derived.JoinedTies
import Derived.KernelRfl
namespace Go.Proofs.Ytmbbdddbijonaaa
/- THE CELL 'sum', in the pinned program and in every row, IS THE sha256 OF THE DUMP (.gsa) THAT YtmbbdddbijonaaaProg.lean LOADS. Nothing in Lean hashes anything: it is a label: what it is worth is what the hold of that sum in a sandbox is worth. -/
noncomputable def Try.pinned : Pinned := { name := "ytmbbdddbijonaaa", sum := "5afe4deac67fe5f3cf05b88acdb0e123fae6d1dc32a00dc906bdedd1e280c267", checked := Try.checked }
namespace Rows
def none {H : Type} : Left H := { results := [], args := [] }

/-- 'starlinglaw11.RingJoins': WHATEVER THE INPUT: true; the input reads as it did. -/
def ringJoinsSpec : ChangeSpec := { name := "ringJoins", fn := fun _ => fun
  | [d1, d2, d3] => { results := [.lit (.bool true)], args := [d1, d2, d3] }
  | _ => none }
def ringJoinsRow : OpenClaim := { program := "ytmbbdddbijonaaa", sum := "5afe4deac67fe5f3cf05b88acdb0e123fae6d1dc32a00dc906bdedd1e280c267", func := "starling/starlinglaw11.RingJoins", spec := "ringJoins", unfollowed := true, recurses := true, apart := false }
def RingJoinsSaid : Prop := ringJoinsRow.holds Try.pinned (OpenSpec.ofChange ringJoinsSpec)

/-- ITS FALSE NEIGHBOUR: 'it returns false'. Refute it at one input. -/
def ringJoinsWrong : ChangeSpec := { name := "ringJoins", fn := fun _ => fun
  | [d1, d2, d3] => { results := [.lit (.bool false)], args := [d1, d2, d3] }
  | _ => none }
def RingJoinsWrongFalsely : Prop := ringJoinsRow.holds Try.pinned (OpenSpec.ofChange ringJoinsWrong)

/-- 'starlinglaw11.RingRises': WHATEVER THE INPUT: true; the input reads as it did. -/
def ringRisesSpec : ChangeSpec := { name := "ringRises", fn := fun _ => fun
  | [d1, d2, d3] => { results := [.lit (.bool true)], args := [d1, d2, d3] }
  | _ => none }
def ringRisesRow : OpenClaim := { program := "ytmbbdddbijonaaa", sum := "5afe4deac67fe5f3cf05b88acdb0e123fae6d1dc32a00dc906bdedd1e280c267", func := "starling/starlinglaw11.RingRises", spec := "ringRises", unfollowed := true, recurses := true, apart := false }
def RingRisesSaid : Prop := ringRisesRow.holds Try.pinned (OpenSpec.ofChange ringRisesSpec)

/-- ITS FALSE NEIGHBOUR: 'it returns false'. Refute it at one input. -/
def ringRisesWrong : ChangeSpec := { name := "ringRises", fn := fun _ => fun
  | [d1, d2, d3] => { results := [.lit (.bool false)], args := [d1, d2, d3] }
  | _ => none }
def RingRisesWrongFalsely : Prop := ringRisesRow.holds Try.pinned (OpenSpec.ofChange ringRisesWrong)

/-- 'starlinglaw11.RingFlips': WHATEVER THE INPUT: true; the input reads as it did. -/
def ringFlipsSpec : ChangeSpec := { name := "ringFlips", fn := fun _ => fun
  | [d1, d2, d3] => { results := [.lit (.bool true)], args := [d1, d2, d3] }
  | _ => none }
def ringFlipsRow : OpenClaim := { program := "ytmbbdddbijonaaa", sum := "5afe4deac67fe5f3cf05b88acdb0e123fae6d1dc32a00dc906bdedd1e280c267", func := "starling/starlinglaw11.RingFlips", spec := "ringFlips", unfollowed := true, recurses := true, apart := false }
def RingFlipsSaid : Prop := ringFlipsRow.holds Try.pinned (OpenSpec.ofChange ringFlipsSpec)

/-- ITS FALSE NEIGHBOUR: 'it returns false'. Refute it at one input. -/
def ringFlipsWrong : ChangeSpec := { name := "ringFlips", fn := fun _ => fun
  | [d1, d2, d3] => { results := [.lit (.bool false)], args := [d1, d2, d3] }
  | _ => none }
def RingFlipsWrongFalsely : Prop := ringFlipsRow.holds Try.pinned (OpenSpec.ofChange ringFlipsWrong)

/-- 'starlinglaw11.RingOf': WHATEVER THE INPUT: true; the input reads as it did. -/
def ringOfSpec : ChangeSpec := { name := "ringOf", fn := fun _ => fun
  | [d1, d2, d3] => { results := [.lit (.bool true)], args := [d1, d2, d3] }
  | _ => none }
def ringOfRow : OpenClaim := { program := "ytmbbdddbijonaaa", sum := "5afe4deac67fe5f3cf05b88acdb0e123fae6d1dc32a00dc906bdedd1e280c267", func := "starling/starlinglaw11.RingOf", spec := "ringOf", unfollowed := true, recurses := true, apart := false }
def RingOfSaid : Prop := ringOfRow.holds Try.pinned (OpenSpec.ofChange ringOfSpec)

/-- ITS FALSE NEIGHBOUR: 'it returns false'. Refute it at one input. -/
def ringOfWrong : ChangeSpec := { name := "ringOf", fn := fun _ => fun
  | [d1, d2, d3] => { results := [.lit (.bool false)], args := [d1, d2, d3] }
  | _ => none }
def RingOfWrongFalsely : Prop := ringOfRow.holds Try.pinned (OpenSpec.ofChange ringOfWrong)

/-- 'starlinglaw11.RingFirsts': WHATEVER THE INPUT: true; the input reads as it did. -/
def ringFirstsSpec : ChangeSpec := { name := "ringFirsts", fn := fun _ => fun
  | [d1, d2] => { results := [.lit (.bool true)], args := [d1, d2] }
  | _ => none }
def ringFirstsRow : OpenClaim := { program := "ytmbbdddbijonaaa", sum := "5afe4deac67fe5f3cf05b88acdb0e123fae6d1dc32a00dc906bdedd1e280c267", func := "starling/starlinglaw11.RingFirsts", spec := "ringFirsts", unfollowed := true, recurses := true, apart := false }
def RingFirstsSaid : Prop := ringFirstsRow.holds Try.pinned (OpenSpec.ofChange ringFirstsSpec)

/-- ITS FALSE NEIGHBOUR: 'it returns false'. Refute it at one input. -/
def ringFirstsWrong : ChangeSpec := { name := "ringFirsts", fn := fun _ => fun
  | [d1, d2] => { results := [.lit (.bool false)], args := [d1, d2] }
  | _ => none }
def RingFirstsWrongFalsely : Prop := ringFirstsRow.holds Try.pinned (OpenSpec.ofChange ringFirstsWrong)

/- THE SECOND FORM. 'bulk': how many values and letters a reading holds, each counted each time it is reached (what is shared counts as often as it is met; a slice's spare places count too). A statement '..UptoSaid' is the law's where the arguments, and the package variables that the reading takes, are together of bulk at most 1048576: NARROWER than '..Said'. Prove '..Said' where nothing that the law and all that it calls make is longer than what came in: it says more and counts as full. Else prove '..UptoSaid'. A law counts once. -/
mutual
def uptoBulk {H : Type} : DataW H → Nat
  | .lit (.string bytes) => bytes.length + 1
  | .lit _ => 1
  | .nil => 1
  | .ptr d => uptoBulk d + 1
  | .slice elems spare => uptoBulkAll elems + uptoBulkAll spare + 1
  | .agg parts => uptoBulkAll parts + 1
  | .iface _ d => uptoBulk d + 1
  | .map entries => uptoBulkEntries entries + 1
  | .held _ => 1
def uptoBulkAll {H : Type} : List (DataW H) → Nat
  | [] => 0
  | d :: r => uptoBulk d + uptoBulkAll r
def uptoBulkEntries {H : Type} : List (Lit × DataW H) → Nat
  | [] => 0
  | x :: r => uptoBulkEntry x + uptoBulkEntries r
def uptoBulkEntry {H : Type} : Lit × DataW H → Nat
  | (.string bytes, d) => bytes.length + uptoBulk d + 1
  | (_, d) => uptoBulk d + 1
 end
def uptoSmall : (H : Type) → List (DataW H) → Bool := fun _ ds => decide (uptoBulkAll ds ≤ 1048576)
def OpenSpec.upto (s : _root_.Go.ChangeSpec) : _root_.Go.OpenSpec := { _root_.Go.OpenSpec.ofChange s with cond := some uptoSmall }

/-- 'starlinglaw11.RingJoins', WHERE WHAT IT READS IS OF BULK AT MOST 1048576: true; the input reads as it did. -/
def ringJoinsUptoRow : OpenClaim := { program := "ytmbbdddbijonaaa", sum := "5afe4deac67fe5f3cf05b88acdb0e123fae6d1dc32a00dc906bdedd1e280c267", func := "starling/starlinglaw11.RingJoins", spec := "ringJoins", unfollowed := true, recurses := true, apart := false, narrowed := true }
def RingJoinsUptoSaid : Prop := ringJoinsUptoRow.holds Try.pinned (OpenSpec.upto ringJoinsSpec)

/-- 'starlinglaw11.RingRises', WHERE WHAT IT READS IS OF BULK AT MOST 1048576: true; the input reads as it did. -/
def ringRisesUptoRow : OpenClaim := { program := "ytmbbdddbijonaaa", sum := "5afe4deac67fe5f3cf05b88acdb0e123fae6d1dc32a00dc906bdedd1e280c267", func := "starling/starlinglaw11.RingRises", spec := "ringRises", unfollowed := true, recurses := true, apart := false, narrowed := true }
def RingRisesUptoSaid : Prop := ringRisesUptoRow.holds Try.pinned (OpenSpec.upto ringRisesSpec)

/-- 'starlinglaw11.RingFlips', WHERE WHAT IT READS IS OF BULK AT MOST 1048576: true; the input reads as it did. -/
def ringFlipsUptoRow : OpenClaim := { program := "ytmbbdddbijonaaa", sum := "5afe4deac67fe5f3cf05b88acdb0e123fae6d1dc32a00dc906bdedd1e280c267", func := "starling/starlinglaw11.RingFlips", spec := "ringFlips", unfollowed := true, recurses := true, apart := false, narrowed := true }
def RingFlipsUptoSaid : Prop := ringFlipsUptoRow.holds Try.pinned (OpenSpec.upto ringFlipsSpec)

/-- 'starlinglaw11.RingOf', WHERE WHAT IT READS IS OF BULK AT MOST 1048576: true; the input reads as it did. -/
def ringOfUptoRow : OpenClaim := { program := "ytmbbdddbijonaaa", sum := "5afe4deac67fe5f3cf05b88acdb0e123fae6d1dc32a00dc906bdedd1e280c267", func := "starling/starlinglaw11.RingOf", spec := "ringOf", unfollowed := true, recurses := true, apart := false, narrowed := true }
def RingOfUptoSaid : Prop := ringOfUptoRow.holds Try.pinned (OpenSpec.upto ringOfSpec)

/-- 'starlinglaw11.RingFirsts', WHERE WHAT IT READS IS OF BULK AT MOST 1048576: true; the input reads as it did. -/
def ringFirstsUptoRow : OpenClaim := { program := "ytmbbdddbijonaaa", sum := "5afe4deac67fe5f3cf05b88acdb0e123fae6d1dc32a00dc906bdedd1e280c267", func := "starling/starlinglaw11.RingFirsts", spec := "ringFirsts", unfollowed := true, recurses := true, apart := false, narrowed := true }
def RingFirstsUptoSaid : Prop := ringFirstsUptoRow.holds Try.pinned (OpenSpec.upto ringFirstsSpec)

end Rows
end Go.Proofs.Ytmbbdddbijonaaa
