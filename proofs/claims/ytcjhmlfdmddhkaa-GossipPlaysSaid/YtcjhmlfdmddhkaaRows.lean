/-
  No cell of these rows narrows 'for every input' (looked for: loops, veiled, ifaces, maps, wideKeys, modest, calm, conditions, laid).
  DERIVED. THE GIVEN ROWS OF THIS SEAT. 5 by the template 'for every input the law returns true; each argument reads behind the call as it read before'; 0 by the template 'total and deterministic' (their statements: YtcjhmlfdmddhkaaTotals.lean).
  GIVEN WITH THE SEED: the statements are not yours to turn. If you find one false, say at which input.
  Laid BY PROGRAM, IN A SANDBOX (cutbox-rows.mjs): the forced cells as the released guide's own fill.sh prints them over the translation 7fff9c3e0e543d59… (all of the seat's roots in one cut). By AI agents, Wed Nov 11 2026. No macro, syntax, notation, axiom, sorry.
-/
import Derived.Test.YtcjhmlfdmddhkaaChecked
import GoSem.Claim
import GoSem.ClaimJoined
import GoSem.ClaimMapViews
import Derived.JoinedTies
import Derived.KernelRfl
namespace Go.Proofs.Ytcjhmlfdmddhkaa
/- THE CELL 'sum', in the pinned program and in every row, IS THE sha256 OF THE DUMP (.gsa) THAT YtcjhmlfdmddhkaaProg.lean LOADS. Nothing in Lean hashes anything: it is a label: what it is worth is what the hold of that sum in a sandbox is worth. -/
noncomputable def Try.pinned : Pinned := { name := "ytcjhmlfdmddhkaa", sum := "7fff9c3e0e543d599a0baf800875d803d5db1d76f7937525b23826733f6d0964", checked := Try.checked }
namespace Rows
def none {H : Type} : Left H := { results := [], args := [] }

/-- 'starlinglaw16.GossipPlays': WHATEVER THE INPUT: true; the input reads as it did. -/
def gossipPlaysSpec : ChangeSpec := { name := "gossipPlays", fn := fun _ => fun
  | [d1, d2] => { results := [.lit (.bool true)], args := [d1, d2] }
  | _ => none }
def gossipPlaysRow : OpenClaim := { program := "ytcjhmlfdmddhkaa", sum := "7fff9c3e0e543d599a0baf800875d803d5db1d76f7937525b23826733f6d0964", func := "starling/starlinglaw16.GossipPlays", spec := "gossipPlays", unfollowed := true, recurses := true, apart := false }
def GossipPlaysSaid : Prop := gossipPlaysRow.holds Try.pinned (OpenSpec.ofChange gossipPlaysSpec)

/-- ITS FALSE NEIGHBOUR: 'it returns false'. Refute it at one input. -/
def gossipPlaysWrong : ChangeSpec := { name := "gossipPlays", fn := fun _ => fun
  | [d1, d2] => { results := [.lit (.bool false)], args := [d1, d2] }
  | _ => none }
def GossipPlaysWrongFalsely : Prop := gossipPlaysRow.holds Try.pinned (OpenSpec.ofChange gossipPlaysWrong)

/-- 'starlinglaw16.GossipNil': WHATEVER THE INPUT: true; the input reads as it did. -/
def gossipNilSpec : ChangeSpec := { name := "gossipNil", fn := fun _ => fun
  | [d] => { results := [.lit (.bool true)], args := [d] }
  | _ => none }
def gossipNilRow : OpenClaim := { program := "ytcjhmlfdmddhkaa", sum := "7fff9c3e0e543d599a0baf800875d803d5db1d76f7937525b23826733f6d0964", func := "starling/starlinglaw16.GossipNil", spec := "gossipNil", unfollowed := true, recurses := true, apart := false }
def GossipNilSaid : Prop := gossipNilRow.holds Try.pinned (OpenSpec.ofChange gossipNilSpec)

/-- ITS FALSE NEIGHBOUR: 'it returns false'. Refute it at one input. -/
def gossipNilWrong : ChangeSpec := { name := "gossipNil", fn := fun _ => fun
  | [d] => { results := [.lit (.bool false)], args := [d] }
  | _ => none }
def GossipNilWrongFalsely : Prop := gossipNilRow.holds Try.pinned (OpenSpec.ofChange gossipNilWrong)

/-- 'starlinglaw16.GossipTells': WHATEVER THE INPUT: true; the input reads as it did. -/
def gossipTellsSpec : ChangeSpec := { name := "gossipTells", fn := fun _ => fun
  | [d1, d2, d3] => { results := [.lit (.bool true)], args := [d1, d2, d3] }
  | _ => none }
def gossipTellsRow : OpenClaim := { program := "ytcjhmlfdmddhkaa", sum := "7fff9c3e0e543d599a0baf800875d803d5db1d76f7937525b23826733f6d0964", func := "starling/starlinglaw16.GossipTells", spec := "gossipTells", unfollowed := true, recurses := true, apart := false }
def GossipTellsSaid : Prop := gossipTellsRow.holds Try.pinned (OpenSpec.ofChange gossipTellsSpec)

/-- ITS FALSE NEIGHBOUR: 'it returns false'. Refute it at one input. -/
def gossipTellsWrong : ChangeSpec := { name := "gossipTells", fn := fun _ => fun
  | [d1, d2, d3] => { results := [.lit (.bool false)], args := [d1, d2, d3] }
  | _ => none }
def GossipTellsWrongFalsely : Prop := gossipTellsRow.holds Try.pinned (OpenSpec.ofChange gossipTellsWrong)

/-- 'starlinglaw16.GossipLearns': WHATEVER THE INPUT: true; the input reads as it did. -/
def gossipLearnsSpec : ChangeSpec := { name := "gossipLearns", fn := fun _ => fun
  | [d1, d2] => { results := [.lit (.bool true)], args := [d1, d2] }
  | _ => none }
def gossipLearnsRow : OpenClaim := { program := "ytcjhmlfdmddhkaa", sum := "7fff9c3e0e543d599a0baf800875d803d5db1d76f7937525b23826733f6d0964", func := "starling/starlinglaw16.GossipLearns", spec := "gossipLearns", unfollowed := true, recurses := true, apart := false }
def GossipLearnsSaid : Prop := gossipLearnsRow.holds Try.pinned (OpenSpec.ofChange gossipLearnsSpec)

/-- ITS FALSE NEIGHBOUR: 'it returns false'. Refute it at one input. -/
def gossipLearnsWrong : ChangeSpec := { name := "gossipLearns", fn := fun _ => fun
  | [d1, d2] => { results := [.lit (.bool false)], args := [d1, d2] }
  | _ => none }
def GossipLearnsWrongFalsely : Prop := gossipLearnsRow.holds Try.pinned (OpenSpec.ofChange gossipLearnsWrong)

/-- 'starlinglaw16.GossipQuiet': WHATEVER THE INPUT: true; the input reads as it did. -/
def gossipQuietSpec : ChangeSpec := { name := "gossipQuiet", fn := fun _ => fun
  | [d1, d2] => { results := [.lit (.bool true)], args := [d1, d2] }
  | _ => none }
def gossipQuietRow : OpenClaim := { program := "ytcjhmlfdmddhkaa", sum := "7fff9c3e0e543d599a0baf800875d803d5db1d76f7937525b23826733f6d0964", func := "starling/starlinglaw16.GossipQuiet", spec := "gossipQuiet", unfollowed := true, recurses := true, apart := false }
def GossipQuietSaid : Prop := gossipQuietRow.holds Try.pinned (OpenSpec.ofChange gossipQuietSpec)

/-- ITS FALSE NEIGHBOUR: 'it returns false'. Refute it at one input. -/
def gossipQuietWrong : ChangeSpec := { name := "gossipQuiet", fn := fun _ => fun
  | [d1, d2] => { results := [.lit (.bool false)], args := [d1, d2] }
  | _ => none }
def GossipQuietWrongFalsely : Prop := gossipQuietRow.holds Try.pinned (OpenSpec.ofChange gossipQuietWrong)

/- THE SECOND FORM. 'bulk': how many values and letters a reading holds, each counted each time it is reached (what is shared counts as often as it is met; a slice's spare places count too). A statement '..UptoSaid' is the law's where the arguments, and the package variables that the reading takes, are together of bulk at most 1048576: NARROWER than '..Said'. Prove '..Said' where nothing that the law and all that it calls make is longer than what came in: it says more and counts as full. Else prove '..UptoSaid'. A law counts once. -/
mutual
def uptoBulk {H : Type} : DataW H → Nat
  | .lit (.string bytes) => bytes.length + 1
  | .lit _ => 1
  | .nil => 1
  | .ptr d => uptoBulk d + 1
  | .slice elems spare => uptoBulkAll elems + uptoBulkAll spare + 1
  | .agg parts => uptoBulkAll parts + 1
  | .iface _ d => uptoBulk d + 1
  | .map entries => uptoBulkEntries entries + 1
  | .held _ => 1
def uptoBulkAll {H : Type} : List (DataW H) → Nat
  | [] => 0
  | d :: r => uptoBulk d + uptoBulkAll r
def uptoBulkEntries {H : Type} : List (Lit × DataW H) → Nat
  | [] => 0
  | x :: r => uptoBulkEntry x + uptoBulkEntries r
def uptoBulkEntry {H : Type} : Lit × DataW H → Nat
  | (.string bytes, d) => bytes.length + uptoBulk d + 1
  | (_, d) => uptoBulk d + 1
 end
def uptoSmall : (H : Type) → List (DataW H) → Bool := fun _ ds => decide (uptoBulkAll ds ≤ 1048576)
def OpenSpec.upto (s : _root_.Go.ChangeSpec) : _root_.Go.OpenSpec := { _root_.Go.OpenSpec.ofChange s with cond := some uptoSmall }

/-- 'starlinglaw16.GossipPlays', WHERE WHAT IT READS IS OF BULK AT MOST 1048576: true; the input reads as it did. -/
def gossipPlaysUptoRow : OpenClaim := { program := "ytcjhmlfdmddhkaa", sum := "7fff9c3e0e543d599a0baf800875d803d5db1d76f7937525b23826733f6d0964", func := "starling/starlinglaw16.GossipPlays", spec := "gossipPlays", unfollowed := true, recurses := true, apart := false, narrowed := true }
def GossipPlaysUptoSaid : Prop := gossipPlaysUptoRow.holds Try.pinned (OpenSpec.upto gossipPlaysSpec)

/-- 'starlinglaw16.GossipNil', WHERE WHAT IT READS IS OF BULK AT MOST 1048576: true; the input reads as it did. -/
def gossipNilUptoRow : OpenClaim := { program := "ytcjhmlfdmddhkaa", sum := "7fff9c3e0e543d599a0baf800875d803d5db1d76f7937525b23826733f6d0964", func := "starling/starlinglaw16.GossipNil", spec := "gossipNil", unfollowed := true, recurses := true, apart := false, narrowed := true }
def GossipNilUptoSaid : Prop := gossipNilUptoRow.holds Try.pinned (OpenSpec.upto gossipNilSpec)

/-- 'starlinglaw16.GossipTells', WHERE WHAT IT READS IS OF BULK AT MOST 1048576: true; the input reads as it did. -/
def gossipTellsUptoRow : OpenClaim := { program := "ytcjhmlfdmddhkaa", sum := "7fff9c3e0e543d599a0baf800875d803d5db1d76f7937525b23826733f6d0964", func := "starling/starlinglaw16.GossipTells", spec := "gossipTells", unfollowed := true, recurses := true, apart := false, narrowed := true }
def GossipTellsUptoSaid : Prop := gossipTellsUptoRow.holds Try.pinned (OpenSpec.upto gossipTellsSpec)

/-- 'starlinglaw16.GossipLearns', WHERE WHAT IT READS IS OF BULK AT MOST 1048576: true; the input reads as it did. -/
def gossipLearnsUptoRow : OpenClaim := { program := "ytcjhmlfdmddhkaa", sum := "7fff9c3e0e543d599a0baf800875d803d5db1d76f7937525b23826733f6d0964", func := "starling/starlinglaw16.GossipLearns", spec := "gossipLearns", unfollowed := true, recurses := true, apart := false, narrowed := true }
def GossipLearnsUptoSaid : Prop := gossipLearnsUptoRow.holds Try.pinned (OpenSpec.upto gossipLearnsSpec)

/-- 'starlinglaw16.GossipQuiet', WHERE WHAT IT READS IS OF BULK AT MOST 1048576: true; the input reads as it did. -/
def gossipQuietUptoRow : OpenClaim := { program := "ytcjhmlfdmddhkaa", sum := "7fff9c3e0e543d599a0baf800875d803d5db1d76f7937525b23826733f6d0964", func := "starling/starlinglaw16.GossipQuiet", spec := "gossipQuiet", unfollowed := true, recurses := true, apart := false, narrowed := true }
def GossipQuietUptoSaid : Prop := gossipQuietUptoRow.holds Try.pinned (OpenSpec.upto gossipQuietSpec)

end Rows
end Go.Proofs.Ytcjhmlfdmddhkaa
