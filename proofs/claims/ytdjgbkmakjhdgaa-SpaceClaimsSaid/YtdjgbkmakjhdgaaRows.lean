/-
  No cell of these rows narrows 'for every input' (looked for: loops, veiled, ifaces, maps, wideKeys, modest, calm, conditions, laid).
  DERIVED. THE GIVEN ROWS OF THIS SEAT. 4 by the template 'for every input the law returns true; each argument reads behind the call as it read before'; 0 by the template 'total and deterministic' (their statements: YtdjgbkmakjhdgaaTotals.lean).
  GIVEN WITH THE SEED: the statements are not yours to turn. If you find one false, say at which input.
  Laid BY PROGRAM, IN A SANDBOX (cutbox-rows.mjs): the forced cells as the released guide's own fill.sh prints them over the translation f580a05a44d408c3… (all of the seat's roots in one cut). By AI agents, Wed Nov 11 2026. No macro, syntax, notation, axiom, sorry.
-/
import Derived.Test.YtdjgbkmakjhdgaaChecked
import GoSem.Claim
import GoSem.ClaimJoined
import GoSem.ClaimMapViews
import Derived.JoinedTies
import Derived.KernelRfl
namespace Go.Proofs.Ytdjgbkmakjhdgaa
/- THE CELL 'sum', in the pinned program and in every row, IS THE sha256 OF THE DUMP (.gsa) THAT YtdjgbkmakjhdgaaProg.lean LOADS. Nothing in Lean hashes anything: it is a label: what it is worth is what the hold of that sum in a sandbox is worth. -/
noncomputable def Try.pinned : Pinned := { name := "ytdjgbkmakjhdgaa", sum := "f580a05a44d408c3ed495e3534ca53ee9095307a14819f22ea4fd16e41eb609b", checked := Try.checked }
namespace Rows
def none {H : Type} : Left H := { results := [], args := [] }

/-- 'starlinglaw15.SpaceTexts': WHATEVER THE INPUT: true; the input reads as it did. -/
def spaceTextsSpec : ChangeSpec := { name := "spaceTexts", fn := fun _ => fun
  | [d1, d2] => { results := [.lit (.bool true)], args := [d1, d2] }
  | _ => none }
def spaceTextsRow : OpenClaim := { program := "ytdjgbkmakjhdgaa", sum := "f580a05a44d408c3ed495e3534ca53ee9095307a14819f22ea4fd16e41eb609b", func := "starling/starlinglaw15.SpaceTexts", spec := "spaceTexts", inPlace := ["internal/abi.NoEscape"], apart := false }
def SpaceTextsSaid : Prop := spaceTextsRow.holds Try.pinned (OpenSpec.ofChange spaceTextsSpec)

/-- ITS FALSE NEIGHBOUR: 'it returns false'. Refute it at one input. -/
def spaceTextsWrong : ChangeSpec := { name := "spaceTexts", fn := fun _ => fun
  | [d1, d2] => { results := [.lit (.bool false)], args := [d1, d2] }
  | _ => none }
def SpaceTextsWrongFalsely : Prop := spaceTextsRow.holds Try.pinned (OpenSpec.ofChange spaceTextsWrong)

/-- 'starlinglaw15.SpaceRound': WHATEVER THE INPUT: true; the input reads as it did. -/
def spaceRoundSpec : ChangeSpec := { name := "spaceRound", fn := fun _ => fun
  | [d1, d2] => { results := [.lit (.bool true)], args := [d1, d2] }
  | _ => none }
def spaceRoundRow : OpenClaim := { program := "ytdjgbkmakjhdgaa", sum := "f580a05a44d408c3ed495e3534ca53ee9095307a14819f22ea4fd16e41eb609b", func := "starling/starlinglaw15.SpaceRound", spec := "spaceRound", inPlace := ["internal/abi.NoEscape"], apart := false }
def SpaceRoundSaid : Prop := spaceRoundRow.holds Try.pinned (OpenSpec.ofChange spaceRoundSpec)

/-- ITS FALSE NEIGHBOUR: 'it returns false'. Refute it at one input. -/
def spaceRoundWrong : ChangeSpec := { name := "spaceRound", fn := fun _ => fun
  | [d1, d2] => { results := [.lit (.bool false)], args := [d1, d2] }
  | _ => none }
def SpaceRoundWrongFalsely : Prop := spaceRoundRow.holds Try.pinned (OpenSpec.ofChange spaceRoundWrong)

/-- 'starlinglaw15.SpaceTurned': WHATEVER THE INPUT: true; the input reads as it did. -/
def spaceTurnedSpec : ChangeSpec := { name := "spaceTurned", fn := fun _ => fun
  | [d1, d2, d3, d4] => { results := [.lit (.bool true)], args := [d1, d2, d3, d4] }
  | _ => none }
def spaceTurnedRow : OpenClaim := { program := "ytdjgbkmakjhdgaa", sum := "f580a05a44d408c3ed495e3534ca53ee9095307a14819f22ea4fd16e41eb609b", func := "starling/starlinglaw15.SpaceTurned", spec := "spaceTurned", inPlace := ["internal/abi.NoEscape"], apart := false }
def SpaceTurnedSaid : Prop := spaceTurnedRow.holds Try.pinned (OpenSpec.ofChange spaceTurnedSpec)

/-- ITS FALSE NEIGHBOUR: 'it returns false'. Refute it at one input. -/
def spaceTurnedWrong : ChangeSpec := { name := "spaceTurned", fn := fun _ => fun
  | [d1, d2, d3, d4] => { results := [.lit (.bool false)], args := [d1, d2, d3, d4] }
  | _ => none }
def SpaceTurnedWrongFalsely : Prop := spaceTurnedRow.holds Try.pinned (OpenSpec.ofChange spaceTurnedWrong)

/-- 'starlinglaw15.SpaceClaims': WHATEVER THE INPUT: true; the input reads as it did. -/
def spaceClaimsSpec : ChangeSpec := { name := "spaceClaims", fn := fun _ => fun
  | [d1, d2] => { results := [.lit (.bool true)], args := [d1, d2] }
  | _ => none }
def spaceClaimsRow : OpenClaim := { program := "ytdjgbkmakjhdgaa", sum := "f580a05a44d408c3ed495e3534ca53ee9095307a14819f22ea4fd16e41eb609b", func := "starling/starlinglaw15.SpaceClaims", spec := "spaceClaims", inPlace := ["internal/abi.NoEscape"], apart := false }
def SpaceClaimsSaid : Prop := spaceClaimsRow.holds Try.pinned (OpenSpec.ofChange spaceClaimsSpec)

/-- ITS FALSE NEIGHBOUR: 'it returns false'. Refute it at one input. -/
def spaceClaimsWrong : ChangeSpec := { name := "spaceClaims", fn := fun _ => fun
  | [d1, d2] => { results := [.lit (.bool false)], args := [d1, d2] }
  | _ => none }
def SpaceClaimsWrongFalsely : Prop := spaceClaimsRow.holds Try.pinned (OpenSpec.ofChange spaceClaimsWrong)

/- THE SECOND FORM. 'bulk': how many values and letters a reading holds, each counted each time it is reached (what is shared counts as often as it is met; a slice's spare places count too). A statement '..UptoSaid' is the law's where the arguments, and the package variables that the reading takes, are together of bulk at most 1048576: NARROWER than '..Said'. Prove '..Said' where nothing that the law and all that it calls make is longer than what came in: it says more and counts as full. Else prove '..UptoSaid'. A law counts once. -/
mutual
def uptoBulk {H : Type} : DataW H → Nat
  | .lit (.string bytes) => bytes.length + 1
  | .lit _ => 1
  | .nil => 1
  | .ptr d => uptoBulk d + 1
  | .slice elems spare => uptoBulkAll elems + uptoBulkAll spare + 1
  | .agg parts => uptoBulkAll parts + 1
  | .iface _ d => uptoBulk d + 1
  | .map entries => uptoBulkEntries entries + 1
  | .held _ => 1
def uptoBulkAll {H : Type} : List (DataW H) → Nat
  | [] => 0
  | d :: r => uptoBulk d + uptoBulkAll r
def uptoBulkEntries {H : Type} : List (Lit × DataW H) → Nat
  | [] => 0
  | x :: r => uptoBulkEntry x + uptoBulkEntries r
def uptoBulkEntry {H : Type} : Lit × DataW H → Nat
  | (.string bytes, d) => bytes.length + uptoBulk d + 1
  | (_, d) => uptoBulk d + 1
 end
def uptoSmall : (H : Type) → List (DataW H) → Bool := fun _ ds => decide (uptoBulkAll ds ≤ 1048576)
def OpenSpec.upto (s : _root_.Go.ChangeSpec) : _root_.Go.OpenSpec := { _root_.Go.OpenSpec.ofChange s with cond := some uptoSmall }

/-- 'starlinglaw15.SpaceTexts', WHERE WHAT IT READS IS OF BULK AT MOST 1048576: true; the input reads as it did. -/
def spaceTextsUptoRow : OpenClaim := { program := "ytdjgbkmakjhdgaa", sum := "f580a05a44d408c3ed495e3534ca53ee9095307a14819f22ea4fd16e41eb609b", func := "starling/starlinglaw15.SpaceTexts", spec := "spaceTexts", inPlace := ["internal/abi.NoEscape"], apart := false, narrowed := true }
def SpaceTextsUptoSaid : Prop := spaceTextsUptoRow.holds Try.pinned (OpenSpec.upto spaceTextsSpec)

/-- 'starlinglaw15.SpaceRound', WHERE WHAT IT READS IS OF BULK AT MOST 1048576: true; the input reads as it did. -/
def spaceRoundUptoRow : OpenClaim := { program := "ytdjgbkmakjhdgaa", sum := "f580a05a44d408c3ed495e3534ca53ee9095307a14819f22ea4fd16e41eb609b", func := "starling/starlinglaw15.SpaceRound", spec := "spaceRound", inPlace := ["internal/abi.NoEscape"], apart := false, narrowed := true }
def SpaceRoundUptoSaid : Prop := spaceRoundUptoRow.holds Try.pinned (OpenSpec.upto spaceRoundSpec)

/-- 'starlinglaw15.SpaceTurned', WHERE WHAT IT READS IS OF BULK AT MOST 1048576: true; the input reads as it did. -/
def spaceTurnedUptoRow : OpenClaim := { program := "ytdjgbkmakjhdgaa", sum := "f580a05a44d408c3ed495e3534ca53ee9095307a14819f22ea4fd16e41eb609b", func := "starling/starlinglaw15.SpaceTurned", spec := "spaceTurned", inPlace := ["internal/abi.NoEscape"], apart := false, narrowed := true }
def SpaceTurnedUptoSaid : Prop := spaceTurnedUptoRow.holds Try.pinned (OpenSpec.upto spaceTurnedSpec)

/-- 'starlinglaw15.SpaceClaims', WHERE WHAT IT READS IS OF BULK AT MOST 1048576: true; the input reads as it did. -/
def spaceClaimsUptoRow : OpenClaim := { program := "ytdjgbkmakjhdgaa", sum := "f580a05a44d408c3ed495e3534ca53ee9095307a14819f22ea4fd16e41eb609b", func := "starling/starlinglaw15.SpaceClaims", spec := "spaceClaims", inPlace := ["internal/abi.NoEscape"], apart := false, narrowed := true }
def SpaceClaimsUptoSaid : Prop := spaceClaimsUptoRow.holds Try.pinned (OpenSpec.upto spaceClaimsSpec)

end Rows
end Go.Proofs.Ytdjgbkmakjhdgaa
