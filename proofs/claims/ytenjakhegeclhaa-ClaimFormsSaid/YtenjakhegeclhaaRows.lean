/-
  No cell of these rows narrows 'for every input' (looked for: loops, veiled, ifaces, maps, wideKeys, modest, calm, conditions, laid).
  DERIVED. THE GIVEN ROWS OF THIS SEAT. 7 by the template 'for every input the law returns true; each argument reads behind the call as it read before'; 0 by the template 'total and deterministic' (their statements: YtenjakhegeclhaaTotals.lean).
  GIVEN WITH THE SEED: the statements are not yours to turn. If you find one false, say at which input.
  Laid BY PROGRAM, IN A SANDBOX (cutbox-rows.mjs): the forced cells as the released guide's own fill.sh prints them over the translation 37da580f23517a23… (all of the seat's roots in one cut). By AI agents, Wed Nov 11 2026. No macro, syntax, notation, axiom, sorry.
-/
import Derived.Test.YtenjakhegeclhaaChecked
import GoSem.Claim
import GoSem.ClaimJoined
import GoSem.ClaimMapViews
import Derived.JoinedTies
import Derived.KernelRfl
namespace Go.Proofs.Ytenjakhegeclhaa
/- THE CELL 'sum', in the pinned program and in every row, IS THE sha256 OF THE DUMP (.gsa) THAT YtenjakhegeclhaaProg.lean LOADS. Nothing in Lean hashes anything: it is a label: what it is worth is what the hold of that sum in a sandbox is worth. -/
noncomputable def Try.pinned : Pinned := { name := "ytenjakhegeclhaa", sum := "37da580f23517a238b99083f3db94105041192505224fb534af8c9babaa7b08f", checked := Try.checked }
namespace Rows
def none {H : Type} : Left H := { results := [], args := [] }

/-- 'starlinglaw8.ClaimForms': WHATEVER THE INPUT: true; the input reads as it did. -/
def claimFormsSpec : ChangeSpec := { name := "claimForms", fn := fun _ => fun
  | [d1, d2, d3] => { results := [.lit (.bool true)], args := [d1, d2, d3] }
  | _ => none }
def claimFormsRow : OpenClaim := { program := "ytenjakhegeclhaa", sum := "37da580f23517a238b99083f3db94105041192505224fb534af8c9babaa7b08f", func := "starling/starlinglaw8.ClaimForms", spec := "claimForms", apart := false }
def ClaimFormsSaid : Prop := claimFormsRow.holds Try.pinned (OpenSpec.ofChange claimFormsSpec)

/-- ITS FALSE NEIGHBOUR: 'it returns false'. Refute it at one input. -/
def claimFormsWrong : ChangeSpec := { name := "claimForms", fn := fun _ => fun
  | [d1, d2, d3] => { results := [.lit (.bool false)], args := [d1, d2, d3] }
  | _ => none }
def ClaimFormsWrongFalsely : Prop := claimFormsRow.holds Try.pinned (OpenSpec.ofChange claimFormsWrong)

/-- 'starlinglaw8.ClaimFair': WHATEVER THE INPUT: true; the input reads as it did. -/
def claimFairSpec : ChangeSpec := { name := "claimFair", fn := fun _ => fun
  | [d1, d2] => { results := [.lit (.bool true)], args := [d1, d2] }
  | _ => none }
def claimFairRow : OpenClaim := { program := "ytenjakhegeclhaa", sum := "37da580f23517a238b99083f3db94105041192505224fb534af8c9babaa7b08f", func := "starling/starlinglaw8.ClaimFair", spec := "claimFair", apart := false }
def ClaimFairSaid : Prop := claimFairRow.holds Try.pinned (OpenSpec.ofChange claimFairSpec)

/-- ITS FALSE NEIGHBOUR: 'it returns false'. Refute it at one input. -/
def claimFairWrong : ChangeSpec := { name := "claimFair", fn := fun _ => fun
  | [d1, d2] => { results := [.lit (.bool false)], args := [d1, d2] }
  | _ => none }
def ClaimFairWrongFalsely : Prop := claimFairRow.holds Try.pinned (OpenSpec.ofChange claimFairWrong)

/-- 'starlinglaw8.ClaimStays': WHATEVER THE INPUT: true; the input reads as it did. -/
def claimStaysSpec : ChangeSpec := { name := "claimStays", fn := fun _ => fun
  | [d1, d2] => { results := [.lit (.bool true)], args := [d1, d2] }
  | _ => none }
def claimStaysRow : OpenClaim := { program := "ytenjakhegeclhaa", sum := "37da580f23517a238b99083f3db94105041192505224fb534af8c9babaa7b08f", func := "starling/starlinglaw8.ClaimStays", spec := "claimStays", apart := false }
def ClaimStaysSaid : Prop := claimStaysRow.holds Try.pinned (OpenSpec.ofChange claimStaysSpec)

/-- ITS FALSE NEIGHBOUR: 'it returns false'. Refute it at one input. -/
def claimStaysWrong : ChangeSpec := { name := "claimStays", fn := fun _ => fun
  | [d1, d2] => { results := [.lit (.bool false)], args := [d1, d2] }
  | _ => none }
def ClaimStaysWrongFalsely : Prop := claimStaysRow.holds Try.pinned (OpenSpec.ofChange claimStaysWrong)

/-- 'starlinglaw8.ClaimCome': WHATEVER THE INPUT: true; the input reads as it did. -/
def claimComeSpec : ChangeSpec := { name := "claimCome", fn := fun _ => fun
  | [d1, d2] => { results := [.lit (.bool true)], args := [d1, d2] }
  | _ => none }
def claimComeRow : OpenClaim := { program := "ytenjakhegeclhaa", sum := "37da580f23517a238b99083f3db94105041192505224fb534af8c9babaa7b08f", func := "starling/starlinglaw8.ClaimCome", spec := "claimCome", apart := false }
def ClaimComeSaid : Prop := claimComeRow.holds Try.pinned (OpenSpec.ofChange claimComeSpec)

/-- ITS FALSE NEIGHBOUR: 'it returns false'. Refute it at one input. -/
def claimComeWrong : ChangeSpec := { name := "claimCome", fn := fun _ => fun
  | [d1, d2] => { results := [.lit (.bool false)], args := [d1, d2] }
  | _ => none }
def ClaimComeWrongFalsely : Prop := claimComeRow.holds Try.pinned (OpenSpec.ofChange claimComeWrong)

/-- 'starlinglaw8.ClaimOrder': WHATEVER THE INPUT: true; the input reads as it did. -/
def claimOrderSpec : ChangeSpec := { name := "claimOrder", fn := fun _ => fun
  | [d1, d2, d3] => { results := [.lit (.bool true)], args := [d1, d2, d3] }
  | _ => none }
def claimOrderRow : OpenClaim := { program := "ytenjakhegeclhaa", sum := "37da580f23517a238b99083f3db94105041192505224fb534af8c9babaa7b08f", func := "starling/starlinglaw8.ClaimOrder", spec := "claimOrder", apart := false }
def ClaimOrderSaid : Prop := claimOrderRow.holds Try.pinned (OpenSpec.ofChange claimOrderSpec)

/-- ITS FALSE NEIGHBOUR: 'it returns false'. Refute it at one input. -/
def claimOrderWrong : ChangeSpec := { name := "claimOrder", fn := fun _ => fun
  | [d1, d2, d3] => { results := [.lit (.bool false)], args := [d1, d2, d3] }
  | _ => none }
def ClaimOrderWrongFalsely : Prop := claimOrderRow.holds Try.pinned (OpenSpec.ofChange claimOrderWrong)

/-- 'starlinglaw8.ClaimNew': WHATEVER THE INPUT: true; the input reads as it did. -/
def claimNewSpec : ChangeSpec := { name := "claimNew", fn := fun _ => fun
  | [d] => { results := [.lit (.bool true)], args := [d] }
  | _ => none }
def claimNewRow : OpenClaim := { program := "ytenjakhegeclhaa", sum := "37da580f23517a238b99083f3db94105041192505224fb534af8c9babaa7b08f", func := "starling/starlinglaw8.ClaimNew", spec := "claimNew", apart := false }
def ClaimNewSaid : Prop := claimNewRow.holds Try.pinned (OpenSpec.ofChange claimNewSpec)

/-- ITS FALSE NEIGHBOUR: 'it returns false'. Refute it at one input. -/
def claimNewWrong : ChangeSpec := { name := "claimNew", fn := fun _ => fun
  | [d] => { results := [.lit (.bool false)], args := [d] }
  | _ => none }
def ClaimNewWrongFalsely : Prop := claimNewRow.holds Try.pinned (OpenSpec.ofChange claimNewWrong)

/-- 'starlinglaw8.ClaimSwaps': WHATEVER THE INPUT: true; the input reads as it did. -/
def claimSwapsSpec : ChangeSpec := { name := "claimSwaps", fn := fun _ => fun
  | [d1, d2] => { results := [.lit (.bool true)], args := [d1, d2] }
  | _ => none }
def claimSwapsRow : OpenClaim := { program := "ytenjakhegeclhaa", sum := "37da580f23517a238b99083f3db94105041192505224fb534af8c9babaa7b08f", func := "starling/starlinglaw8.ClaimSwaps", spec := "claimSwaps", apart := false }
def ClaimSwapsSaid : Prop := claimSwapsRow.holds Try.pinned (OpenSpec.ofChange claimSwapsSpec)

/-- ITS FALSE NEIGHBOUR: 'it returns false'. Refute it at one input. -/
def claimSwapsWrong : ChangeSpec := { name := "claimSwaps", fn := fun _ => fun
  | [d1, d2] => { results := [.lit (.bool false)], args := [d1, d2] }
  | _ => none }
def ClaimSwapsWrongFalsely : Prop := claimSwapsRow.holds Try.pinned (OpenSpec.ofChange claimSwapsWrong)

/- THE SECOND FORM. 'bulk': how many values and letters a reading holds, each counted each time it is reached (what is shared counts as often as it is met; a slice's spare places count too). A statement '..UptoSaid' is the law's where the arguments, and the package variables that the reading takes, are together of bulk at most 1048576: NARROWER than '..Said'. Prove '..Said' where nothing that the law and all that it calls make is longer than what came in: it says more and counts as full. Else prove '..UptoSaid'. A law counts once. -/
mutual
def uptoBulk {H : Type} : DataW H → Nat
  | .lit (.string bytes) => bytes.length + 1
  | .lit _ => 1
  | .nil => 1
  | .ptr d => uptoBulk d + 1
  | .slice elems spare => uptoBulkAll elems + uptoBulkAll spare + 1
  | .agg parts => uptoBulkAll parts + 1
  | .iface _ d => uptoBulk d + 1
  | .map entries => uptoBulkEntries entries + 1
  | .held _ => 1
def uptoBulkAll {H : Type} : List (DataW H) → Nat
  | [] => 0
  | d :: r => uptoBulk d + uptoBulkAll r
def uptoBulkEntries {H : Type} : List (Lit × DataW H) → Nat
  | [] => 0
  | x :: r => uptoBulkEntry x + uptoBulkEntries r
def uptoBulkEntry {H : Type} : Lit × DataW H → Nat
  | (.string bytes, d) => bytes.length + uptoBulk d + 1
  | (_, d) => uptoBulk d + 1
 end
def uptoSmall : (H : Type) → List (DataW H) → Bool := fun _ ds => decide (uptoBulkAll ds ≤ 1048576)
def OpenSpec.upto (s : _root_.Go.ChangeSpec) : _root_.Go.OpenSpec := { _root_.Go.OpenSpec.ofChange s with cond := some uptoSmall }

/-- 'starlinglaw8.ClaimForms', WHERE WHAT IT READS IS OF BULK AT MOST 1048576: true; the input reads as it did. -/
def claimFormsUptoRow : OpenClaim := { program := "ytenjakhegeclhaa", sum := "37da580f23517a238b99083f3db94105041192505224fb534af8c9babaa7b08f", func := "starling/starlinglaw8.ClaimForms", spec := "claimForms", apart := false, narrowed := true }
def ClaimFormsUptoSaid : Prop := claimFormsUptoRow.holds Try.pinned (OpenSpec.upto claimFormsSpec)

/-- 'starlinglaw8.ClaimFair', WHERE WHAT IT READS IS OF BULK AT MOST 1048576: true; the input reads as it did. -/
def claimFairUptoRow : OpenClaim := { program := "ytenjakhegeclhaa", sum := "37da580f23517a238b99083f3db94105041192505224fb534af8c9babaa7b08f", func := "starling/starlinglaw8.ClaimFair", spec := "claimFair", apart := false, narrowed := true }
def ClaimFairUptoSaid : Prop := claimFairUptoRow.holds Try.pinned (OpenSpec.upto claimFairSpec)

/-- 'starlinglaw8.ClaimStays', WHERE WHAT IT READS IS OF BULK AT MOST 1048576: true; the input reads as it did. -/
def claimStaysUptoRow : OpenClaim := { program := "ytenjakhegeclhaa", sum := "37da580f23517a238b99083f3db94105041192505224fb534af8c9babaa7b08f", func := "starling/starlinglaw8.ClaimStays", spec := "claimStays", apart := false, narrowed := true }
def ClaimStaysUptoSaid : Prop := claimStaysUptoRow.holds Try.pinned (OpenSpec.upto claimStaysSpec)

/-- 'starlinglaw8.ClaimCome', WHERE WHAT IT READS IS OF BULK AT MOST 1048576: true; the input reads as it did. -/
def claimComeUptoRow : OpenClaim := { program := "ytenjakhegeclhaa", sum := "37da580f23517a238b99083f3db94105041192505224fb534af8c9babaa7b08f", func := "starling/starlinglaw8.ClaimCome", spec := "claimCome", apart := false, narrowed := true }
def ClaimComeUptoSaid : Prop := claimComeUptoRow.holds Try.pinned (OpenSpec.upto claimComeSpec)

/-- 'starlinglaw8.ClaimOrder', WHERE WHAT IT READS IS OF BULK AT MOST 1048576: true; the input reads as it did. -/
def claimOrderUptoRow : OpenClaim := { program := "ytenjakhegeclhaa", sum := "37da580f23517a238b99083f3db94105041192505224fb534af8c9babaa7b08f", func := "starling/starlinglaw8.ClaimOrder", spec := "claimOrder", apart := false, narrowed := true }
def ClaimOrderUptoSaid : Prop := claimOrderUptoRow.holds Try.pinned (OpenSpec.upto claimOrderSpec)

/-- 'starlinglaw8.ClaimNew', WHERE WHAT IT READS IS OF BULK AT MOST 1048576: true; the input reads as it did. -/
def claimNewUptoRow : OpenClaim := { program := "ytenjakhegeclhaa", sum := "37da580f23517a238b99083f3db94105041192505224fb534af8c9babaa7b08f", func := "starling/starlinglaw8.ClaimNew", spec := "claimNew", apart := false, narrowed := true }
def ClaimNewUptoSaid : Prop := claimNewUptoRow.holds Try.pinned (OpenSpec.upto claimNewSpec)

/-- 'starlinglaw8.ClaimSwaps', WHERE WHAT IT READS IS OF BULK AT MOST 1048576: true; the input reads as it did. -/
def claimSwapsUptoRow : OpenClaim := { program := "ytenjakhegeclhaa", sum := "37da580f23517a238b99083f3db94105041192505224fb534af8c9babaa7b08f", func := "starling/starlinglaw8.ClaimSwaps", spec := "claimSwaps", apart := false, narrowed := true }
def ClaimSwapsUptoSaid : Prop := claimSwapsUptoRow.holds Try.pinned (OpenSpec.upto claimSwapsSpec)

end Rows
end Go.Proofs.Ytenjakhegeclhaa
