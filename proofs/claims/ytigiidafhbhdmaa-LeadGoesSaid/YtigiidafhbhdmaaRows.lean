/-
  No cell of these rows narrows 'for every input' (looked for: loops, veiled, ifaces, maps, wideKeys, modest, calm, conditions, laid).
  DERIVED. THE GIVEN ROWS OF THIS SEAT. 5 by the template 'for every input the law returns true; each argument reads behind the call as it read before'; 0 by the template 'total and deterministic' (their statements: YtigiidafhbhdmaaTotals.lean).
  GIVEN WITH THE SEED: the statements are not yours to turn. If you find one false, say at which input.
  Laid BY PROGRAM, IN A SANDBOX (cutbox-rows.mjs): the forced cells as the released guide's own fill.sh prints them over the translation 2392cab3312f5fc0… (all of the seat's roots in one cut). By AI agents, Wed Nov 11 2026. No macro, syntax, notation, axiom, sorry.
-/
import Derived.Test.YtigiidafhbhdmaaChecked
import GoSem.Claim
import GoSem.ClaimJoined
import GoSem.ClaimMapViews
import Derived.JoinedTies
import Derived.KernelRfl
namespace Go.Proofs.Ytigiidafhbhdmaa
/- THE CELL 'sum', in the pinned program and in every row, IS THE sha256 OF THE DUMP (.gsa) THAT YtigiidafhbhdmaaProg.lean LOADS. Nothing in Lean hashes anything: it is a label: what it is worth is what the hold of that sum in a sandbox is worth. -/
noncomputable def Try.pinned : Pinned := { name := "ytigiidafhbhdmaa", sum := "2392cab3312f5fc089c78607f2bc829128a0a4d98cb0b213a046a6bf12900108", checked := Try.checked }
namespace Rows
def none {H : Type} : Left H := { results := [], args := [] }

/-- 'starlinglaw12.LeadOne': WHATEVER THE INPUT: true; the input reads as it did. -/
def leadOneSpec : ChangeSpec := { name := "leadOne", fn := fun _ => fun
  | [d1, d2, d3] => { results := [.lit (.bool true)], args := [d1, d2, d3] }
  | _ => none }
def leadOneRow : OpenClaim := { program := "ytigiidafhbhdmaa", sum := "2392cab3312f5fc089c78607f2bc829128a0a4d98cb0b213a046a6bf12900108", func := "starling/starlinglaw12.LeadOne", spec := "leadOne", unfollowed := true, recurses := true, apart := false }
def LeadOneSaid : Prop := leadOneRow.holds Try.pinned (OpenSpec.ofChange leadOneSpec)

/-- ITS FALSE NEIGHBOUR: 'it returns false'. Refute it at one input. -/
def leadOneWrong : ChangeSpec := { name := "leadOne", fn := fun _ => fun
  | [d1, d2, d3] => { results := [.lit (.bool false)], args := [d1, d2, d3] }
  | _ => none }
def LeadOneWrongFalsely : Prop := leadOneRow.holds Try.pinned (OpenSpec.ofChange leadOneWrong)

/-- 'starlinglaw12.LeadTwo': WHATEVER THE INPUT: true; the input reads as it did. -/
def leadTwoSpec : ChangeSpec := { name := "leadTwo", fn := fun _ => fun
  | [d1, d2, d3] => { results := [.lit (.bool true)], args := [d1, d2, d3] }
  | _ => none }
def leadTwoRow : OpenClaim := { program := "ytigiidafhbhdmaa", sum := "2392cab3312f5fc089c78607f2bc829128a0a4d98cb0b213a046a6bf12900108", func := "starling/starlinglaw12.LeadTwo", spec := "leadTwo", unfollowed := true, recurses := true, apart := false }
def LeadTwoSaid : Prop := leadTwoRow.holds Try.pinned (OpenSpec.ofChange leadTwoSpec)

/-- ITS FALSE NEIGHBOUR: 'it returns false'. Refute it at one input. -/
def leadTwoWrong : ChangeSpec := { name := "leadTwo", fn := fun _ => fun
  | [d1, d2, d3] => { results := [.lit (.bool false)], args := [d1, d2, d3] }
  | _ => none }
def LeadTwoWrongFalsely : Prop := leadTwoRow.holds Try.pinned (OpenSpec.ofChange leadTwoWrong)

/-- 'starlinglaw12.LeadRow': WHATEVER THE INPUT: true; the input reads as it did. -/
def leadRowSpec : ChangeSpec := { name := "leadRow", fn := fun _ => fun
  | [d] => { results := [.lit (.bool true)], args := [d] }
  | _ => none }
def leadRowRow : OpenClaim := { program := "ytigiidafhbhdmaa", sum := "2392cab3312f5fc089c78607f2bc829128a0a4d98cb0b213a046a6bf12900108", func := "starling/starlinglaw12.LeadRow", spec := "leadRow", unfollowed := true, recurses := true, apart := false }
def LeadRowSaid : Prop := leadRowRow.holds Try.pinned (OpenSpec.ofChange leadRowSpec)

/-- ITS FALSE NEIGHBOUR: 'it returns false'. Refute it at one input. -/
def leadRowWrong : ChangeSpec := { name := "leadRow", fn := fun _ => fun
  | [d] => { results := [.lit (.bool false)], args := [d] }
  | _ => none }
def LeadRowWrongFalsely : Prop := leadRowRow.holds Try.pinned (OpenSpec.ofChange leadRowWrong)

/-- 'starlinglaw12.LeadRises': WHATEVER THE INPUT: true; the input reads as it did. -/
def leadRisesSpec : ChangeSpec := { name := "leadRises", fn := fun _ => fun
  | [d1, d2, d3] => { results := [.lit (.bool true)], args := [d1, d2, d3] }
  | _ => none }
def leadRisesRow : OpenClaim := { program := "ytigiidafhbhdmaa", sum := "2392cab3312f5fc089c78607f2bc829128a0a4d98cb0b213a046a6bf12900108", func := "starling/starlinglaw12.LeadRises", spec := "leadRises", unfollowed := true, recurses := true, apart := false }
def LeadRisesSaid : Prop := leadRisesRow.holds Try.pinned (OpenSpec.ofChange leadRisesSpec)

/-- ITS FALSE NEIGHBOUR: 'it returns false'. Refute it at one input. -/
def leadRisesWrong : ChangeSpec := { name := "leadRises", fn := fun _ => fun
  | [d1, d2, d3] => { results := [.lit (.bool false)], args := [d1, d2, d3] }
  | _ => none }
def LeadRisesWrongFalsely : Prop := leadRisesRow.holds Try.pinned (OpenSpec.ofChange leadRisesWrong)

/-- 'starlinglaw12.LeadGoes': WHATEVER THE INPUT: true; the input reads as it did. -/
def leadGoesSpec : ChangeSpec := { name := "leadGoes", fn := fun _ => fun
  | [d1, d2, d3] => { results := [.lit (.bool true)], args := [d1, d2, d3] }
  | _ => none }
def leadGoesRow : OpenClaim := { program := "ytigiidafhbhdmaa", sum := "2392cab3312f5fc089c78607f2bc829128a0a4d98cb0b213a046a6bf12900108", func := "starling/starlinglaw12.LeadGoes", spec := "leadGoes", unfollowed := true, recurses := true, apart := false }
def LeadGoesSaid : Prop := leadGoesRow.holds Try.pinned (OpenSpec.ofChange leadGoesSpec)

/-- ITS FALSE NEIGHBOUR: 'it returns false'. Refute it at one input. -/
def leadGoesWrong : ChangeSpec := { name := "leadGoes", fn := fun _ => fun
  | [d1, d2, d3] => { results := [.lit (.bool false)], args := [d1, d2, d3] }
  | _ => none }
def LeadGoesWrongFalsely : Prop := leadGoesRow.holds Try.pinned (OpenSpec.ofChange leadGoesWrong)

/- THE SECOND FORM. 'bulk': how many values and letters a reading holds, each counted each time it is reached (what is shared counts as often as it is met; a slice's spare places count too). A statement '..UptoSaid' is the law's where the arguments, and the package variables that the reading takes, are together of bulk at most 1048576: NARROWER than '..Said'. Prove '..Said' where nothing that the law and all that it calls make is longer than what came in: it says more and counts as full. Else prove '..UptoSaid'. A law counts once. -/
mutual
def uptoBulk {H : Type} : DataW H → Nat
  | .lit (.string bytes) => bytes.length + 1
  | .lit _ => 1
  | .nil => 1
  | .ptr d => uptoBulk d + 1
  | .slice elems spare => uptoBulkAll elems + uptoBulkAll spare + 1
  | .agg parts => uptoBulkAll parts + 1
  | .iface _ d => uptoBulk d + 1
  | .map entries => uptoBulkEntries entries + 1
  | .held _ => 1
def uptoBulkAll {H : Type} : List (DataW H) → Nat
  | [] => 0
  | d :: r => uptoBulk d + uptoBulkAll r
def uptoBulkEntries {H : Type} : List (Lit × DataW H) → Nat
  | [] => 0
  | x :: r => uptoBulkEntry x + uptoBulkEntries r
def uptoBulkEntry {H : Type} : Lit × DataW H → Nat
  | (.string bytes, d) => bytes.length + uptoBulk d + 1
  | (_, d) => uptoBulk d + 1
 end
def uptoSmall : (H : Type) → List (DataW H) → Bool := fun _ ds => decide (uptoBulkAll ds ≤ 1048576)
def OpenSpec.upto (s : _root_.Go.ChangeSpec) : _root_.Go.OpenSpec := { _root_.Go.OpenSpec.ofChange s with cond := some uptoSmall }

/-- 'starlinglaw12.LeadOne', WHERE WHAT IT READS IS OF BULK AT MOST 1048576: true; the input reads as it did. -/
def leadOneUptoRow : OpenClaim := { program := "ytigiidafhbhdmaa", sum := "2392cab3312f5fc089c78607f2bc829128a0a4d98cb0b213a046a6bf12900108", func := "starling/starlinglaw12.LeadOne", spec := "leadOne", unfollowed := true, recurses := true, apart := false, narrowed := true }
def LeadOneUptoSaid : Prop := leadOneUptoRow.holds Try.pinned (OpenSpec.upto leadOneSpec)

/-- 'starlinglaw12.LeadTwo', WHERE WHAT IT READS IS OF BULK AT MOST 1048576: true; the input reads as it did. -/
def leadTwoUptoRow : OpenClaim := { program := "ytigiidafhbhdmaa", sum := "2392cab3312f5fc089c78607f2bc829128a0a4d98cb0b213a046a6bf12900108", func := "starling/starlinglaw12.LeadTwo", spec := "leadTwo", unfollowed := true, recurses := true, apart := false, narrowed := true }
def LeadTwoUptoSaid : Prop := leadTwoUptoRow.holds Try.pinned (OpenSpec.upto leadTwoSpec)

/-- 'starlinglaw12.LeadRow', WHERE WHAT IT READS IS OF BULK AT MOST 1048576: true; the input reads as it did. -/
def leadRowUptoRow : OpenClaim := { program := "ytigiidafhbhdmaa", sum := "2392cab3312f5fc089c78607f2bc829128a0a4d98cb0b213a046a6bf12900108", func := "starling/starlinglaw12.LeadRow", spec := "leadRow", unfollowed := true, recurses := true, apart := false, narrowed := true }
def LeadRowUptoSaid : Prop := leadRowUptoRow.holds Try.pinned (OpenSpec.upto leadRowSpec)

/-- 'starlinglaw12.LeadRises', WHERE WHAT IT READS IS OF BULK AT MOST 1048576: true; the input reads as it did. -/
def leadRisesUptoRow : OpenClaim := { program := "ytigiidafhbhdmaa", sum := "2392cab3312f5fc089c78607f2bc829128a0a4d98cb0b213a046a6bf12900108", func := "starling/starlinglaw12.LeadRises", spec := "leadRises", unfollowed := true, recurses := true, apart := false, narrowed := true }
def LeadRisesUptoSaid : Prop := leadRisesUptoRow.holds Try.pinned (OpenSpec.upto leadRisesSpec)

/-- 'starlinglaw12.LeadGoes', WHERE WHAT IT READS IS OF BULK AT MOST 1048576: true; the input reads as it did. -/
def leadGoesUptoRow : OpenClaim := { program := "ytigiidafhbhdmaa", sum := "2392cab3312f5fc089c78607f2bc829128a0a4d98cb0b213a046a6bf12900108", func := "starling/starlinglaw12.LeadGoes", spec := "leadGoes", unfollowed := true, recurses := true, apart := false, narrowed := true }
def LeadGoesUptoSaid : Prop := leadGoesUptoRow.holds Try.pinned (OpenSpec.upto leadGoesSpec)

end Rows
end Go.Proofs.Ytigiidafhbhdmaa
