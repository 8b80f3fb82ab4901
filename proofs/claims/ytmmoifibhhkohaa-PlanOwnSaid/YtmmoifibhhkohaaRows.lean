/-
  No cell of these rows narrows 'for every input' (looked for: loops, veiled, ifaces, maps, wideKeys, modest, calm, conditions, laid).
  DERIVED. THE GIVEN ROWS OF THIS SEAT. 5 by the template 'for every input the law returns true; each argument reads behind the call as it read before'; 0 by the template 'total and deterministic' (their statements: YtmmoifibhhkohaaTotals.lean).
  GIVEN WITH THE SEED: the statements are not yours to turn. If you find one false, say at which input.
  Laid BY PROGRAM, IN A SANDBOX (cutbox-rows.mjs): the forced cells as the released guide's own fill.sh prints them over the translation e0ace6f254f8c8c7… (all of the seat's roots in one cut). By AI agents, Wed Nov 11 2026. No macro, syntax, notation, axiom, sorry.
-/
import Derived.Test.YtmmoifibhhkohaaChecked
import GoSem.Claim
import GoSem.ClaimJoined
import GoSem.ClaimMapViews
import Derived.JoinedTies
import Derived.KernelRfl
namespace Go.Proofs.Ytmmoifibhhkohaa
/- THE CELL 'sum', in the pinned program and in every row, IS THE sha256 OF THE DUMP (.gsa) THAT YtmmoifibhhkohaaProg.lean LOADS. Nothing in Lean hashes anything: it is a label: what it is worth is what the hold of that sum in a sandbox is worth. -/
noncomputable def Try.pinned : Pinned := { name := "ytmmoifibhhkohaa", sum := "e0ace6f254f8c8c75d8101cff2f5b45b8dcdbb2dc21796869a297301d48c9406", checked := Try.checked }
namespace Rows
def none {H : Type} : Left H := { results := [], args := [] }

/-- 'starlinglaw10.PlanJoins': WHATEVER THE INPUT: true; the input reads as it did. -/
def planJoinsSpec : ChangeSpec := { name := "planJoins", fn := fun _ => fun
  | [d1, d2, d3, d4, d5] => { results := [.lit (.bool true)], args := [d1, d2, d3, d4, d5] }
  | _ => none }
def planJoinsRow : OpenClaim := { program := "ytmmoifibhhkohaa", sum := "e0ace6f254f8c8c75d8101cff2f5b45b8dcdbb2dc21796869a297301d48c9406", func := "starling/starlinglaw10.PlanJoins", spec := "planJoins", unfollowed := true, recurses := true, apart := false }
def PlanJoinsSaid : Prop := planJoinsRow.holds Try.pinned (OpenSpec.ofChange planJoinsSpec)

/-- ITS FALSE NEIGHBOUR: 'it returns false'. Refute it at one input. -/
def planJoinsWrong : ChangeSpec := { name := "planJoins", fn := fun _ => fun
  | [d1, d2, d3, d4, d5] => { results := [.lit (.bool false)], args := [d1, d2, d3, d4, d5] }
  | _ => none }
def PlanJoinsWrongFalsely : Prop := planJoinsRow.holds Try.pinned (OpenSpec.ofChange planJoinsWrong)

/-- 'starlinglaw10.PlanOwn': WHATEVER THE INPUT: true; the input reads as it did. -/
def planOwnSpec : ChangeSpec := { name := "planOwn", fn := fun _ => fun
  | [d1, d2, d3] => { results := [.lit (.bool true)], args := [d1, d2, d3] }
  | _ => none }
def planOwnRow : OpenClaim := { program := "ytmmoifibhhkohaa", sum := "e0ace6f254f8c8c75d8101cff2f5b45b8dcdbb2dc21796869a297301d48c9406", func := "starling/starlinglaw10.PlanOwn", spec := "planOwn", unfollowed := true, recurses := true, apart := false }
def PlanOwnSaid : Prop := planOwnRow.holds Try.pinned (OpenSpec.ofChange planOwnSpec)

/-- ITS FALSE NEIGHBOUR: 'it returns false'. Refute it at one input. -/
def planOwnWrong : ChangeSpec := { name := "planOwn", fn := fun _ => fun
  | [d1, d2, d3] => { results := [.lit (.bool false)], args := [d1, d2, d3] }
  | _ => none }
def PlanOwnWrongFalsely : Prop := planOwnRow.holds Try.pinned (OpenSpec.ofChange planOwnWrong)

/-- 'starlinglaw10.PlanRow': WHATEVER THE INPUT: true; the input reads as it did. -/
def planRowSpec : ChangeSpec := { name := "planRow", fn := fun _ => fun
  | [d1, d2] => { results := [.lit (.bool true)], args := [d1, d2] }
  | _ => none }
def planRowRow : OpenClaim := { program := "ytmmoifibhhkohaa", sum := "e0ace6f254f8c8c75d8101cff2f5b45b8dcdbb2dc21796869a297301d48c9406", func := "starling/starlinglaw10.PlanRow", spec := "planRow", unfollowed := true, recurses := true, apart := false }
def PlanRowSaid : Prop := planRowRow.holds Try.pinned (OpenSpec.ofChange planRowSpec)

/-- ITS FALSE NEIGHBOUR: 'it returns false'. Refute it at one input. -/
def planRowWrong : ChangeSpec := { name := "planRow", fn := fun _ => fun
  | [d1, d2] => { results := [.lit (.bool false)], args := [d1, d2] }
  | _ => none }
def PlanRowWrongFalsely : Prop := planRowRow.holds Try.pinned (OpenSpec.ofChange planRowWrong)

/-- 'starlinglaw10.PlanTwo': WHATEVER THE INPUT: true; the input reads as it did. -/
def planTwoSpec : ChangeSpec := { name := "planTwo", fn := fun _ => fun
  | [d1, d2, d3, d4, d5] => { results := [.lit (.bool true)], args := [d1, d2, d3, d4, d5] }
  | _ => none }
def planTwoRow : OpenClaim := { program := "ytmmoifibhhkohaa", sum := "e0ace6f254f8c8c75d8101cff2f5b45b8dcdbb2dc21796869a297301d48c9406", func := "starling/starlinglaw10.PlanTwo", spec := "planTwo", unfollowed := true, recurses := true, apart := false }
def PlanTwoSaid : Prop := planTwoRow.holds Try.pinned (OpenSpec.ofChange planTwoSpec)

/-- ITS FALSE NEIGHBOUR: 'it returns false'. Refute it at one input. -/
def planTwoWrong : ChangeSpec := { name := "planTwo", fn := fun _ => fun
  | [d1, d2, d3, d4, d5] => { results := [.lit (.bool false)], args := [d1, d2, d3, d4, d5] }
  | _ => none }
def PlanTwoWrongFalsely : Prop := planTwoRow.holds Try.pinned (OpenSpec.ofChange planTwoWrong)

/-- 'starlinglaw10.PlanForms': WHATEVER THE INPUT: true; the input reads as it did. -/
def planFormsSpec : ChangeSpec := { name := "planForms", fn := fun _ => fun
  | [d1, d2, d3, d4] => { results := [.lit (.bool true)], args := [d1, d2, d3, d4] }
  | _ => none }
def planFormsRow : OpenClaim := { program := "ytmmoifibhhkohaa", sum := "e0ace6f254f8c8c75d8101cff2f5b45b8dcdbb2dc21796869a297301d48c9406", func := "starling/starlinglaw10.PlanForms", spec := "planForms", unfollowed := true, recurses := true, apart := false }
def PlanFormsSaid : Prop := planFormsRow.holds Try.pinned (OpenSpec.ofChange planFormsSpec)

/-- ITS FALSE NEIGHBOUR: 'it returns false'. Refute it at one input. -/
def planFormsWrong : ChangeSpec := { name := "planForms", fn := fun _ => fun
  | [d1, d2, d3, d4] => { results := [.lit (.bool false)], args := [d1, d2, d3, d4] }
  | _ => none }
def PlanFormsWrongFalsely : Prop := planFormsRow.holds Try.pinned (OpenSpec.ofChange planFormsWrong)

/- THE SECOND FORM. 'bulk': how many values and letters a reading holds, each counted each time it is reached (what is shared counts as often as it is met; a slice's spare places count too). A statement '..UptoSaid' is the law's where the arguments, and the package variables that the reading takes, are together of bulk at most 1048576: NARROWER than '..Said'. Prove '..Said' where nothing that the law and all that it calls make is longer than what came in: it says more and counts as full. Else prove '..UptoSaid'. A law counts once. -/
mutual
def uptoBulk {H : Type} : DataW H → Nat
  | .lit (.string bytes) => bytes.length + 1
  | .lit _ => 1
  | .nil => 1
  | .ptr d => uptoBulk d + 1
  | .slice elems spare => uptoBulkAll elems + uptoBulkAll spare + 1
  | .agg parts => uptoBulkAll parts + 1
  | .iface _ d => uptoBulk d + 1
  | .map entries => uptoBulkEntries entries + 1
  | .held _ => 1
def uptoBulkAll {H : Type} : List (DataW H) → Nat
  | [] => 0
  | d :: r => uptoBulk d + uptoBulkAll r
def uptoBulkEntries {H : Type} : List (Lit × DataW H) → Nat
  | [] => 0
  | x :: r => uptoBulkEntry x + uptoBulkEntries r
def uptoBulkEntry {H : Type} : Lit × DataW H → Nat
  | (.string bytes, d) => bytes.length + uptoBulk d + 1
  | (_, d) => uptoBulk d + 1
 end
def uptoSmall : (H : Type) → List (DataW H) → Bool := fun _ ds => decide (uptoBulkAll ds ≤ 1048576)
def OpenSpec.upto (s : _root_.Go.ChangeSpec) : _root_.Go.OpenSpec := { _root_.Go.OpenSpec.ofChange s with cond := some uptoSmall }

/-- 'starlinglaw10.PlanJoins', WHERE WHAT IT READS IS OF BULK AT MOST 1048576: true; the input reads as it did. -/
def planJoinsUptoRow : OpenClaim := { program := "ytmmoifibhhkohaa", sum := "e0ace6f254f8c8c75d8101cff2f5b45b8dcdbb2dc21796869a297301d48c9406", func := "starling/starlinglaw10.PlanJoins", spec := "planJoins", unfollowed := true, recurses := true, apart := false, narrowed := true }
def PlanJoinsUptoSaid : Prop := planJoinsUptoRow.holds Try.pinned (OpenSpec.upto planJoinsSpec)

/-- 'starlinglaw10.PlanOwn', WHERE WHAT IT READS IS OF BULK AT MOST 1048576: true; the input reads as it did. -/
def planOwnUptoRow : OpenClaim := { program := "ytmmoifibhhkohaa", sum := "e0ace6f254f8c8c75d8101cff2f5b45b8dcdbb2dc21796869a297301d48c9406", func := "starling/starlinglaw10.PlanOwn", spec := "planOwn", unfollowed := true, recurses := true, apart := false, narrowed := true }
def PlanOwnUptoSaid : Prop := planOwnUptoRow.holds Try.pinned (OpenSpec.upto planOwnSpec)

/-- 'starlinglaw10.PlanRow', WHERE WHAT IT READS IS OF BULK AT MOST 1048576: true; the input reads as it did. -/
def planRowUptoRow : OpenClaim := { program := "ytmmoifibhhkohaa", sum := "e0ace6f254f8c8c75d8101cff2f5b45b8dcdbb2dc21796869a297301d48c9406", func := "starling/starlinglaw10.PlanRow", spec := "planRow", unfollowed := true, recurses := true, apart := false, narrowed := true }
def PlanRowUptoSaid : Prop := planRowUptoRow.holds Try.pinned (OpenSpec.upto planRowSpec)

/-- 'starlinglaw10.PlanTwo', WHERE WHAT IT READS IS OF BULK AT MOST 1048576: true; the input reads as it did. -/
def planTwoUptoRow : OpenClaim := { program := "ytmmoifibhhkohaa", sum := "e0ace6f254f8c8c75d8101cff2f5b45b8dcdbb2dc21796869a297301d48c9406", func := "starling/starlinglaw10.PlanTwo", spec := "planTwo", unfollowed := true, recurses := true, apart := false, narrowed := true }
def PlanTwoUptoSaid : Prop := planTwoUptoRow.holds Try.pinned (OpenSpec.upto planTwoSpec)

/-- 'starlinglaw10.PlanForms', WHERE WHAT IT READS IS OF BULK AT MOST 1048576: true; the input reads as it did. -/
def planFormsUptoRow : OpenClaim := { program := "ytmmoifibhhkohaa", sum := "e0ace6f254f8c8c75d8101cff2f5b45b8dcdbb2dc21796869a297301d48c9406", func := "starling/starlinglaw10.PlanForms", spec := "planForms", unfollowed := true, recurses := true, apart := false, narrowed := true }
def PlanFormsUptoSaid : Prop := planFormsUptoRow.holds Try.pinned (OpenSpec.upto planFormsSpec)

end Rows
end Go.Proofs.Ytmmoifibhhkohaa
