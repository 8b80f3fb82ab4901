/-
  NARROWER THAN 'FOR EVERY INPUT', by the rows' own cells (each row's printed sentence says how): HealthOrder: laid · HealthRefutes: laid · HealthLeft: laid · HealthTexts: laid · HealthForms: laid · HealthLouder: laid.
  DERIVED. THE GIVEN ROWS OF THIS SEAT. 6 by the template 'for every input the law returns true; each argument reads behind the call as it read before'; 0 by the template 'total and deterministic' (their statements: YtmgglkmpkhdclaaDoorTotals.lean).
  GIVEN WITH THE SEED: the statements are not yours to turn. If you find one false, say at which input.
  Laid BY PROGRAM, IN A SANDBOX (cutbox-rows.mjs): the forced cells as the released guide's own fill.sh prints them over the translation 610321d13a591d3c… (all of the seat's roots in one cut). By AI agents, Wed Nov 11 2026. No macro, syntax, notation, axiom, sorry.
-/
import Derived.Test.YtmgglkmpkhdclaaDoorChecked
import GoSem.Claim
import GoSem.ClaimJoined
import GoSem.ClaimMapViews
import Derived.JoinedTies
import Derived.KernelRfl
namespace Go.Proofs.YtmgglkmpkhdclaaDoor
/- THE CELL 'sum', in the pinned program and in every row, IS THE sha256 OF THE DUMP (.gsa) THAT YtmgglkmpkhdclaaDoorProg.lean LOADS. Nothing in Lean hashes anything: it is a label: what it is worth is what the hold of that sum in a sandbox is worth. -/
noncomputable def Tryd.pinned : Pinned := { name := "ytmgglkmpkhdclaadoor", sum := "610321d13a591d3c306f74f42bb5fbda84603ae990af0db15c62050121d96a34", checked := Tryd.checked }
namespace Rows
def none {H : Type} : Left H := { results := [], args := [] }

/- WHAT THE LISTED PACKAGE-LEVEL VARIABLES READ AS WHEN THE CALL BEGINS. Each datum BY PROGRAM (the guide's laid-datum.mjs) off the statement by which the dump's own 'gosem.cut.vars' lays the variable. In a bare row this is a premise. The card (YtmgglkmpkhdclaaDoorCards.lean) ties it to the program's text. -/
def laid_math_bits_deBruijn32tab {H : Type} : DataW H := .agg [.lit (.int .u8 0), .lit (.int .u8 1), .lit (.int .u8 28), .lit (.int .u8 2), .lit (.int .u8 29), .lit (.int .u8 14), .lit (.int .u8 24), .lit (.int .u8 3), .lit (.int .u8 30), .lit (.int .u8 22), .lit (.int .u8 20), .lit (.int .u8 15), .lit (.int .u8 25), .lit (.int .u8 17), .lit (.int .u8 4), .lit (.int .u8 8), .lit (.int .u8 31), .lit (.int .u8 27), .lit (.int .u8 13), .lit (.int .u8 23), .lit (.int .u8 21), .lit (.int .u8 19), .lit (.int .u8 16), .lit (.int .u8 7), .lit (.int .u8 26), .lit (.int .u8 12), .lit (.int .u8 18), .lit (.int .u8 6), .lit (.int .u8 11), .lit (.int .u8 5), .lit (.int .u8 10), .lit (.int .u8 9)]
def laid_math_bits_deBruijn64tab {H : Type} : DataW H := .agg [.lit (.int .u8 0), .lit (.int .u8 1), .lit (.int .u8 56), .lit (.int .u8 2), .lit (.int .u8 57), .lit (.int .u8 49), .lit (.int .u8 28), .lit (.int .u8 3), .lit (.int .u8 61), .lit (.int .u8 58), .lit (.int .u8 42), .lit (.int .u8 50), .lit (.int .u8 38), .lit (.int .u8 29), .lit (.int .u8 17), .lit (.int .u8 4), .lit (.int .u8 62), .lit (.int .u8 47), .lit (.int .u8 59), .lit (.int .u8 36), .lit (.int .u8 45), .lit (.int .u8 43), .lit (.int .u8 51), .lit (.int .u8 22), .lit (.int .u8 53), .lit (.int .u8 39), .lit (.int .u8 33), .lit (.int .u8 30), .lit (.int .u8 24), .lit (.int .u8 18), .lit (.int .u8 12), .lit (.int .u8 5), .lit (.int .u8 63), .lit (.int .u8 55), .lit (.int .u8 48), .lit (.int .u8 27), .lit (.int .u8 60), .lit (.int .u8 41), .lit (.int .u8 37), .lit (.int .u8 16), .lit (.int .u8 46), .lit (.int .u8 35), .lit (.int .u8 44), .lit (.int .u8 21), .lit (.int .u8 52), .lit (.int .u8 32), .lit (.int .u8 23), .lit (.int .u8 11), .lit (.int .u8 54), .lit (.int .u8 26), .lit (.int .u8 40), .lit (.int .u8 15), .lit (.int .u8 34), .lit (.int .u8 20), .lit (.int .u8 31), .lit (.int .u8 10), .lit (.int .u8 25), .lit (.int .u8 14), .lit (.int .u8 19), .lit (.int .u8 9), .lit (.int .u8 13), .lit (.int .u8 8), .lit (.int .u8 7), .lit (.int .u8 6)]
def laid_internal_strconv_uint64pow10 {H : Type} : DataW H := .agg [.lit (.int .u64 1), .lit (.int .u64 10), .lit (.int .u64 100), .lit (.int .u64 1000), .lit (.int .u64 10000), .lit (.int .u64 100000), .lit (.int .u64 1000000), .lit (.int .u64 10000000), .lit (.int .u64 100000000), .lit (.int .u64 1000000000), .lit (.int .u64 10000000000), .lit (.int .u64 100000000000), .lit (.int .u64 1000000000000), .lit (.int .u64 10000000000000), .lit (.int .u64 100000000000000), .lit (.int .u64 1000000000000000), .lit (.int .u64 10000000000000000), .lit (.int .u64 100000000000000000), .lit (.int .u64 1000000000000000000), .lit (.int .u64 10000000000000000000)]

/-- 'starlinglaw1.HealthOrder': WHATEVER THE INPUT: true; the input reads as it did. -/
def healthOrderSpec : ChangeSpec := { name := "healthOrder", fn := fun _ => fun
  | [d1, d2, d3] => { results := [.lit (.bool true)], args := [d1, d2, d3] }
  | _ => none }
def healthOrderRow : OpenClaim := { program := "ytmgglkmpkhdclaadoor", sum := "610321d13a591d3c306f74f42bb5fbda84603ae990af0db15c62050121d96a34", func := "starling/starlinglaw1.HealthOrder", spec := "healthOrder", named := ["internal/strconv.uint64pow10", "math/bits.deBruijn32tab", "math/bits.deBruijn64tab"], apart := false, laid := [("math/bits.deBruijn32tab", laid_math_bits_deBruijn32tab), ("math/bits.deBruijn64tab", laid_math_bits_deBruijn64tab), ("internal/strconv.uint64pow10", laid_internal_strconv_uint64pow10)] }
def HealthOrderSaid : Prop := healthOrderRow.holds Tryd.pinned (OpenSpec.ofChange healthOrderSpec)

/-- ITS FALSE NEIGHBOUR: 'it returns false'. Refute it at one input. -/
def healthOrderWrong : ChangeSpec := { name := "healthOrder", fn := fun _ => fun
  | [d1, d2, d3] => { results := [.lit (.bool false)], args := [d1, d2, d3] }
  | _ => none }
def HealthOrderWrongFalsely : Prop := healthOrderRow.holds Tryd.pinned (OpenSpec.ofChange healthOrderWrong)

/-- 'starlinglaw1.HealthRefutes': WHATEVER THE INPUT: true; the input reads as it did. -/
def healthRefutesSpec : ChangeSpec := { name := "healthRefutes", fn := fun _ => fun
  | [d1, d2, d3] => { results := [.lit (.bool true)], args := [d1, d2, d3] }
  | _ => none }
def healthRefutesRow : OpenClaim := { program := "ytmgglkmpkhdclaadoor", sum := "610321d13a591d3c306f74f42bb5fbda84603ae990af0db15c62050121d96a34", func := "starling/starlinglaw1.HealthRefutes", spec := "healthRefutes", named := ["internal/strconv.uint64pow10", "math/bits.deBruijn32tab", "math/bits.deBruijn64tab"], apart := false, laid := [("math/bits.deBruijn32tab", laid_math_bits_deBruijn32tab), ("math/bits.deBruijn64tab", laid_math_bits_deBruijn64tab), ("internal/strconv.uint64pow10", laid_internal_strconv_uint64pow10)] }
def HealthRefutesSaid : Prop := healthRefutesRow.holds Tryd.pinned (OpenSpec.ofChange healthRefutesSpec)

/-- ITS FALSE NEIGHBOUR: 'it returns false'. Refute it at one input. -/
def healthRefutesWrong : ChangeSpec := { name := "healthRefutes", fn := fun _ => fun
  | [d1, d2, d3] => { results := [.lit (.bool false)], args := [d1, d2, d3] }
  | _ => none }
def HealthRefutesWrongFalsely : Prop := healthRefutesRow.holds Tryd.pinned (OpenSpec.ofChange healthRefutesWrong)

/-- 'starlinglaw1.HealthLeft': WHATEVER THE INPUT: true; the input reads as it did. -/
def healthLeftSpec : ChangeSpec := { name := "healthLeft", fn := fun _ => fun
  | [d1, d2, d3] => { results := [.lit (.bool true)], args := [d1, d2, d3] }
  | _ => none }
def healthLeftRow : OpenClaim := { program := "ytmgglkmpkhdclaadoor", sum := "610321d13a591d3c306f74f42bb5fbda84603ae990af0db15c62050121d96a34", func := "starling/starlinglaw1.HealthLeft", spec := "healthLeft", named := ["internal/strconv.uint64pow10", "math/bits.deBruijn32tab", "math/bits.deBruijn64tab"], apart := false, laid := [("math/bits.deBruijn32tab", laid_math_bits_deBruijn32tab), ("math/bits.deBruijn64tab", laid_math_bits_deBruijn64tab), ("internal/strconv.uint64pow10", laid_internal_strconv_uint64pow10)] }
def HealthLeftSaid : Prop := healthLeftRow.holds Tryd.pinned (OpenSpec.ofChange healthLeftSpec)

/-- ITS FALSE NEIGHBOUR: 'it returns false'. Refute it at one input. -/
def healthLeftWrong : ChangeSpec := { name := "healthLeft", fn := fun _ => fun
  | [d1, d2, d3] => { results := [.lit (.bool false)], args := [d1, d2, d3] }
  | _ => none }
def HealthLeftWrongFalsely : Prop := healthLeftRow.holds Tryd.pinned (OpenSpec.ofChange healthLeftWrong)

/-- 'starlinglaw1.HealthTexts': WHATEVER THE INPUT: true; the input reads as it did. -/
def healthTextsSpec : ChangeSpec := { name := "healthTexts", fn := fun _ => fun
  | [d1, d2] => { results := [.lit (.bool true)], args := [d1, d2] }
  | _ => none }
def healthTextsRow : OpenClaim := { program := "ytmgglkmpkhdclaadoor", sum := "610321d13a591d3c306f74f42bb5fbda84603ae990af0db15c62050121d96a34", func := "starling/starlinglaw1.HealthTexts", spec := "healthTexts", named := ["internal/strconv.uint64pow10", "math/bits.deBruijn32tab", "math/bits.deBruijn64tab"], apart := false, laid := [("math/bits.deBruijn32tab", laid_math_bits_deBruijn32tab), ("math/bits.deBruijn64tab", laid_math_bits_deBruijn64tab), ("internal/strconv.uint64pow10", laid_internal_strconv_uint64pow10)] }
def HealthTextsSaid : Prop := healthTextsRow.holds Tryd.pinned (OpenSpec.ofChange healthTextsSpec)

/-- ITS FALSE NEIGHBOUR: 'it returns false'. Refute it at one input. -/
def healthTextsWrong : ChangeSpec := { name := "healthTexts", fn := fun _ => fun
  | [d1, d2] => { results := [.lit (.bool false)], args := [d1, d2] }
  | _ => none }
def HealthTextsWrongFalsely : Prop := healthTextsRow.holds Tryd.pinned (OpenSpec.ofChange healthTextsWrong)

/-- 'starlinglaw1.HealthForms': WHATEVER THE INPUT: true; the input reads as it did. -/
def healthFormsSpec : ChangeSpec := { name := "healthForms", fn := fun _ => fun
  | [d1, d2, d3, d4] => { results := [.lit (.bool true)], args := [d1, d2, d3, d4] }
  | _ => none }
def healthFormsRow : OpenClaim := { program := "ytmgglkmpkhdclaadoor", sum := "610321d13a591d3c306f74f42bb5fbda84603ae990af0db15c62050121d96a34", func := "starling/starlinglaw1.HealthForms", spec := "healthForms", named := ["internal/strconv.uint64pow10", "math/bits.deBruijn32tab", "math/bits.deBruijn64tab"], apart := false, laid := [("math/bits.deBruijn32tab", laid_math_bits_deBruijn32tab), ("math/bits.deBruijn64tab", laid_math_bits_deBruijn64tab), ("internal/strconv.uint64pow10", laid_internal_strconv_uint64pow10)] }
def HealthFormsSaid : Prop := healthFormsRow.holds Tryd.pinned (OpenSpec.ofChange healthFormsSpec)

/-- ITS FALSE NEIGHBOUR: 'it returns false'. Refute it at one input. -/
def healthFormsWrong : ChangeSpec := { name := "healthForms", fn := fun _ => fun
  | [d1, d2, d3, d4] => { results := [.lit (.bool false)], args := [d1, d2, d3, d4] }
  | _ => none }
def HealthFormsWrongFalsely : Prop := healthFormsRow.holds Tryd.pinned (OpenSpec.ofChange healthFormsWrong)

/-- 'starlinglaw1.HealthLouder': WHATEVER THE INPUT: true; the input reads as it did. -/
def healthLouderSpec : ChangeSpec := { name := "healthLouder", fn := fun _ => fun
  | [d1, d2, d3] => { results := [.lit (.bool true)], args := [d1, d2, d3] }
  | _ => none }
def healthLouderRow : OpenClaim := { program := "ytmgglkmpkhdclaadoor", sum := "610321d13a591d3c306f74f42bb5fbda84603ae990af0db15c62050121d96a34", func := "starling/starlinglaw1.HealthLouder", spec := "healthLouder", named := ["internal/strconv.uint64pow10", "math/bits.deBruijn32tab", "math/bits.deBruijn64tab"], apart := false, laid := [("math/bits.deBruijn32tab", laid_math_bits_deBruijn32tab), ("math/bits.deBruijn64tab", laid_math_bits_deBruijn64tab), ("internal/strconv.uint64pow10", laid_internal_strconv_uint64pow10)] }
def HealthLouderSaid : Prop := healthLouderRow.holds Tryd.pinned (OpenSpec.ofChange healthLouderSpec)

/-- ITS FALSE NEIGHBOUR: 'it returns false'. Refute it at one input. -/
def healthLouderWrong : ChangeSpec := { name := "healthLouder", fn := fun _ => fun
  | [d1, d2, d3] => { results := [.lit (.bool false)], args := [d1, d2, d3] }
  | _ => none }
def HealthLouderWrongFalsely : Prop := healthLouderRow.holds Tryd.pinned (OpenSpec.ofChange healthLouderWrong)

/- THE SECOND FORM. 'bulk': how many values and letters a reading holds, each counted each time it is reached (what is shared counts as often as it is met; a slice's spare places count too). A statement '..UptoSaid' is the law's where the arguments, and the package variables that the reading takes, are together of bulk at most 1048576: NARROWER than '..Said'. Prove '..Said' where nothing that the law and all that it calls make is longer than what came in: it says more and counts as full. Else prove '..UptoSaid'. A law counts once. -/
mutual
def uptoBulk {H : Type} : DataW H → Nat
  | .lit (.string bytes) => bytes.length + 1
  | .lit _ => 1
  | .nil => 1
  | .ptr d => uptoBulk d + 1
  | .slice elems spare => uptoBulkAll elems + uptoBulkAll spare + 1
  | .agg parts => uptoBulkAll parts + 1
  | .iface _ d => uptoBulk d + 1
  | .map entries => uptoBulkEntries entries + 1
  | .held _ => 1
def uptoBulkAll {H : Type} : List (DataW H) → Nat
  | [] => 0
  | d :: r => uptoBulk d + uptoBulkAll r
def uptoBulkEntries {H : Type} : List (Lit × DataW H) → Nat
  | [] => 0
  | x :: r => uptoBulkEntry x + uptoBulkEntries r
def uptoBulkEntry {H : Type} : Lit × DataW H → Nat
  | (.string bytes, d) => bytes.length + uptoBulk d + 1
  | (_, d) => uptoBulk d + 1
 end
def uptoSmall : (H : Type) → List (DataW H) → Bool := fun _ ds => decide (uptoBulkAll ds ≤ 1048576)
def OpenSpec.upto (s : _root_.Go.ChangeSpec) : _root_.Go.OpenSpec := { _root_.Go.OpenSpec.ofChange s with cond := some uptoSmall }

/-- 'starlinglaw1.HealthOrder', WHERE WHAT IT READS IS OF BULK AT MOST 1048576: true; the input reads as it did. -/
def healthOrderUptoRow : OpenClaim := { program := "ytmgglkmpkhdclaadoor", sum := "610321d13a591d3c306f74f42bb5fbda84603ae990af0db15c62050121d96a34", func := "starling/starlinglaw1.HealthOrder", spec := "healthOrder", named := ["internal/strconv.uint64pow10", "math/bits.deBruijn32tab", "math/bits.deBruijn64tab"], apart := false, laid := [("math/bits.deBruijn32tab", laid_math_bits_deBruijn32tab), ("math/bits.deBruijn64tab", laid_math_bits_deBruijn64tab), ("internal/strconv.uint64pow10", laid_internal_strconv_uint64pow10)], narrowed := true }
def HealthOrderUptoSaid : Prop := healthOrderUptoRow.holds Tryd.pinned (OpenSpec.upto healthOrderSpec)

/-- 'starlinglaw1.HealthRefutes', WHERE WHAT IT READS IS OF BULK AT MOST 1048576: true; the input reads as it did. -/
def healthRefutesUptoRow : OpenClaim := { program := "ytmgglkmpkhdclaadoor", sum := "610321d13a591d3c306f74f42bb5fbda84603ae990af0db15c62050121d96a34", func := "starling/starlinglaw1.HealthRefutes", spec := "healthRefutes", named := ["internal/strconv.uint64pow10", "math/bits.deBruijn32tab", "math/bits.deBruijn64tab"], apart := false, laid := [("math/bits.deBruijn32tab", laid_math_bits_deBruijn32tab), ("math/bits.deBruijn64tab", laid_math_bits_deBruijn64tab), ("internal/strconv.uint64pow10", laid_internal_strconv_uint64pow10)], narrowed := true }
def HealthRefutesUptoSaid : Prop := healthRefutesUptoRow.holds Tryd.pinned (OpenSpec.upto healthRefutesSpec)

/-- 'starlinglaw1.HealthLeft', WHERE WHAT IT READS IS OF BULK AT MOST 1048576: true; the input reads as it did. -/
def healthLeftUptoRow : OpenClaim := { program := "ytmgglkmpkhdclaadoor", sum := "610321d13a591d3c306f74f42bb5fbda84603ae990af0db15c62050121d96a34", func := "starling/starlinglaw1.HealthLeft", spec := "healthLeft", named := ["internal/strconv.uint64pow10", "math/bits.deBruijn32tab", "math/bits.deBruijn64tab"], apart := false, laid := [("math/bits.deBruijn32tab", laid_math_bits_deBruijn32tab), ("math/bits.deBruijn64tab", laid_math_bits_deBruijn64tab), ("internal/strconv.uint64pow10", laid_internal_strconv_uint64pow10)], narrowed := true }
def HealthLeftUptoSaid : Prop := healthLeftUptoRow.holds Tryd.pinned (OpenSpec.upto healthLeftSpec)

/-- 'starlinglaw1.HealthTexts', WHERE WHAT IT READS IS OF BULK AT MOST 1048576: true; the input reads as it did. -/
def healthTextsUptoRow : OpenClaim := { program := "ytmgglkmpkhdclaadoor", sum := "610321d13a591d3c306f74f42bb5fbda84603ae990af0db15c62050121d96a34", func := "starling/starlinglaw1.HealthTexts", spec := "healthTexts", named := ["internal/strconv.uint64pow10", "math/bits.deBruijn32tab", "math/bits.deBruijn64tab"], apart := false, laid := [("math/bits.deBruijn32tab", laid_math_bits_deBruijn32tab), ("math/bits.deBruijn64tab", laid_math_bits_deBruijn64tab), ("internal/strconv.uint64pow10", laid_internal_strconv_uint64pow10)], narrowed := true }
def HealthTextsUptoSaid : Prop := healthTextsUptoRow.holds Tryd.pinned (OpenSpec.upto healthTextsSpec)

/-- 'starlinglaw1.HealthForms', WHERE WHAT IT READS IS OF BULK AT MOST 1048576: true; the input reads as it did. -/
def healthFormsUptoRow : OpenClaim := { program := "ytmgglkmpkhdclaadoor", sum := "610321d13a591d3c306f74f42bb5fbda84603ae990af0db15c62050121d96a34", func := "starling/starlinglaw1.HealthForms", spec := "healthForms", named := ["internal/strconv.uint64pow10", "math/bits.deBruijn32tab", "math/bits.deBruijn64tab"], apart := false, laid := [("math/bits.deBruijn32tab", laid_math_bits_deBruijn32tab), ("math/bits.deBruijn64tab", laid_math_bits_deBruijn64tab), ("internal/strconv.uint64pow10", laid_internal_strconv_uint64pow10)], narrowed := true }
def HealthFormsUptoSaid : Prop := healthFormsUptoRow.holds Tryd.pinned (OpenSpec.upto healthFormsSpec)

/-- 'starlinglaw1.HealthLouder', WHERE WHAT IT READS IS OF BULK AT MOST 1048576: true; the input reads as it did. -/
def healthLouderUptoRow : OpenClaim := { program := "ytmgglkmpkhdclaadoor", sum := "610321d13a591d3c306f74f42bb5fbda84603ae990af0db15c62050121d96a34", func := "starling/starlinglaw1.HealthLouder", spec := "healthLouder", named := ["internal/strconv.uint64pow10", "math/bits.deBruijn32tab", "math/bits.deBruijn64tab"], apart := false, laid := [("math/bits.deBruijn32tab", laid_math_bits_deBruijn32tab), ("math/bits.deBruijn64tab", laid_math_bits_deBruijn64tab), ("internal/strconv.uint64pow10", laid_internal_strconv_uint64pow10)], narrowed := true }
def HealthLouderUptoSaid : Prop := healthLouderUptoRow.holds Tryd.pinned (OpenSpec.upto healthLouderSpec)

end Rows
end Go.Proofs.YtmgglkmpkhdclaaDoor
