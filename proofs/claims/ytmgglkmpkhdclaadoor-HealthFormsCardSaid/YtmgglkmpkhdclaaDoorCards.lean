/-
  DERIVED. GIVEN WITH THE SEED: THE CARDS: each row of YtmgglkmpkhdclaaDoorRows.lean that lists a variable, with what it lists TIED to the program's text (the seventh form; the later family's looks); each row that meets fmt, with fmt's text TOLD by the authors' own Lean function (tested against real Go, not proved from fmt's source: count such statements apart). THE CARD IS WHAT COUNTS. Prove the row's statement (the work); the ties are given (YtmgglkmpkhdclaaDoorTie.lean); close each card by the builder's one call (the guide's Derived/Test/ToyasCard.lean, 'card_holds'). Laid BY PROGRAM, IN A SANDBOX (cutbox-door.mjs). By AI agents, Wed Nov 11 2026. No macro, syntax, notation, axiom, sorry.
-/
import Derived.Test.YtmgglkmpkhdclaaDoorRows
import GoSem.ClaimSeven
namespace Go.Proofs.YtmgglkmpkhdclaaDoor
namespace Rows

/-- THE TIED CARD OF 'starlinglaw1.HealthOrder'. -/
def healthOrderCard : Claim7 := { stood := { row := healthOrderRow, standIns := [], harness := (true, "fa1caaa5aae882aa82b38fe6978e625176d76555be57eb10475ab0ee2e325ab4"), looks := false }, kinds := [], alts := [], laidByText := true, laidKinds := [.data, .data, .data], laidTests := true, laidLooks := .later }
def HealthOrderCardSaid : Prop := Claim7.holds Tryd.pinned (.plain (OpenSpec.ofChange healthOrderSpec)) healthOrderCard

/-- THE TIED CARD OF 'starlinglaw1.HealthRefutes'. -/
def healthRefutesCard : Claim7 := { stood := { row := healthRefutesRow, standIns := [], harness := (true, "fa1caaa5aae882aa82b38fe6978e625176d76555be57eb10475ab0ee2e325ab4"), looks := false }, kinds := [], alts := [], laidByText := true, laidKinds := [.data, .data, .data], laidTests := true, laidLooks := .later }
def HealthRefutesCardSaid : Prop := Claim7.holds Tryd.pinned (.plain (OpenSpec.ofChange healthRefutesSpec)) healthRefutesCard

/-- THE TIED CARD OF 'starlinglaw1.HealthLeft'. -/
def healthLeftCard : Claim7 := { stood := { row := healthLeftRow, standIns := [], harness := (true, "fa1caaa5aae882aa82b38fe6978e625176d76555be57eb10475ab0ee2e325ab4"), looks := false }, kinds := [], alts := [], laidByText := true, laidKinds := [.data, .data, .data], laidTests := true, laidLooks := .later }
def HealthLeftCardSaid : Prop := Claim7.holds Tryd.pinned (.plain (OpenSpec.ofChange healthLeftSpec)) healthLeftCard

/-- THE TIED CARD OF 'starlinglaw1.HealthTexts'. -/
def healthTextsCard : Claim7 := { stood := { row := healthTextsRow, standIns := [], harness := (true, "fa1caaa5aae882aa82b38fe6978e625176d76555be57eb10475ab0ee2e325ab4"), looks := false }, kinds := [], alts := [], laidByText := true, laidKinds := [.data, .data, .data], laidTests := true, laidLooks := .later }
def HealthTextsCardSaid : Prop := Claim7.holds Tryd.pinned (.plain (OpenSpec.ofChange healthTextsSpec)) healthTextsCard

/-- THE TIED CARD OF 'starlinglaw1.HealthForms'. -/
def healthFormsCard : Claim7 := { stood := { row := healthFormsRow, standIns := [], harness := (true, "fa1caaa5aae882aa82b38fe6978e625176d76555be57eb10475ab0ee2e325ab4"), looks := false }, kinds := [], alts := [], laidByText := true, laidKinds := [.data, .data, .data], laidTests := true, laidLooks := .later }
def HealthFormsCardSaid : Prop := Claim7.holds Tryd.pinned (.plain (OpenSpec.ofChange healthFormsSpec)) healthFormsCard

/-- THE TIED CARD OF 'starlinglaw1.HealthLouder'. -/
def healthLouderCard : Claim7 := { stood := { row := healthLouderRow, standIns := [], harness := (true, "fa1caaa5aae882aa82b38fe6978e625176d76555be57eb10475ab0ee2e325ab4"), looks := false }, kinds := [], alts := [], laidByText := true, laidKinds := [.data, .data, .data], laidTests := true, laidLooks := .later }
def HealthLouderCardSaid : Prop := Claim7.holds Tryd.pinned (.plain (OpenSpec.ofChange healthLouderSpec)) healthLouderCard

/-- THE SECOND FORM's CARD OF 'starlinglaw1.HealthOrder'. -/
def healthOrderUptoCard : Claim7 := { stood := { row := healthOrderUptoRow, standIns := [], harness := (true, "fa1caaa5aae882aa82b38fe6978e625176d76555be57eb10475ab0ee2e325ab4"), looks := false }, kinds := [], alts := [], laidByText := true, laidKinds := [.data, .data, .data], laidTests := true, laidLooks := .later }
def HealthOrderUptoCardSaid : Prop := Claim7.holds Tryd.pinned (.plain (OpenSpec.upto healthOrderSpec)) healthOrderUptoCard

/-- THE SECOND FORM's CARD OF 'starlinglaw1.HealthRefutes'. -/
def healthRefutesUptoCard : Claim7 := { stood := { row := healthRefutesUptoRow, standIns := [], harness := (true, "fa1caaa5aae882aa82b38fe6978e625176d76555be57eb10475ab0ee2e325ab4"), looks := false }, kinds := [], alts := [], laidByText := true, laidKinds := [.data, .data, .data], laidTests := true, laidLooks := .later }
def HealthRefutesUptoCardSaid : Prop := Claim7.holds Tryd.pinned (.plain (OpenSpec.upto healthRefutesSpec)) healthRefutesUptoCard

/-- THE SECOND FORM's CARD OF 'starlinglaw1.HealthLeft'. -/
def healthLeftUptoCard : Claim7 := { stood := { row := healthLeftUptoRow, standIns := [], harness := (true, "fa1caaa5aae882aa82b38fe6978e625176d76555be57eb10475ab0ee2e325ab4"), looks := false }, kinds := [], alts := [], laidByText := true, laidKinds := [.data, .data, .data], laidTests := true, laidLooks := .later }
def HealthLeftUptoCardSaid : Prop := Claim7.holds Tryd.pinned (.plain (OpenSpec.upto healthLeftSpec)) healthLeftUptoCard

/-- THE SECOND FORM's CARD OF 'starlinglaw1.HealthTexts'. -/
def healthTextsUptoCard : Claim7 := { stood := { row := healthTextsUptoRow, standIns := [], harness := (true, "fa1caaa5aae882aa82b38fe6978e625176d76555be57eb10475ab0ee2e325ab4"), looks := false }, kinds := [], alts := [], laidByText := true, laidKinds := [.data, .data, .data], laidTests := true, laidLooks := .later }
def HealthTextsUptoCardSaid : Prop := Claim7.holds Tryd.pinned (.plain (OpenSpec.upto healthTextsSpec)) healthTextsUptoCard

/-- THE SECOND FORM's CARD OF 'starlinglaw1.HealthForms'. -/
def healthFormsUptoCard : Claim7 := { stood := { row := healthFormsUptoRow, standIns := [], harness := (true, "fa1caaa5aae882aa82b38fe6978e625176d76555be57eb10475ab0ee2e325ab4"), looks := false }, kinds := [], alts := [], laidByText := true, laidKinds := [.data, .data, .data], laidTests := true, laidLooks := .later }
def HealthFormsUptoCardSaid : Prop := Claim7.holds Tryd.pinned (.plain (OpenSpec.upto healthFormsSpec)) healthFormsUptoCard

/-- THE SECOND FORM's CARD OF 'starlinglaw1.HealthLouder'. -/
def healthLouderUptoCard : Claim7 := { stood := { row := healthLouderUptoRow, standIns := [], harness := (true, "fa1caaa5aae882aa82b38fe6978e625176d76555be57eb10475ab0ee2e325ab4"), looks := false }, kinds := [], alts := [], laidByText := true, laidKinds := [.data, .data, .data], laidTests := true, laidLooks := .later }
def HealthLouderUptoCardSaid : Prop := Claim7.holds Tryd.pinned (.plain (OpenSpec.upto healthLouderSpec)) healthLouderUptoCard
end Rows
end Go.Proofs.YtmgglkmpkhdclaaDoor
