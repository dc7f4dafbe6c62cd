/-
  DERIVED. GIVEN WITH THE SEED: THE CARDS: each row of YtbjkljmhhpoooaaDoorRows.lean that lists a variable, with what it lists TIED to the program's text (the seventh form; the later family's looks); each row that meets fmt, with fmt's text TOLD by the authors' own Lean function (tested against real Go, not proved from fmt's source: count such statements apart). THE CARD IS WHAT COUNTS. Prove the row's statement (the work); the ties are given (YtbjkljmhhpoooaaDoorTie.lean); close each card by the builder's one call (the guide's Derived/Test/ToyasCard.lean, 'card_holds'). Laid BY PROGRAM, IN A SANDBOX (cutbox-door.mjs). By AI agents, Wed Nov 11 2026. No macro, syntax, notation, axiom, sorry.
-/
import Derived.Test.YtbjkljmhhpoooaaDoorRows
import GoSem.ClaimSeven
namespace Go.Proofs.YtbjkljmhhpoooaaDoor
namespace Rows

/-- THE TIED CARD OF 'jotterlaw15.ScriptLines'. -/
def scriptLinesCard : Claim7 := { stood := { row := scriptLinesRow, standIns := [], harness := (true, "f09d633bfc25f9f0483ebbf055f8444702971f34ab13a55b3fb3c40b01e8a030"), looks := true }, kinds := [], alts := [], goes := true, laidByText := true, laidKinds := [.data, .data, .data, .widerDeep, .pinned], laidTests := true, laidLooks := .later }
def ScriptLinesCardSaid : Prop := Claim7.holds Tryd.pinned (.plain (OpenSpec.ofChange scriptLinesSpec)) scriptLinesCard

/-- THE TIED CARD OF 'jotterlaw15.ScriptRound'. -/
def scriptRoundCard : Claim7 := { stood := { row := scriptRoundRow, standIns := [], harness := (true, "f09d633bfc25f9f0483ebbf055f8444702971f34ab13a55b3fb3c40b01e8a030"), looks := true }, kinds := [], alts := [], goes := true, laidByText := true, laidKinds := [.data, .data, .data, .data, .data, .data, .widerDeep, .pinned], laidTests := true, laidLooks := .later }
def ScriptRoundCardSaid : Prop := Claim7.holds Tryd.pinned (.plain (OpenSpec.ofChange scriptRoundSpec)) scriptRoundCard

/-- THE TIED CARD OF 'jotterlaw15.ScriptApart'. -/
def scriptApartCard : Claim7 := { stood := { row := scriptApartRow, standIns := [], harness := (true, "f09d633bfc25f9f0483ebbf055f8444702971f34ab13a55b3fb3c40b01e8a030"), looks := true }, kinds := [], alts := [], goes := true, laidByText := true, laidKinds := [.data, .data, .data, .data, .data, .data, .widerDeep, .pinned], laidTests := true, laidLooks := .later }
def ScriptApartCardSaid : Prop := Claim7.holds Tryd.pinned (.plain (OpenSpec.ofChange scriptApartSpec)) scriptApartCard

/-- THE TIED CARD OF 'jotterlaw15.ScriptRefused'. -/
def scriptRefusedCard : Claim7 := { stood := { row := scriptRefusedRow, standIns := [], harness := (true, "f09d633bfc25f9f0483ebbf055f8444702971f34ab13a55b3fb3c40b01e8a030"), looks := true }, kinds := [], alts := [], goes := true, laidByText := true, laidKinds := [.data, .data, .data, .data, .data, .data, .widerDeep, .pinned], laidTests := true, laidLooks := .later }
def ScriptRefusedCardSaid : Prop := Claim7.holds Tryd.pinned (.plain (OpenSpec.ofChange scriptRefusedSpec)) scriptRefusedCard

/-- THE TIED CARD OF 'jotterlaw15.ScriptOne'. -/
def scriptOneCard : Claim7 := { stood := { row := scriptOneRow, standIns := [], harness := (true, "f09d633bfc25f9f0483ebbf055f8444702971f34ab13a55b3fb3c40b01e8a030"), looks := true }, kinds := [], alts := [], goes := true, laidByText := true, laidKinds := [.data, .data, .data, .data, .handle, .data, .data, .widerDeep, .pinned], laidTests := true, laidLooks := .later }
def ScriptOneCardSaid : Prop := Claim7.holds Tryd.pinned (.plain (OpenSpec.ofChange scriptOneSpec)) scriptOneCard

/-- THE TIED CARD OF 'jotterlaw15.ScriptMany'. -/
def scriptManyCard : Claim7 := { stood := { row := scriptManyRow, standIns := [], harness := (true, "f09d633bfc25f9f0483ebbf055f8444702971f34ab13a55b3fb3c40b01e8a030"), looks := true }, kinds := [], alts := [], goes := true, laidByText := true, laidKinds := [.data, .data, .data, .data, .handle, .data, .data, .widerDeep, .pinned], laidTests := true, laidLooks := .later }
def ScriptManyCardSaid : Prop := Claim7.holds Tryd.pinned (.plain (OpenSpec.ofChange scriptManySpec)) scriptManyCard

/-- THE SECOND FORM's CARD OF 'jotterlaw15.ScriptLines'. -/
def scriptLinesUptoCard : Claim7 := { stood := { row := scriptLinesUptoRow, standIns := [], harness := (true, "f09d633bfc25f9f0483ebbf055f8444702971f34ab13a55b3fb3c40b01e8a030"), looks := true }, kinds := [], alts := [], goes := true, laidByText := true, laidKinds := [.data, .data, .data, .widerDeep, .pinned], laidTests := true, laidLooks := .later }
def ScriptLinesUptoCardSaid : Prop := Claim7.holds Tryd.pinned (.plain (OpenSpec.upto scriptLinesSpec)) scriptLinesUptoCard

/-- THE SECOND FORM's CARD OF 'jotterlaw15.ScriptRound'. -/
def scriptRoundUptoCard : Claim7 := { stood := { row := scriptRoundUptoRow, standIns := [], harness := (true, "f09d633bfc25f9f0483ebbf055f8444702971f34ab13a55b3fb3c40b01e8a030"), looks := true }, kinds := [], alts := [], goes := true, laidByText := true, laidKinds := [.data, .data, .data, .data, .data, .data, .widerDeep, .pinned], laidTests := true, laidLooks := .later }
def ScriptRoundUptoCardSaid : Prop := Claim7.holds Tryd.pinned (.plain (OpenSpec.upto scriptRoundSpec)) scriptRoundUptoCard

/-- THE SECOND FORM's CARD OF 'jotterlaw15.ScriptApart'. -/
def scriptApartUptoCard : Claim7 := { stood := { row := scriptApartUptoRow, standIns := [], harness := (true, "f09d633bfc25f9f0483ebbf055f8444702971f34ab13a55b3fb3c40b01e8a030"), looks := true }, kinds := [], alts := [], goes := true, laidByText := true, laidKinds := [.data, .data, .data, .data, .data, .data, .widerDeep, .pinned], laidTests := true, laidLooks := .later }
def ScriptApartUptoCardSaid : Prop := Claim7.holds Tryd.pinned (.plain (OpenSpec.upto scriptApartSpec)) scriptApartUptoCard

/-- THE SECOND FORM's CARD OF 'jotterlaw15.ScriptRefused'. -/
def scriptRefusedUptoCard : Claim7 := { stood := { row := scriptRefusedUptoRow, standIns := [], harness := (true, "f09d633bfc25f9f0483ebbf055f8444702971f34ab13a55b3fb3c40b01e8a030"), looks := true }, kinds := [], alts := [], goes := true, laidByText := true, laidKinds := [.data, .data, .data, .data, .data, .data, .widerDeep, .pinned], laidTests := true, laidLooks := .later }
def ScriptRefusedUptoCardSaid : Prop := Claim7.holds Tryd.pinned (.plain (OpenSpec.upto scriptRefusedSpec)) scriptRefusedUptoCard

/-- THE SECOND FORM's CARD OF 'jotterlaw15.ScriptOne'. -/
def scriptOneUptoCard : Claim7 := { stood := { row := scriptOneUptoRow, standIns := [], harness := (true, "f09d633bfc25f9f0483ebbf055f8444702971f34ab13a55b3fb3c40b01e8a030"), looks := true }, kinds := [], alts := [], goes := true, laidByText := true, laidKinds := [.data, .data, .data, .data, .handle, .data, .data, .widerDeep, .pinned], laidTests := true, laidLooks := .later }
def ScriptOneUptoCardSaid : Prop := Claim7.holds Tryd.pinned (.plain (OpenSpec.upto scriptOneSpec)) scriptOneUptoCard

/-- THE SECOND FORM's CARD OF 'jotterlaw15.ScriptMany'. -/
def scriptManyUptoCard : Claim7 := { stood := { row := scriptManyUptoRow, standIns := [], harness := (true, "f09d633bfc25f9f0483ebbf055f8444702971f34ab13a55b3fb3c40b01e8a030"), looks := true }, kinds := [], alts := [], goes := true, laidByText := true, laidKinds := [.data, .data, .data, .data, .handle, .data, .data, .widerDeep, .pinned], laidTests := true, laidLooks := .later }
def ScriptManyUptoCardSaid : Prop := Claim7.holds Tryd.pinned (.plain (OpenSpec.upto scriptManySpec)) scriptManyUptoCard
end Rows
end Go.Proofs.YtbjkljmhhpoooaaDoor
