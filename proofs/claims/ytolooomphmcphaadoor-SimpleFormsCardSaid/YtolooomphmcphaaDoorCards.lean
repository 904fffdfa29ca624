/-
  DERIVED. GIVEN WITH THE SEED: THE CARDS: each row of YtolooomphmcphaaDoorRows.lean that lists a variable, with what it lists TIED to the program's text (the seventh form; the later family's looks); each row that meets fmt, with fmt's text TOLD by the authors' own Lean function (tested against real Go, not proved from fmt's source: count such statements apart). THE CARD IS WHAT COUNTS. Prove the row's statement (the work); the ties are given (YtolooomphmcphaaDoorTie.lean); close each card by the builder's one call (the guide's Derived/Test/ToyasCard.lean, 'card_holds'). Laid BY PROGRAM, IN A SANDBOX (cutbox-door.mjs). By AI agents, Wed Nov 11 2026. No macro, syntax, notation, axiom, sorry.
-/
import Derived.Test.YtolooomphmcphaaDoorRows
import GoSem.ClaimSeven
namespace Go.Proofs.YtolooomphmcphaaDoor
namespace Rows

/-- THE TIED CARD OF 'lfchecklaw07.SimpleForms'. -/
def simpleFormsCard : Claim7 := { stood := { row := simpleFormsRow, standIns := [], harness := (true, "7097e40ab9f3e71fd2a08b543cebdcdbb4c354cfb5184266a391c7664a1c49dd"), looks := true }, kinds := [], alts := [], laidByText := true, laidKinds := [.data], laidTests := true, laidLooks := .later }
def SimpleFormsCardSaid : Prop := Claim7.holds Tryd.pinned (.plain (OpenSpec.ofChange simpleFormsSpec)) simpleFormsCard

/-- THE TIED CARD OF 'lfchecklaw07.SimpleEta'. -/
def simpleEtaCard : Claim7 := { stood := { row := simpleEtaRow, standIns := [], harness := (true, "7097e40ab9f3e71fd2a08b543cebdcdbb4c354cfb5184266a391c7664a1c49dd"), looks := true }, kinds := [], alts := [], laidByText := true, laidKinds := [.data], laidTests := true, laidLooks := .later }
def SimpleEtaCardSaid : Prop := Claim7.holds Tryd.pinned (.plain (OpenSpec.ofChange simpleEtaSpec)) simpleEtaCard

/-- THE TIED CARD OF 'lfchecklaw07.SimpleTerms'. -/
def simpleTermsCard : Claim7 := { stood := { row := simpleTermsRow, standIns := [], harness := (true, "7097e40ab9f3e71fd2a08b543cebdcdbb4c354cfb5184266a391c7664a1c49dd"), looks := true }, kinds := [], alts := [], laidByText := true, laidKinds := [.data], laidTests := true, laidLooks := .later }
def SimpleTermsCardSaid : Prop := Claim7.holds Tryd.pinned (.plain (OpenSpec.ofChange simpleTermsSpec)) simpleTermsCard

/-- THE TIED CARD OF 'lfchecklaw08.SubstMany'. -/
def substManyCard : Claim7 := { stood := { row := substManyRow, standIns := [], harness := (true, "7097e40ab9f3e71fd2a08b543cebdcdbb4c354cfb5184266a391c7664a1c49dd"), looks := true }, kinds := [], alts := [], laidByText := true, laidKinds := [.data], laidTests := true, laidLooks := .later }
def SubstManyCardSaid : Prop := Claim7.holds Tryd.pinned (.plain (OpenSpec.ofChange substManySpec)) substManyCard

/-- THE SECOND FORM's CARD OF 'lfchecklaw07.SimpleForms'. -/
def simpleFormsUptoCard : Claim7 := { stood := { row := simpleFormsUptoRow, standIns := [], harness := (true, "7097e40ab9f3e71fd2a08b543cebdcdbb4c354cfb5184266a391c7664a1c49dd"), looks := true }, kinds := [], alts := [], laidByText := true, laidKinds := [.data], laidTests := true, laidLooks := .later }
def SimpleFormsUptoCardSaid : Prop := Claim7.holds Tryd.pinned (.plain (OpenSpec.upto simpleFormsSpec)) simpleFormsUptoCard

/-- THE SECOND FORM's CARD OF 'lfchecklaw07.SimpleEta'. -/
def simpleEtaUptoCard : Claim7 := { stood := { row := simpleEtaUptoRow, standIns := [], harness := (true, "7097e40ab9f3e71fd2a08b543cebdcdbb4c354cfb5184266a391c7664a1c49dd"), looks := true }, kinds := [], alts := [], laidByText := true, laidKinds := [.data], laidTests := true, laidLooks := .later }
def SimpleEtaUptoCardSaid : Prop := Claim7.holds Tryd.pinned (.plain (OpenSpec.upto simpleEtaSpec)) simpleEtaUptoCard

/-- THE SECOND FORM's CARD OF 'lfchecklaw07.SimpleTerms'. -/
def simpleTermsUptoCard : Claim7 := { stood := { row := simpleTermsUptoRow, standIns := [], harness := (true, "7097e40ab9f3e71fd2a08b543cebdcdbb4c354cfb5184266a391c7664a1c49dd"), looks := true }, kinds := [], alts := [], laidByText := true, laidKinds := [.data], laidTests := true, laidLooks := .later }
def SimpleTermsUptoCardSaid : Prop := Claim7.holds Tryd.pinned (.plain (OpenSpec.upto simpleTermsSpec)) simpleTermsUptoCard

/-- THE SECOND FORM's CARD OF 'lfchecklaw08.SubstMany'. -/
def substManyUptoCard : Claim7 := { stood := { row := substManyUptoRow, standIns := [], harness := (true, "7097e40ab9f3e71fd2a08b543cebdcdbb4c354cfb5184266a391c7664a1c49dd"), looks := true }, kinds := [], alts := [], laidByText := true, laidKinds := [.data], laidTests := true, laidLooks := .later }
def SubstManyUptoCardSaid : Prop := Claim7.holds Tryd.pinned (.plain (OpenSpec.upto substManySpec)) substManyUptoCard
end Rows
end Go.Proofs.YtolooomphmcphaaDoor
