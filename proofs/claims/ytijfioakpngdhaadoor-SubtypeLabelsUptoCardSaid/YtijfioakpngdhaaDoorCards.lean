/-
  DERIVED. GIVEN WITH THE SEED: THE CARDS: each row of YtijfioakpngdhaaDoorRows.lean that lists a variable, with what it lists TIED to the program's text (the seventh form; the later family's looks); each row that meets fmt, with fmt's text TOLD by the authors' own Lean function (tested against real Go, not proved from fmt's source: count such statements apart). THE CARD IS WHAT COUNTS. Prove the row's statement (the work); the ties are given (YtijfioakpngdhaaDoorTie.lean); close each card by the builder's one call (the guide's Derived/Test/ToyasCard.lean, 'card_holds'). Laid BY PROGRAM, IN A SANDBOX (cutbox-door.mjs). By AI agents, Wed Nov 11 2026. No macro, syntax, notation, axiom, sorry.
-/
import Derived.Test.YtijfioakpngdhaaDoorRows
import GoSem.ClaimSeven
namespace Go.Proofs.YtijfioakpngdhaaDoor
namespace Rows

/-- THE TIED CARD OF 'duologuelaw09.DualMatchesReference'. -/
def dualMatchesReferenceCard : Claim7 := { stood := { row := dualMatchesReferenceRow, standIns := [], harness := (true, "c0c8f29d0ecc6384addef33ea28e7eb1faa4b6c1476ddb394b0a4e96437de8d0"), looks := false }, kinds := [], alts := [], laidByText := true, laidKinds := [.data], laidTests := true, laidLooks := .later }
def DualMatchesReferenceCardSaid : Prop := Claim7.holds Tryd.pinned (.plain (OpenSpec.ofChange dualMatchesReferenceSpec)) dualMatchesReferenceCard

/-- THE TIED CARD OF 'duologuelaw09.DualInvolution'. -/
def dualInvolutionCard : Claim7 := { stood := { row := dualInvolutionRow, standIns := [], harness := (true, "c0c8f29d0ecc6384addef33ea28e7eb1faa4b6c1476ddb394b0a4e96437de8d0"), looks := false }, kinds := [], alts := [], laidByText := true, laidKinds := [.data], laidTests := true, laidLooks := .later }
def DualInvolutionCardSaid : Prop := Claim7.holds Tryd.pinned (.plain (OpenSpec.ofChange dualInvolutionSpec)) dualInvolutionCard

/-- THE TIED CARD OF 'duologuelaw09.DualPaths'. -/
def dualPathsCard : Claim7 := { stood := { row := dualPathsRow, standIns := [], harness := (true, "c0c8f29d0ecc6384addef33ea28e7eb1faa4b6c1476ddb394b0a4e96437de8d0"), looks := false }, kinds := [], alts := [], laidByText := true, laidKinds := [.data], laidTests := true, laidLooks := .later }
def DualPathsCardSaid : Prop := Claim7.holds Tryd.pinned (.plain (OpenSpec.ofChange dualPathsSpec)) dualPathsCard

/-- THE TIED CARD OF 'duologuelaw11.SubtypeDuals'. -/
def subtypeDualsCard : Claim7 := { stood := { row := subtypeDualsRow, standIns := [], harness := (true, "c0c8f29d0ecc6384addef33ea28e7eb1faa4b6c1476ddb394b0a4e96437de8d0"), looks := false }, kinds := [], alts := [], laidByText := true, laidKinds := [.data], laidTests := true, laidLooks := .later }
def SubtypeDualsCardSaid : Prop := Claim7.holds Tryd.pinned (.plain (OpenSpec.ofChange subtypeDualsSpec)) subtypeDualsCard

/-- THE TIED CARD OF 'duologuelaw11.SubtypeFits'. -/
def subtypeFitsCard : Claim7 := { stood := { row := subtypeFitsRow, standIns := [], harness := (true, "c0c8f29d0ecc6384addef33ea28e7eb1faa4b6c1476ddb394b0a4e96437de8d0"), looks := false }, kinds := [], alts := [], laidByText := true, laidKinds := [.data], laidTests := true, laidLooks := .later }
def SubtypeFitsCardSaid : Prop := Claim7.holds Tryd.pinned (.plain (OpenSpec.ofChange subtypeFitsSpec)) subtypeFitsCard

/-- THE TIED CARD OF 'duologuelaw11.SubtypeLabels'. -/
def subtypeLabelsCard : Claim7 := { stood := { row := subtypeLabelsRow, standIns := [], harness := (true, "c0c8f29d0ecc6384addef33ea28e7eb1faa4b6c1476ddb394b0a4e96437de8d0"), looks := false }, kinds := [], alts := [], laidByText := true, laidKinds := [.data], laidTests := true, laidLooks := .later }
def SubtypeLabelsCardSaid : Prop := Claim7.holds Tryd.pinned (.plain (OpenSpec.ofChange subtypeLabelsSpec)) subtypeLabelsCard

/-- THE TIED CARD OF 'duologuelaw11.SubtypeOrders'. -/
def subtypeOrdersCard : Claim7 := { stood := { row := subtypeOrdersRow, standIns := [], harness := (true, "c0c8f29d0ecc6384addef33ea28e7eb1faa4b6c1476ddb394b0a4e96437de8d0"), looks := false }, kinds := [], alts := [], laidByText := true, laidKinds := [.data], laidTests := true, laidLooks := .later }
def SubtypeOrdersCardSaid : Prop := Claim7.holds Tryd.pinned (.plain (OpenSpec.ofChange subtypeOrdersSpec)) subtypeOrdersCard

/-- THE SECOND FORM's CARD OF 'duologuelaw09.DualMatchesReference'. -/
def dualMatchesReferenceUptoCard : Claim7 := { stood := { row := dualMatchesReferenceUptoRow, standIns := [], harness := (true, "c0c8f29d0ecc6384addef33ea28e7eb1faa4b6c1476ddb394b0a4e96437de8d0"), looks := false }, kinds := [], alts := [], laidByText := true, laidKinds := [.data], laidTests := true, laidLooks := .later }
def DualMatchesReferenceUptoCardSaid : Prop := Claim7.holds Tryd.pinned (.plain (OpenSpec.upto dualMatchesReferenceSpec)) dualMatchesReferenceUptoCard

/-- THE SECOND FORM's CARD OF 'duologuelaw09.DualInvolution'. -/
def dualInvolutionUptoCard : Claim7 := { stood := { row := dualInvolutionUptoRow, standIns := [], harness := (true, "c0c8f29d0ecc6384addef33ea28e7eb1faa4b6c1476ddb394b0a4e96437de8d0"), looks := false }, kinds := [], alts := [], laidByText := true, laidKinds := [.data], laidTests := true, laidLooks := .later }
def DualInvolutionUptoCardSaid : Prop := Claim7.holds Tryd.pinned (.plain (OpenSpec.upto dualInvolutionSpec)) dualInvolutionUptoCard

/-- THE SECOND FORM's CARD OF 'duologuelaw09.DualPaths'. -/
def dualPathsUptoCard : Claim7 := { stood := { row := dualPathsUptoRow, standIns := [], harness := (true, "c0c8f29d0ecc6384addef33ea28e7eb1faa4b6c1476ddb394b0a4e96437de8d0"), looks := false }, kinds := [], alts := [], laidByText := true, laidKinds := [.data], laidTests := true, laidLooks := .later }
def DualPathsUptoCardSaid : Prop := Claim7.holds Tryd.pinned (.plain (OpenSpec.upto dualPathsSpec)) dualPathsUptoCard

/-- THE SECOND FORM's CARD OF 'duologuelaw11.SubtypeDuals'. -/
def subtypeDualsUptoCard : Claim7 := { stood := { row := subtypeDualsUptoRow, standIns := [], harness := (true, "c0c8f29d0ecc6384addef33ea28e7eb1faa4b6c1476ddb394b0a4e96437de8d0"), looks := false }, kinds := [], alts := [], laidByText := true, laidKinds := [.data], laidTests := true, laidLooks := .later }
def SubtypeDualsUptoCardSaid : Prop := Claim7.holds Tryd.pinned (.plain (OpenSpec.upto subtypeDualsSpec)) subtypeDualsUptoCard

/-- THE SECOND FORM's CARD OF 'duologuelaw11.SubtypeFits'. -/
def subtypeFitsUptoCard : Claim7 := { stood := { row := subtypeFitsUptoRow, standIns := [], harness := (true, "c0c8f29d0ecc6384addef33ea28e7eb1faa4b6c1476ddb394b0a4e96437de8d0"), looks := false }, kinds := [], alts := [], laidByText := true, laidKinds := [.data], laidTests := true, laidLooks := .later }
def SubtypeFitsUptoCardSaid : Prop := Claim7.holds Tryd.pinned (.plain (OpenSpec.upto subtypeFitsSpec)) subtypeFitsUptoCard

/-- THE SECOND FORM's CARD OF 'duologuelaw11.SubtypeLabels'. -/
def subtypeLabelsUptoCard : Claim7 := { stood := { row := subtypeLabelsUptoRow, standIns := [], harness := (true, "c0c8f29d0ecc6384addef33ea28e7eb1faa4b6c1476ddb394b0a4e96437de8d0"), looks := false }, kinds := [], alts := [], laidByText := true, laidKinds := [.data], laidTests := true, laidLooks := .later }
def SubtypeLabelsUptoCardSaid : Prop := Claim7.holds Tryd.pinned (.plain (OpenSpec.upto subtypeLabelsSpec)) subtypeLabelsUptoCard

/-- THE SECOND FORM's CARD OF 'duologuelaw11.SubtypeOrders'. -/
def subtypeOrdersUptoCard : Claim7 := { stood := { row := subtypeOrdersUptoRow, standIns := [], harness := (true, "c0c8f29d0ecc6384addef33ea28e7eb1faa4b6c1476ddb394b0a4e96437de8d0"), looks := false }, kinds := [], alts := [], laidByText := true, laidKinds := [.data], laidTests := true, laidLooks := .later }
def SubtypeOrdersUptoCardSaid : Prop := Claim7.holds Tryd.pinned (.plain (OpenSpec.upto subtypeOrdersSpec)) subtypeOrdersUptoCard
end Rows
end Go.Proofs.YtijfioakpngdhaaDoor
