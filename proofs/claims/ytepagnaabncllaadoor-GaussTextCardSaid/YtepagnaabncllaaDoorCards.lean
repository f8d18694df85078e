/-
  DERIVED. GIVEN WITH THE SEED: THE CARDS: each row of YtepagnaabncllaaDoorRows.lean that lists a variable, with what it lists TIED to the program's text (the seventh form; the later family's looks); each row that meets fmt, with fmt's text TOLD by the authors' own Lean function (tested against real Go, not proved from fmt's source: count such statements apart). THE CARD IS WHAT COUNTS. Prove the row's statement (the work); the ties are given (YtepagnaabncllaaDoorTie.lean); close each card by the builder's one call (the guide's Derived/Test/ToyasCard.lean, 'card_holds'). Laid BY PROGRAM, IN A SANDBOX (cutbox-door.mjs). By AI agents, Wed Nov 11 2026. No macro, syntax, notation, axiom, sorry.
-/
import Derived.Test.YtepagnaabncllaaDoorRows
import GoSem.ClaimSeven
namespace Go.Proofs.YtepagnaabncllaaDoor
namespace Rows

/-- THE TIED CARD OF 'transhumancelaw04.GaussPow'. -/
def gaussPowCard : Claim7 := { stood := { row := gaussPowRow, standIns := [], harness := (true, "970de0d13100f6f8d4e3221d9a99438300140c56fe7b4ec6a1608bcf43e36e64"), looks := false }, kinds := [], alts := [], laidByText := true, laidKinds := [.data, .data, .data], laidTests := true, laidLooks := .later }
def GaussPowCardSaid : Prop := Claim7.holds Tryd.pinned (.plain (OpenSpec.ofChange gaussPowSpec)) gaussPowCard

/-- THE TIED CARD OF 'transhumancelaw04.GaussText'. -/
def gaussTextCard : Claim7 := { stood := { row := gaussTextRow, standIns := [], harness := (true, "970de0d13100f6f8d4e3221d9a99438300140c56fe7b4ec6a1608bcf43e36e64"), looks := false }, kinds := [], alts := [], laidByText := true, laidKinds := [.data, .data, .data], laidTests := true, laidLooks := .later }
def GaussTextCardSaid : Prop := Claim7.holds Tryd.pinned (.plain (OpenSpec.ofChange gaussTextSpec)) gaussTextCard

/-- THE TIED CARD OF 'transhumancelaw04.GaussTells'. -/
def gaussTellsCard : Claim7 := { stood := { row := gaussTellsRow, standIns := [], harness := (true, "970de0d13100f6f8d4e3221d9a99438300140c56fe7b4ec6a1608bcf43e36e64"), looks := false }, kinds := [], alts := [], laidByText := true, laidKinds := [.data, .data, .data], laidTests := true, laidLooks := .later }
def GaussTellsCardSaid : Prop := Claim7.holds Tryd.pinned (.plain (OpenSpec.ofChange gaussTellsSpec)) gaussTellsCard

/-- THE TIED CARD OF 'transhumancelaw04.GaussField'. -/
def gaussFieldCard : Claim7 := { stood := { row := gaussFieldRow, standIns := [], harness := (true, "970de0d13100f6f8d4e3221d9a99438300140c56fe7b4ec6a1608bcf43e36e64"), looks := false }, kinds := [], alts := [], laidByText := true, laidKinds := [.data, .data, .data], laidTests := true, laidLooks := .later }
def GaussFieldCardSaid : Prop := Claim7.holds Tryd.pinned (.plain (OpenSpec.ofChange gaussFieldSpec)) gaussFieldCard

/-- THE TIED CARD OF 'transhumancelaw04.GaussConj'. -/
def gaussConjCard : Claim7 := { stood := { row := gaussConjRow, standIns := [], harness := (true, "970de0d13100f6f8d4e3221d9a99438300140c56fe7b4ec6a1608bcf43e36e64"), looks := false }, kinds := [], alts := [], laidByText := true, laidKinds := [.data, .data, .data], laidTests := true, laidLooks := .later }
def GaussConjCardSaid : Prop := Claim7.holds Tryd.pinned (.plain (OpenSpec.ofChange gaussConjSpec)) gaussConjCard

/-- THE TIED CARD OF 'transhumancelaw04.GaussRest'. -/
def gaussRestCard : Claim7 := { stood := { row := gaussRestRow, standIns := [], harness := (true, "970de0d13100f6f8d4e3221d9a99438300140c56fe7b4ec6a1608bcf43e36e64"), looks := false }, kinds := [], alts := [], laidByText := true, laidKinds := [.data, .data, .data], laidTests := true, laidLooks := .later }
def GaussRestCardSaid : Prop := Claim7.holds Tryd.pinned (.plain (OpenSpec.ofChange gaussRestSpec)) gaussRestCard

/-- THE TIED CARD OF 'transhumancelaw04.GaussApart'. -/
def gaussApartCard : Claim7 := { stood := { row := gaussApartRow, standIns := [], harness := (true, "970de0d13100f6f8d4e3221d9a99438300140c56fe7b4ec6a1608bcf43e36e64"), looks := false }, kinds := [], alts := [], laidByText := true, laidKinds := [.data, .data, .data], laidTests := true, laidLooks := .later }
def GaussApartCardSaid : Prop := Claim7.holds Tryd.pinned (.plain (OpenSpec.ofChange gaussApartSpec)) gaussApartCard

/-- THE SECOND FORM's CARD OF 'transhumancelaw04.GaussPow'. -/
def gaussPowUptoCard : Claim7 := { stood := { row := gaussPowUptoRow, standIns := [], harness := (true, "970de0d13100f6f8d4e3221d9a99438300140c56fe7b4ec6a1608bcf43e36e64"), looks := false }, kinds := [], alts := [], laidByText := true, laidKinds := [.data, .data, .data], laidTests := true, laidLooks := .later }
def GaussPowUptoCardSaid : Prop := Claim7.holds Tryd.pinned (.plain (OpenSpec.upto gaussPowSpec)) gaussPowUptoCard

/-- THE SECOND FORM's CARD OF 'transhumancelaw04.GaussText'. -/
def gaussTextUptoCard : Claim7 := { stood := { row := gaussTextUptoRow, standIns := [], harness := (true, "970de0d13100f6f8d4e3221d9a99438300140c56fe7b4ec6a1608bcf43e36e64"), looks := false }, kinds := [], alts := [], laidByText := true, laidKinds := [.data, .data, .data], laidTests := true, laidLooks := .later }
def GaussTextUptoCardSaid : Prop := Claim7.holds Tryd.pinned (.plain (OpenSpec.upto gaussTextSpec)) gaussTextUptoCard

/-- THE SECOND FORM's CARD OF 'transhumancelaw04.GaussTells'. -/
def gaussTellsUptoCard : Claim7 := { stood := { row := gaussTellsUptoRow, standIns := [], harness := (true, "970de0d13100f6f8d4e3221d9a99438300140c56fe7b4ec6a1608bcf43e36e64"), looks := false }, kinds := [], alts := [], laidByText := true, laidKinds := [.data, .data, .data], laidTests := true, laidLooks := .later }
def GaussTellsUptoCardSaid : Prop := Claim7.holds Tryd.pinned (.plain (OpenSpec.upto gaussTellsSpec)) gaussTellsUptoCard

/-- THE SECOND FORM's CARD OF 'transhumancelaw04.GaussField'. -/
def gaussFieldUptoCard : Claim7 := { stood := { row := gaussFieldUptoRow, standIns := [], harness := (true, "970de0d13100f6f8d4e3221d9a99438300140c56fe7b4ec6a1608bcf43e36e64"), looks := false }, kinds := [], alts := [], laidByText := true, laidKinds := [.data, .data, .data], laidTests := true, laidLooks := .later }
def GaussFieldUptoCardSaid : Prop := Claim7.holds Tryd.pinned (.plain (OpenSpec.upto gaussFieldSpec)) gaussFieldUptoCard

/-- THE SECOND FORM's CARD OF 'transhumancelaw04.GaussConj'. -/
def gaussConjUptoCard : Claim7 := { stood := { row := gaussConjUptoRow, standIns := [], harness := (true, "970de0d13100f6f8d4e3221d9a99438300140c56fe7b4ec6a1608bcf43e36e64"), looks := false }, kinds := [], alts := [], laidByText := true, laidKinds := [.data, .data, .data], laidTests := true, laidLooks := .later }
def GaussConjUptoCardSaid : Prop := Claim7.holds Tryd.pinned (.plain (OpenSpec.upto gaussConjSpec)) gaussConjUptoCard

/-- THE SECOND FORM's CARD OF 'transhumancelaw04.GaussRest'. -/
def gaussRestUptoCard : Claim7 := { stood := { row := gaussRestUptoRow, standIns := [], harness := (true, "970de0d13100f6f8d4e3221d9a99438300140c56fe7b4ec6a1608bcf43e36e64"), looks := false }, kinds := [], alts := [], laidByText := true, laidKinds := [.data, .data, .data], laidTests := true, laidLooks := .later }
def GaussRestUptoCardSaid : Prop := Claim7.holds Tryd.pinned (.plain (OpenSpec.upto gaussRestSpec)) gaussRestUptoCard

/-- THE SECOND FORM's CARD OF 'transhumancelaw04.GaussApart'. -/
def gaussApartUptoCard : Claim7 := { stood := { row := gaussApartUptoRow, standIns := [], harness := (true, "970de0d13100f6f8d4e3221d9a99438300140c56fe7b4ec6a1608bcf43e36e64"), looks := false }, kinds := [], alts := [], laidByText := true, laidKinds := [.data, .data, .data], laidTests := true, laidLooks := .later }
def GaussApartUptoCardSaid : Prop := Claim7.holds Tryd.pinned (.plain (OpenSpec.upto gaussApartSpec)) gaussApartUptoCard
end Rows
end Go.Proofs.YtepagnaabncllaaDoor
