/-
  DERIVED. GIVEN WITH THE SEED: THE CARDS: each row of YtlanhogdeiiecaaDoorRows.lean that lists a variable, with what it lists TIED to the program's text (the seventh form; the later family's looks); each row that meets fmt, with fmt's text TOLD by the authors' own Lean function (tested against real Go, not proved from fmt's source: count such statements apart). THE CARD IS WHAT COUNTS. Prove the row's statement (the work); the ties are given (YtlanhogdeiiecaaDoorTie.lean); close each card by the builder's one call (the guide's Derived/Test/ToyasCard.lean, 'card_holds'). Laid BY PROGRAM, IN A SANDBOX (cutbox-door.mjs). By AI agents, Wed Nov 11 2026. No macro, syntax, notation, axiom, sorry.
-/
import Derived.Test.YtlanhogdeiiecaaDoorRows
import GoSem.ClaimSeven
namespace Go.Proofs.YtlanhogdeiiecaaDoor
namespace Rows

/-- THE TIED CARD OF 'sluicegatelaw16.ModelDoes'. -/
def modelDoesCard : Claim7 := { stood := { row := modelDoesRow, standIns := [], harness := (true, "2cefe6d09119607abfe5cfff860bee4d30d7b53d56c22658d1f12a51c6d1870c"), looks := true }, kinds := [], alts := [], laidByText := true, laidKinds := [.data, .data, .data], laidTests := true, laidLooks := .later }
def ModelDoesCardSaid : Prop := Claim7.holds Tryd.pinned (.plain (OpenSpec.ofChange modelDoesSpec)) modelDoesCard

/-- THE TIED CARD OF 'sluicegatelaw16.ModelOnce'. -/
def modelOnceCard : Claim7 := { stood := { row := modelOnceRow, standIns := [], harness := (true, "2cefe6d09119607abfe5cfff860bee4d30d7b53d56c22658d1f12a51c6d1870c"), looks := true }, kinds := [], alts := [], laidByText := true, laidKinds := [.data, .data, .data], laidTests := true, laidLooks := .later }
def ModelOnceCardSaid : Prop := Claim7.holds Tryd.pinned (.plain (OpenSpec.ofChange modelOnceSpec)) modelOnceCard

/-- THE TIED CARD OF 'sluicegatelaw16.ModelKeeps'. -/
def modelKeepsCard : Claim7 := { stood := { row := modelKeepsRow, standIns := [], harness := (true, "2cefe6d09119607abfe5cfff860bee4d30d7b53d56c22658d1f12a51c6d1870c"), looks := true }, kinds := [], alts := [], laidByText := true, laidKinds := [.data, .data, .data], laidTests := true, laidLooks := .later }
def ModelKeepsCardSaid : Prop := Claim7.holds Tryd.pinned (.plain (OpenSpec.ofChange modelKeepsSpec)) modelKeepsCard

/-- THE TIED CARD OF 'sluicegatelaw16.ModelSilent'. -/
def modelSilentCard : Claim7 := { stood := { row := modelSilentRow, standIns := [], harness := (true, "2cefe6d09119607abfe5cfff860bee4d30d7b53d56c22658d1f12a51c6d1870c"), looks := true }, kinds := [], alts := [], laidByText := true, laidKinds := [.data, .data, .data], laidTests := true, laidLooks := .later }
def ModelSilentCardSaid : Prop := Claim7.holds Tryd.pinned (.plain (OpenSpec.ofChange modelSilentSpec)) modelSilentCard

/-- THE TIED CARD OF 'sluicegatelaw16.ModelOrder'. -/
def modelOrderCard : Claim7 := { stood := { row := modelOrderRow, standIns := [], harness := (true, "2cefe6d09119607abfe5cfff860bee4d30d7b53d56c22658d1f12a51c6d1870c"), looks := true }, kinds := [], alts := [], laidByText := true, laidKinds := [.data, .data, .data], laidTests := true, laidLooks := .later }
def ModelOrderCardSaid : Prop := Claim7.holds Tryd.pinned (.plain (OpenSpec.ofChange modelOrderSpec)) modelOrderCard

/-- THE SECOND FORM's CARD OF 'sluicegatelaw16.ModelDoes'. -/
def modelDoesUptoCard : Claim7 := { stood := { row := modelDoesUptoRow, standIns := [], harness := (true, "2cefe6d09119607abfe5cfff860bee4d30d7b53d56c22658d1f12a51c6d1870c"), looks := true }, kinds := [], alts := [], laidByText := true, laidKinds := [.data, .data, .data], laidTests := true, laidLooks := .later }
def ModelDoesUptoCardSaid : Prop := Claim7.holds Tryd.pinned (.plain (OpenSpec.upto modelDoesSpec)) modelDoesUptoCard

/-- THE SECOND FORM's CARD OF 'sluicegatelaw16.ModelOnce'. -/
def modelOnceUptoCard : Claim7 := { stood := { row := modelOnceUptoRow, standIns := [], harness := (true, "2cefe6d09119607abfe5cfff860bee4d30d7b53d56c22658d1f12a51c6d1870c"), looks := true }, kinds := [], alts := [], laidByText := true, laidKinds := [.data, .data, .data], laidTests := true, laidLooks := .later }
def ModelOnceUptoCardSaid : Prop := Claim7.holds Tryd.pinned (.plain (OpenSpec.upto modelOnceSpec)) modelOnceUptoCard

/-- THE SECOND FORM's CARD OF 'sluicegatelaw16.ModelKeeps'. -/
def modelKeepsUptoCard : Claim7 := { stood := { row := modelKeepsUptoRow, standIns := [], harness := (true, "2cefe6d09119607abfe5cfff860bee4d30d7b53d56c22658d1f12a51c6d1870c"), looks := true }, kinds := [], alts := [], laidByText := true, laidKinds := [.data, .data, .data], laidTests := true, laidLooks := .later }
def ModelKeepsUptoCardSaid : Prop := Claim7.holds Tryd.pinned (.plain (OpenSpec.upto modelKeepsSpec)) modelKeepsUptoCard

/-- THE SECOND FORM's CARD OF 'sluicegatelaw16.ModelSilent'. -/
def modelSilentUptoCard : Claim7 := { stood := { row := modelSilentUptoRow, standIns := [], harness := (true, "2cefe6d09119607abfe5cfff860bee4d30d7b53d56c22658d1f12a51c6d1870c"), looks := true }, kinds := [], alts := [], laidByText := true, laidKinds := [.data, .data, .data], laidTests := true, laidLooks := .later }
def ModelSilentUptoCardSaid : Prop := Claim7.holds Tryd.pinned (.plain (OpenSpec.upto modelSilentSpec)) modelSilentUptoCard

/-- THE SECOND FORM's CARD OF 'sluicegatelaw16.ModelOrder'. -/
def modelOrderUptoCard : Claim7 := { stood := { row := modelOrderUptoRow, standIns := [], harness := (true, "2cefe6d09119607abfe5cfff860bee4d30d7b53d56c22658d1f12a51c6d1870c"), looks := true }, kinds := [], alts := [], laidByText := true, laidKinds := [.data, .data, .data], laidTests := true, laidLooks := .later }
def ModelOrderUptoCardSaid : Prop := Claim7.holds Tryd.pinned (.plain (OpenSpec.upto modelOrderSpec)) modelOrderUptoCard
end Rows
end Go.Proofs.YtlanhogdeiiecaaDoor
