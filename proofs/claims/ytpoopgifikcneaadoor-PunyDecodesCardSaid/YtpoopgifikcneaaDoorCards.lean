/-
  DERIVED. GIVEN WITH THE SEED: THE CARDS: each row of YtpoopgifikcneaaDoorRows.lean that lists a variable, with what it lists TIED to the program's text (the seventh form; the later family's looks); each row that meets fmt, with fmt's text TOLD by the authors' own Lean function (tested against real Go, not proved from fmt's source: count such statements apart). THE CARD IS WHAT COUNTS. Prove the row's statement (the work); the ties are given (YtpoopgifikcneaaDoorTie.lean); close each card by the builder's one call (the guide's Derived/Test/ToyasCard.lean, 'card_holds'). Laid BY PROGRAM, IN A SANDBOX (cutbox-door.mjs). By AI agents, Wed Nov 11 2026. No macro, syntax, notation, axiom, sorry.
-/
import Derived.Test.YtpoopgifikcneaaDoorRows
import GoSem.ClaimSeven
namespace Go.Proofs.YtpoopgifikcneaaDoor
namespace Rows

/-- THE TIED CARD OF 'gatepostlaw20.TableActs'. -/
def tableActsCard : Claim7 := { stood := { row := tableActsRow, standIns := [], harness := (true, "43f6baff36b7ab3ea3d21eaa391533b88afce1024f18aecf4a8e5d47069c717f"), looks := true }, kinds := [], alts := [], laidByText := true, laidKinds := [.handle], laidTests := true, laidLooks := .later }
def TableActsCardSaid : Prop := Claim7.holds Tryd.pinned (.plain (OpenSpec.ofChange tableActsSpec)) tableActsCard

/-- THE TIED CARD OF 'gatepostlaw20.TableOnce'. -/
def tableOnceCard : Claim7 := { stood := { row := tableOnceRow, standIns := [], harness := (true, "43f6baff36b7ab3ea3d21eaa391533b88afce1024f18aecf4a8e5d47069c717f"), looks := true }, kinds := [], alts := [], laidByText := true, laidKinds := [.handle], laidTests := true, laidLooks := .later }
def TableOnceCardSaid : Prop := Claim7.holds Tryd.pinned (.plain (OpenSpec.ofChange tableOnceSpec)) tableOnceCard

/-- THE TIED CARD OF 'gatepostlaw12.RecordTexts'. -/
def recordTextsCard : Claim7 := { stood := { row := recordTextsRow, standIns := [], harness := (true, "43f6baff36b7ab3ea3d21eaa391533b88afce1024f18aecf4a8e5d47069c717f"), looks := true }, kinds := [], alts := [], laidByText := true, laidKinds := [.data, .data, .data], laidTests := true, laidLooks := .later }
def RecordTextsCardSaid : Prop := Claim7.holds Tryd.pinned (.plain (OpenSpec.ofChange recordTextsSpec)) recordTextsCard

/-- THE TIED CARD OF 'gatepostlaw12.RecordSame'. -/
def recordSameCard : Claim7 := { stood := { row := recordSameRow, standIns := [], harness := (true, "43f6baff36b7ab3ea3d21eaa391533b88afce1024f18aecf4a8e5d47069c717f"), looks := true }, kinds := [], alts := [], laidByText := true, laidKinds := [.data, .data, .data], laidTests := true, laidLooks := .later }
def RecordSameCardSaid : Prop := Claim7.holds Tryd.pinned (.plain (OpenSpec.ofChange recordSameSpec)) recordSameCard

/-- THE TIED CARD OF 'gatepostlaw12.RecordOne'. -/
def recordOneCard : Claim7 := { stood := { row := recordOneRow, standIns := [], harness := (true, "43f6baff36b7ab3ea3d21eaa391533b88afce1024f18aecf4a8e5d47069c717f"), looks := true }, kinds := [], alts := [], laidByText := true, laidKinds := [.data, .data, .data], laidTests := true, laidLooks := .later }
def RecordOneCardSaid : Prop := Claim7.holds Tryd.pinned (.plain (OpenSpec.ofChange recordOneSpec)) recordOneCard

/-- THE TIED CARD OF 'gatepostlaw12.RecordBare'. -/
def recordBareCard : Claim7 := { stood := { row := recordBareRow, standIns := [], harness := (true, "43f6baff36b7ab3ea3d21eaa391533b88afce1024f18aecf4a8e5d47069c717f"), looks := true }, kinds := [], alts := [], laidByText := true, laidKinds := [.data, .data, .data], laidTests := true, laidLooks := .later }
def RecordBareCardSaid : Prop := Claim7.holds Tryd.pinned (.plain (OpenSpec.ofChange recordBareSpec)) recordBareCard

/-- THE TIED CARD OF 'gatepostlaw12.RecordNew'. -/
def recordNewCard : Claim7 := { stood := { row := recordNewRow, standIns := [], harness := (true, "43f6baff36b7ab3ea3d21eaa391533b88afce1024f18aecf4a8e5d47069c717f"), looks := true }, kinds := [], alts := [], laidByText := true, laidKinds := [.data, .data, .data], laidTests := true, laidLooks := .later }
def RecordNewCardSaid : Prop := Claim7.holds Tryd.pinned (.plain (OpenSpec.ofChange recordNewSpec)) recordNewCard

/-- THE TIED CARD OF 'gatepostlaw04.PunyEncodes'. -/
def punyEncodesCard : Claim7 := { stood := { row := punyEncodesRow, standIns := [], harness := (true, "43f6baff36b7ab3ea3d21eaa391533b88afce1024f18aecf4a8e5d47069c717f"), looks := true }, kinds := [], alts := [], laidByText := true, laidKinds := [.handle], laidTests := true, laidLooks := .later }
def PunyEncodesCardSaid : Prop := Claim7.holds Tryd.pinned (.plain (OpenSpec.ofChange punyEncodesSpec)) punyEncodesCard

/-- THE TIED CARD OF 'gatepostlaw04.PunyDecodes'. -/
def punyDecodesCard : Claim7 := { stood := { row := punyDecodesRow, standIns := [], harness := (true, "43f6baff36b7ab3ea3d21eaa391533b88afce1024f18aecf4a8e5d47069c717f"), looks := true }, kinds := [], alts := [], laidByText := true, laidKinds := [.handle], laidTests := true, laidLooks := .later }
def PunyDecodesCardSaid : Prop := Claim7.holds Tryd.pinned (.plain (OpenSpec.ofChange punyDecodesSpec)) punyDecodesCard

/-- THE SECOND FORM's CARD OF 'gatepostlaw20.TableActs'. -/
def tableActsUptoCard : Claim7 := { stood := { row := tableActsUptoRow, standIns := [], harness := (true, "43f6baff36b7ab3ea3d21eaa391533b88afce1024f18aecf4a8e5d47069c717f"), looks := true }, kinds := [], alts := [], laidByText := true, laidKinds := [.handle], laidTests := true, laidLooks := .later }
def TableActsUptoCardSaid : Prop := Claim7.holds Tryd.pinned (.plain (OpenSpec.upto tableActsSpec)) tableActsUptoCard

/-- THE SECOND FORM's CARD OF 'gatepostlaw20.TableOnce'. -/
def tableOnceUptoCard : Claim7 := { stood := { row := tableOnceUptoRow, standIns := [], harness := (true, "43f6baff36b7ab3ea3d21eaa391533b88afce1024f18aecf4a8e5d47069c717f"), looks := true }, kinds := [], alts := [], laidByText := true, laidKinds := [.handle], laidTests := true, laidLooks := .later }
def TableOnceUptoCardSaid : Prop := Claim7.holds Tryd.pinned (.plain (OpenSpec.upto tableOnceSpec)) tableOnceUptoCard

/-- THE SECOND FORM's CARD OF 'gatepostlaw12.RecordTexts'. -/
def recordTextsUptoCard : Claim7 := { stood := { row := recordTextsUptoRow, standIns := [], harness := (true, "43f6baff36b7ab3ea3d21eaa391533b88afce1024f18aecf4a8e5d47069c717f"), looks := true }, kinds := [], alts := [], laidByText := true, laidKinds := [.data, .data, .data], laidTests := true, laidLooks := .later }
def RecordTextsUptoCardSaid : Prop := Claim7.holds Tryd.pinned (.plain (OpenSpec.upto recordTextsSpec)) recordTextsUptoCard

/-- THE SECOND FORM's CARD OF 'gatepostlaw12.RecordSame'. -/
def recordSameUptoCard : Claim7 := { stood := { row := recordSameUptoRow, standIns := [], harness := (true, "43f6baff36b7ab3ea3d21eaa391533b88afce1024f18aecf4a8e5d47069c717f"), looks := true }, kinds := [], alts := [], laidByText := true, laidKinds := [.data, .data, .data], laidTests := true, laidLooks := .later }
def RecordSameUptoCardSaid : Prop := Claim7.holds Tryd.pinned (.plain (OpenSpec.upto recordSameSpec)) recordSameUptoCard

/-- THE SECOND FORM's CARD OF 'gatepostlaw12.RecordOne'. -/
def recordOneUptoCard : Claim7 := { stood := { row := recordOneUptoRow, standIns := [], harness := (true, "43f6baff36b7ab3ea3d21eaa391533b88afce1024f18aecf4a8e5d47069c717f"), looks := true }, kinds := [], alts := [], laidByText := true, laidKinds := [.data, .data, .data], laidTests := true, laidLooks := .later }
def RecordOneUptoCardSaid : Prop := Claim7.holds Tryd.pinned (.plain (OpenSpec.upto recordOneSpec)) recordOneUptoCard

/-- THE SECOND FORM's CARD OF 'gatepostlaw12.RecordBare'. -/
def recordBareUptoCard : Claim7 := { stood := { row := recordBareUptoRow, standIns := [], harness := (true, "43f6baff36b7ab3ea3d21eaa391533b88afce1024f18aecf4a8e5d47069c717f"), looks := true }, kinds := [], alts := [], laidByText := true, laidKinds := [.data, .data, .data], laidTests := true, laidLooks := .later }
def RecordBareUptoCardSaid : Prop := Claim7.holds Tryd.pinned (.plain (OpenSpec.upto recordBareSpec)) recordBareUptoCard

/-- THE SECOND FORM's CARD OF 'gatepostlaw12.RecordNew'. -/
def recordNewUptoCard : Claim7 := { stood := { row := recordNewUptoRow, standIns := [], harness := (true, "43f6baff36b7ab3ea3d21eaa391533b88afce1024f18aecf4a8e5d47069c717f"), looks := true }, kinds := [], alts := [], laidByText := true, laidKinds := [.data, .data, .data], laidTests := true, laidLooks := .later }
def RecordNewUptoCardSaid : Prop := Claim7.holds Tryd.pinned (.plain (OpenSpec.upto recordNewSpec)) recordNewUptoCard

/-- THE SECOND FORM's CARD OF 'gatepostlaw04.PunyEncodes'. -/
def punyEncodesUptoCard : Claim7 := { stood := { row := punyEncodesUptoRow, standIns := [], harness := (true, "43f6baff36b7ab3ea3d21eaa391533b88afce1024f18aecf4a8e5d47069c717f"), looks := true }, kinds := [], alts := [], laidByText := true, laidKinds := [.handle], laidTests := true, laidLooks := .later }
def PunyEncodesUptoCardSaid : Prop := Claim7.holds Tryd.pinned (.plain (OpenSpec.upto punyEncodesSpec)) punyEncodesUptoCard

/-- THE SECOND FORM's CARD OF 'gatepostlaw04.PunyDecodes'. -/
def punyDecodesUptoCard : Claim7 := { stood := { row := punyDecodesUptoRow, standIns := [], harness := (true, "43f6baff36b7ab3ea3d21eaa391533b88afce1024f18aecf4a8e5d47069c717f"), looks := true }, kinds := [], alts := [], laidByText := true, laidKinds := [.handle], laidTests := true, laidLooks := .later }
def PunyDecodesUptoCardSaid : Prop := Claim7.holds Tryd.pinned (.plain (OpenSpec.upto punyDecodesSpec)) punyDecodesUptoCard
end Rows
end Go.Proofs.YtpoopgifikcneaaDoor
