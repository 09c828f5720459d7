/-
  DERIVED. GIVEN WITH THE SEED: THE CARDS: each row of YtpjdkdphklgfjaaDoorRows.lean that lists a variable, with what it lists TIED to the program's text (the seventh form; the later family's looks); each row that meets fmt, with fmt's text TOLD by the authors' own Lean function (tested against real Go, not proved from fmt's source: count such statements apart). THE CARD IS WHAT COUNTS. Prove the row's statement (the work); the ties are given (YtpjdkdphklgfjaaDoorTie.lean); close each card by the builder's one call (the guide's Derived/Test/ToyasCard.lean, 'card_holds'). Laid BY PROGRAM, IN A SANDBOX (cutbox-door.mjs). By AI agents, Wed Nov 11 2026. No macro, syntax, notation, axiom, sorry.
-/
import Derived.Test.YtpjdkdphklgfjaaDoorRows
import GoSem.ClaimSeven
namespace Go.Proofs.YtpjdkdphklgfjaaDoor
namespace Rows

/-- THE TIED CARD OF 'vesperlaw15.PlainSweep'. -/
def plainSweepCard : Claim7 := { stood := { row := plainSweepRow, standIns := [], harness := (true, "82b5b8429a366ee7d4e9b0b5a1b9aee7de32e0acc9c9412116787c26e36b80a2"), looks := true }, kinds := [], alts := [], laidByText := true, laidKinds := [.data, .data, .data, .data, .data, .data, .data, .pinned], laidTests := true, laidLooks := .later }
def PlainSweepCardSaid : Prop := Claim7.holds Tryd.pinned (.plain (OpenSpec.ofChange plainSweepSpec)) plainSweepCard

/-- THE TIED CARD OF 'vesperlaw14.AsmBranch'. -/
def asmBranchCard : Claim7 := { stood := { row := asmBranchRow, standIns := [], harness := (true, "82b5b8429a366ee7d4e9b0b5a1b9aee7de32e0acc9c9412116787c26e36b80a2"), looks := true }, kinds := [], alts := [], laidByText := true, laidKinds := [.data, .data, .data, .data, .data, .data, .data, .pinned], laidTests := true, laidLooks := .later }
def AsmBranchCardSaid : Prop := Claim7.holds Tryd.pinned (.plain (OpenSpec.ofChange asmBranchSpec)) asmBranchCard

/-- THE TIED CARD OF 'vesperlaw14.AsmTwo'. -/
def asmTwoCard : Claim7 := { stood := { row := asmTwoRow, standIns := [], harness := (true, "82b5b8429a366ee7d4e9b0b5a1b9aee7de32e0acc9c9412116787c26e36b80a2"), looks := true }, kinds := [], alts := [], laidByText := true, laidKinds := [.data, .data, .data, .data, .data, .data, .data, .pinned], laidTests := true, laidLooks := .later }
def AsmTwoCardSaid : Prop := Claim7.holds Tryd.pinned (.plain (OpenSpec.ofChange asmTwoSpec)) asmTwoCard

/-- THE TIED CARD OF 'vesperlaw14.AsmLays'. -/
def asmLaysCard : Claim7 := { stood := { row := asmLaysRow, standIns := [], harness := (true, "82b5b8429a366ee7d4e9b0b5a1b9aee7de32e0acc9c9412116787c26e36b80a2"), looks := true }, kinds := [], alts := [], laidByText := true, laidKinds := [.data, .data, .data, .data, .data, .data, .data, .pinned], laidTests := true, laidLooks := .later }
def AsmLaysCardSaid : Prop := Claim7.holds Tryd.pinned (.plain (OpenSpec.ofChange asmLaysSpec)) asmLaysCard

/-- THE TIED CARD OF 'vesperlaw15.PlainThere'. -/
def plainThereCard : Claim7 := { stood := { row := plainThereRow, standIns := [], harness := (true, "82b5b8429a366ee7d4e9b0b5a1b9aee7de32e0acc9c9412116787c26e36b80a2"), looks := true }, kinds := [], alts := [], laidByText := true, laidKinds := [.data, .data, .data, .data, .data, .data, .data, .pinned], laidTests := true, laidLooks := .later }
def PlainThereCardSaid : Prop := Claim7.holds Tryd.pinned (.plain (OpenSpec.ofChange plainThereSpec)) plainThereCard

/-- THE SECOND FORM's CARD OF 'vesperlaw15.PlainSweep'. -/
def plainSweepUptoCard : Claim7 := { stood := { row := plainSweepUptoRow, standIns := [], harness := (true, "82b5b8429a366ee7d4e9b0b5a1b9aee7de32e0acc9c9412116787c26e36b80a2"), looks := true }, kinds := [], alts := [], laidByText := true, laidKinds := [.data, .data, .data, .data, .data, .data, .data, .pinned], laidTests := true, laidLooks := .later }
def PlainSweepUptoCardSaid : Prop := Claim7.holds Tryd.pinned (.plain (OpenSpec.upto plainSweepSpec)) plainSweepUptoCard

/-- THE SECOND FORM's CARD OF 'vesperlaw14.AsmBranch'. -/
def asmBranchUptoCard : Claim7 := { stood := { row := asmBranchUptoRow, standIns := [], harness := (true, "82b5b8429a366ee7d4e9b0b5a1b9aee7de32e0acc9c9412116787c26e36b80a2"), looks := true }, kinds := [], alts := [], laidByText := true, laidKinds := [.data, .data, .data, .data, .data, .data, .data, .pinned], laidTests := true, laidLooks := .later }
def AsmBranchUptoCardSaid : Prop := Claim7.holds Tryd.pinned (.plain (OpenSpec.upto asmBranchSpec)) asmBranchUptoCard

/-- THE SECOND FORM's CARD OF 'vesperlaw14.AsmTwo'. -/
def asmTwoUptoCard : Claim7 := { stood := { row := asmTwoUptoRow, standIns := [], harness := (true, "82b5b8429a366ee7d4e9b0b5a1b9aee7de32e0acc9c9412116787c26e36b80a2"), looks := true }, kinds := [], alts := [], laidByText := true, laidKinds := [.data, .data, .data, .data, .data, .data, .data, .pinned], laidTests := true, laidLooks := .later }
def AsmTwoUptoCardSaid : Prop := Claim7.holds Tryd.pinned (.plain (OpenSpec.upto asmTwoSpec)) asmTwoUptoCard

/-- THE SECOND FORM's CARD OF 'vesperlaw14.AsmLays'. -/
def asmLaysUptoCard : Claim7 := { stood := { row := asmLaysUptoRow, standIns := [], harness := (true, "82b5b8429a366ee7d4e9b0b5a1b9aee7de32e0acc9c9412116787c26e36b80a2"), looks := true }, kinds := [], alts := [], laidByText := true, laidKinds := [.data, .data, .data, .data, .data, .data, .data, .pinned], laidTests := true, laidLooks := .later }
def AsmLaysUptoCardSaid : Prop := Claim7.holds Tryd.pinned (.plain (OpenSpec.upto asmLaysSpec)) asmLaysUptoCard

/-- THE SECOND FORM's CARD OF 'vesperlaw15.PlainThere'. -/
def plainThereUptoCard : Claim7 := { stood := { row := plainThereUptoRow, standIns := [], harness := (true, "82b5b8429a366ee7d4e9b0b5a1b9aee7de32e0acc9c9412116787c26e36b80a2"), looks := true }, kinds := [], alts := [], laidByText := true, laidKinds := [.data, .data, .data, .data, .data, .data, .data, .pinned], laidTests := true, laidLooks := .later }
def PlainThereUptoCardSaid : Prop := Claim7.holds Tryd.pinned (.plain (OpenSpec.upto plainThereSpec)) plainThereUptoCard
end Rows
end Go.Proofs.YtpjdkdphklgfjaaDoor
