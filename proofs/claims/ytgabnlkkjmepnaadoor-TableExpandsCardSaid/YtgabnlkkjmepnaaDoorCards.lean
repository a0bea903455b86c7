/-
  DERIVED. GIVEN WITH THE SEED: THE CARDS: each row of YtgabnlkkjmepnaaDoorRows.lean that lists a variable, with what it lists TIED to the program's text (the seventh form; the later family's looks); each row that meets fmt, with fmt's text TOLD by the authors' own Lean function (tested against real Go, not proved from fmt's source: count such statements apart). THE CARD IS WHAT COUNTS. Prove the row's statement (the work); the ties are given (YtgabnlkkjmepnaaDoorTie.lean); close each card by the builder's one call (the guide's Derived/Test/ToyasCard.lean, 'card_holds'). Laid BY PROGRAM, IN A SANDBOX (cutbox-door.mjs). By AI agents, Wed Nov 11 2026. No macro, syntax, notation, axiom, sorry.
-/
import Derived.Test.YtgabnlkkjmepnaaDoorRows
import GoSem.ClaimSeven
namespace Go.Proofs.YtgabnlkkjmepnaaDoor
namespace Rows

/-- THE TIED CARD OF 'synopticlaw08.TableNumbers'. -/
def tableNumbersCard : Claim7 := { stood := { row := tableNumbersRow, standIns := [], harness := (true, "94063ac6e77091e4154eeea84c6c89d25ff870a1438f388d021ecedf7ce431df"), looks := false }, kinds := [], alts := [], laidByText := true, laidKinds := [.data], laidTests := true, laidLooks := .later }
def TableNumbersCardSaid : Prop := Claim7.holds Tryd.pinned (.plain (OpenSpec.ofChange tableNumbersSpec)) tableNumbersCard

/-- THE TIED CARD OF 'synopticlaw08.TableJoins'. -/
def tableJoinsCard : Claim7 := { stood := { row := tableJoinsRow, standIns := [], harness := (true, "94063ac6e77091e4154eeea84c6c89d25ff870a1438f388d021ecedf7ce431df"), looks := false }, kinds := [], alts := [], laidByText := true, laidKinds := [.data], laidTests := true, laidLooks := .later }
def TableJoinsCardSaid : Prop := Claim7.holds Tryd.pinned (.plain (OpenSpec.ofChange tableJoinsSpec)) tableJoinsCard

/-- THE TIED CARD OF 'synopticlaw08.TableSequence'. -/
def tableSequenceCard : Claim7 := { stood := { row := tableSequenceRow, standIns := [], harness := (true, "94063ac6e77091e4154eeea84c6c89d25ff870a1438f388d021ecedf7ce431df"), looks := false }, kinds := [], alts := [], laidByText := true, laidKinds := [.data], laidTests := true, laidLooks := .later }
def TableSequenceCardSaid : Prop := Claim7.holds Tryd.pinned (.plain (OpenSpec.ofChange tableSequenceSpec)) tableSequenceCard

/-- THE TIED CARD OF 'synopticlaw08.TableLimits'. -/
def tableLimitsCard : Claim7 := { stood := { row := tableLimitsRow, standIns := [], harness := (true, "94063ac6e77091e4154eeea84c6c89d25ff870a1438f388d021ecedf7ce431df"), looks := false }, kinds := [], alts := [], laidByText := true, laidKinds := [.data], laidTests := true, laidLooks := .later }
def TableLimitsCardSaid : Prop := Claim7.holds Tryd.pinned (.plain (OpenSpec.ofChange tableLimitsSpec)) tableLimitsCard

/-- THE TIED CARD OF 'synopticlaw08.TableExpands'. -/
def tableExpandsCard : Claim7 := { stood := { row := tableExpandsRow, standIns := [], harness := (true, "94063ac6e77091e4154eeea84c6c89d25ff870a1438f388d021ecedf7ce431df"), looks := false }, kinds := [], alts := [], laidByText := true, laidKinds := [.data], laidTests := true, laidLooks := .later }
def TableExpandsCardSaid : Prop := Claim7.holds Tryd.pinned (.plain (OpenSpec.ofChange tableExpandsSpec)) tableExpandsCard

/-- THE SECOND FORM's CARD OF 'synopticlaw08.TableNumbers'. -/
def tableNumbersUptoCard : Claim7 := { stood := { row := tableNumbersUptoRow, standIns := [], harness := (true, "94063ac6e77091e4154eeea84c6c89d25ff870a1438f388d021ecedf7ce431df"), looks := false }, kinds := [], alts := [], laidByText := true, laidKinds := [.data], laidTests := true, laidLooks := .later }
def TableNumbersUptoCardSaid : Prop := Claim7.holds Tryd.pinned (.plain (OpenSpec.upto tableNumbersSpec)) tableNumbersUptoCard

/-- THE SECOND FORM's CARD OF 'synopticlaw08.TableJoins'. -/
def tableJoinsUptoCard : Claim7 := { stood := { row := tableJoinsUptoRow, standIns := [], harness := (true, "94063ac6e77091e4154eeea84c6c89d25ff870a1438f388d021ecedf7ce431df"), looks := false }, kinds := [], alts := [], laidByText := true, laidKinds := [.data], laidTests := true, laidLooks := .later }
def TableJoinsUptoCardSaid : Prop := Claim7.holds Tryd.pinned (.plain (OpenSpec.upto tableJoinsSpec)) tableJoinsUptoCard

/-- THE SECOND FORM's CARD OF 'synopticlaw08.TableSequence'. -/
def tableSequenceUptoCard : Claim7 := { stood := { row := tableSequenceUptoRow, standIns := [], harness := (true, "94063ac6e77091e4154eeea84c6c89d25ff870a1438f388d021ecedf7ce431df"), looks := false }, kinds := [], alts := [], laidByText := true, laidKinds := [.data], laidTests := true, laidLooks := .later }
def TableSequenceUptoCardSaid : Prop := Claim7.holds Tryd.pinned (.plain (OpenSpec.upto tableSequenceSpec)) tableSequenceUptoCard

/-- THE SECOND FORM's CARD OF 'synopticlaw08.TableLimits'. -/
def tableLimitsUptoCard : Claim7 := { stood := { row := tableLimitsUptoRow, standIns := [], harness := (true, "94063ac6e77091e4154eeea84c6c89d25ff870a1438f388d021ecedf7ce431df"), looks := false }, kinds := [], alts := [], laidByText := true, laidKinds := [.data], laidTests := true, laidLooks := .later }
def TableLimitsUptoCardSaid : Prop := Claim7.holds Tryd.pinned (.plain (OpenSpec.upto tableLimitsSpec)) tableLimitsUptoCard

/-- THE SECOND FORM's CARD OF 'synopticlaw08.TableExpands'. -/
def tableExpandsUptoCard : Claim7 := { stood := { row := tableExpandsUptoRow, standIns := [], harness := (true, "94063ac6e77091e4154eeea84c6c89d25ff870a1438f388d021ecedf7ce431df"), looks := false }, kinds := [], alts := [], laidByText := true, laidKinds := [.data], laidTests := true, laidLooks := .later }
def TableExpandsUptoCardSaid : Prop := Claim7.holds Tryd.pinned (.plain (OpenSpec.upto tableExpandsSpec)) tableExpandsUptoCard
end Rows
end Go.Proofs.YtgabnlkkjmepnaaDoor
