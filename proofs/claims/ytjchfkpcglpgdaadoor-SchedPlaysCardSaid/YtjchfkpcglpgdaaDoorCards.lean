/-
  DERIVED. GIVEN WITH THE SEED: THE CARDS: each row of YtjchfkpcglpgdaaDoorRows.lean that lists a variable, with what it lists TIED to the program's text (the seventh form; the later family's looks); each row that meets fmt, with fmt's text TOLD by the authors' own Lean function (tested against real Go, not proved from fmt's source: count such statements apart). THE CARD IS WHAT COUNTS. Prove the row's statement (the work); the ties are given (YtjchfkpcglpgdaaDoorTie.lean); close each card by the builder's one call (the guide's Derived/Test/ToyasCard.lean, 'card_holds'). Laid BY PROGRAM, IN A SANDBOX (cutbox-door.mjs). By AI agents, Wed Nov 11 2026. No macro, syntax, notation, axiom, sorry.
-/
import Derived.Test.YtjchfkpcglpgdaaDoorRows
import GoSem.ClaimSeven
namespace Go.Proofs.YtjchfkpcglpgdaaDoor
namespace Rows

/-- THE TIED CARD OF 'facadelaw24.SchedLate'. -/
def schedLateCard : Claim7 := { stood := { row := schedLateRow, standIns := [], harness := (true, "6c633422305472f53f932f7b0f1a78a576f1dcc5072a6ab88c2c46793bc40c25"), looks := true }, kinds := [], alts := [], laidByText := true, laidKinds := [.sentinel, .sentinel, .sentinel, .sentinel, .sentinel, .sentinel, .sentinel, .sentinel, .sentinel, .sentinel, .sentinel, .sentinel, .sentinel, .sentinel, .sentinel, .sentinel], laidTests := true, laidLooks := .later }
def SchedLateCardSaid : Prop := Claim7.holds Tryd.pinned (.plain (OpenSpec.ofChange schedLateSpec)) schedLateCard

/-- THE TIED CARD OF 'facadelaw24.SchedFair'. -/
def schedFairCard : Claim7 := { stood := { row := schedFairRow, standIns := [], harness := (true, "6c633422305472f53f932f7b0f1a78a576f1dcc5072a6ab88c2c46793bc40c25"), looks := true }, kinds := [], alts := [], laidByText := true, laidKinds := [.sentinel, .sentinel, .sentinel], laidTests := true, laidLooks := .later }
def SchedFairCardSaid : Prop := Claim7.holds Tryd.pinned (.plain (OpenSpec.ofChange schedFairSpec)) schedFairCard

/-- THE TIED CARD OF 'facadelaw24.SchedSleeps'. -/
def schedSleepsCard : Claim7 := { stood := { row := schedSleepsRow, standIns := [], harness := (true, "6c633422305472f53f932f7b0f1a78a576f1dcc5072a6ab88c2c46793bc40c25"), looks := true }, kinds := [], alts := [], laidByText := true, laidKinds := [.sentinel, .sentinel, .sentinel, .sentinel, .sentinel, .sentinel, .sentinel, .sentinel, .sentinel, .sentinel, .sentinel, .sentinel, .sentinel, .sentinel, .sentinel, .sentinel], laidTests := true, laidLooks := .later }
def SchedSleepsCardSaid : Prop := Claim7.holds Tryd.pinned (.plain (OpenSpec.ofChange schedSleepsSpec)) schedSleepsCard

/-- THE TIED CARD OF 'facadelaw24.SchedCopies'. -/
def schedCopiesCard : Claim7 := { stood := { row := schedCopiesRow, standIns := [], harness := (true, "6c633422305472f53f932f7b0f1a78a576f1dcc5072a6ab88c2c46793bc40c25"), looks := true }, kinds := [], alts := [], laidByText := true, laidKinds := [.sentinel, .sentinel, .sentinel], laidTests := true, laidLooks := .later }
def SchedCopiesCardSaid : Prop := Claim7.holds Tryd.pinned (.plain (OpenSpec.ofChange schedCopiesSpec)) schedCopiesCard

/-- THE TIED CARD OF 'facadelaw24.SchedPlays'. -/
def schedPlaysCard : Claim7 := { stood := { row := schedPlaysRow, standIns := [], harness := (true, "6c633422305472f53f932f7b0f1a78a576f1dcc5072a6ab88c2c46793bc40c25"), looks := true }, kinds := [], alts := [], laidByText := true, laidKinds := [.sentinel, .sentinel, .sentinel, .sentinel, .sentinel, .sentinel, .sentinel, .sentinel, .sentinel, .sentinel, .sentinel, .sentinel, .sentinel, .sentinel, .sentinel, .sentinel], laidTests := true, laidLooks := .later }
def SchedPlaysCardSaid : Prop := Claim7.holds Tryd.pinned (.plain (OpenSpec.ofChange schedPlaysSpec)) schedPlaysCard

/-- THE SECOND FORM's CARD OF 'facadelaw24.SchedLate'. -/
def schedLateUptoCard : Claim7 := { stood := { row := schedLateUptoRow, standIns := [], harness := (true, "6c633422305472f53f932f7b0f1a78a576f1dcc5072a6ab88c2c46793bc40c25"), looks := true }, kinds := [], alts := [], laidByText := true, laidKinds := [.sentinel, .sentinel, .sentinel, .sentinel, .sentinel, .sentinel, .sentinel, .sentinel, .sentinel, .sentinel, .sentinel, .sentinel, .sentinel, .sentinel, .sentinel, .sentinel], laidTests := true, laidLooks := .later }
def SchedLateUptoCardSaid : Prop := Claim7.holds Tryd.pinned (.plain (OpenSpec.upto schedLateSpec)) schedLateUptoCard

/-- THE SECOND FORM's CARD OF 'facadelaw24.SchedFair'. -/
def schedFairUptoCard : Claim7 := { stood := { row := schedFairUptoRow, standIns := [], harness := (true, "6c633422305472f53f932f7b0f1a78a576f1dcc5072a6ab88c2c46793bc40c25"), looks := true }, kinds := [], alts := [], laidByText := true, laidKinds := [.sentinel, .sentinel, .sentinel], laidTests := true, laidLooks := .later }
def SchedFairUptoCardSaid : Prop := Claim7.holds Tryd.pinned (.plain (OpenSpec.upto schedFairSpec)) schedFairUptoCard

/-- THE SECOND FORM's CARD OF 'facadelaw24.SchedSleeps'. -/
def schedSleepsUptoCard : Claim7 := { stood := { row := schedSleepsUptoRow, standIns := [], harness := (true, "6c633422305472f53f932f7b0f1a78a576f1dcc5072a6ab88c2c46793bc40c25"), looks := true }, kinds := [], alts := [], laidByText := true, laidKinds := [.sentinel, .sentinel, .sentinel, .sentinel, .sentinel, .sentinel, .sentinel, .sentinel, .sentinel, .sentinel, .sentinel, .sentinel, .sentinel, .sentinel, .sentinel, .sentinel], laidTests := true, laidLooks := .later }
def SchedSleepsUptoCardSaid : Prop := Claim7.holds Tryd.pinned (.plain (OpenSpec.upto schedSleepsSpec)) schedSleepsUptoCard

/-- THE SECOND FORM's CARD OF 'facadelaw24.SchedCopies'. -/
def schedCopiesUptoCard : Claim7 := { stood := { row := schedCopiesUptoRow, standIns := [], harness := (true, "6c633422305472f53f932f7b0f1a78a576f1dcc5072a6ab88c2c46793bc40c25"), looks := true }, kinds := [], alts := [], laidByText := true, laidKinds := [.sentinel, .sentinel, .sentinel], laidTests := true, laidLooks := .later }
def SchedCopiesUptoCardSaid : Prop := Claim7.holds Tryd.pinned (.plain (OpenSpec.upto schedCopiesSpec)) schedCopiesUptoCard

/-- THE SECOND FORM's CARD OF 'facadelaw24.SchedPlays'. -/
def schedPlaysUptoCard : Claim7 := { stood := { row := schedPlaysUptoRow, standIns := [], harness := (true, "6c633422305472f53f932f7b0f1a78a576f1dcc5072a6ab88c2c46793bc40c25"), looks := true }, kinds := [], alts := [], laidByText := true, laidKinds := [.sentinel, .sentinel, .sentinel, .sentinel, .sentinel, .sentinel, .sentinel, .sentinel, .sentinel, .sentinel, .sentinel, .sentinel, .sentinel, .sentinel, .sentinel, .sentinel], laidTests := true, laidLooks := .later }
def SchedPlaysUptoCardSaid : Prop := Claim7.holds Tryd.pinned (.plain (OpenSpec.upto schedPlaysSpec)) schedPlaysUptoCard
end Rows
end Go.Proofs.YtjchfkpcglpgdaaDoor
