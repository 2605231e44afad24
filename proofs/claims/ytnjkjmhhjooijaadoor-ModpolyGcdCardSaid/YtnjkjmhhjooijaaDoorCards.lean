/-
  DERIVED. GIVEN WITH THE SEED: THE CARDS: each row of YtnjkjmhhjooijaaDoorRows.lean that lists a variable, with what it lists TIED to the program's text (the seventh form; the later family's looks); each row that meets fmt, with fmt's text TOLD by the authors' own Lean function (tested against real Go, not proved from fmt's source: count such statements apart). THE CARD IS WHAT COUNTS. Prove the row's statement (the work); the ties are given (YtnjkjmhhjooijaaDoorTie.lean); close each card by the builder's one call (the guide's Derived/Test/ToyasCard.lean, 'card_holds'). Laid BY PROGRAM, IN A SANDBOX (cutbox-door.mjs). By AI agents, Wed Nov 11 2026. No macro, syntax, notation, axiom, sorry.
-/
import Derived.Test.YtnjkjmhhjooijaaDoorRows
import GoSem.ClaimSeven
namespace Go.Proofs.YtnjkjmhhjooijaaDoor
namespace Rows

/-- THE TIED CARD OF 'cylinderlaw10.ModpolyArithmetic'. -/
def modpolyArithmeticCard : Claim7 := { stood := { row := modpolyArithmeticRow, standIns := [], harness := (true, "0b232074fc956f087fab1c36d64805f1e890610a96ba93e3a831c03643b3ce27"), looks := false }, kinds := [], alts := [], laidByText := true, laidKinds := [.data], laidTests := true, laidLooks := .later }
def ModpolyArithmeticCardSaid : Prop := Claim7.holds Tryd.pinned (.plain (OpenSpec.ofChange modpolyArithmeticSpec)) modpolyArithmeticCard

/-- THE TIED CARD OF 'cylinderlaw10.ModpolyValues'. -/
def modpolyValuesCard : Claim7 := { stood := { row := modpolyValuesRow, standIns := [], harness := (true, "0b232074fc956f087fab1c36d64805f1e890610a96ba93e3a831c03643b3ce27"), looks := false }, kinds := [], alts := [], laidByText := true, laidKinds := [.data], laidTests := true, laidLooks := .later }
def ModpolyValuesCardSaid : Prop := Claim7.holds Tryd.pinned (.plain (OpenSpec.ofChange modpolyValuesSpec)) modpolyValuesCard

/-- THE TIED CARD OF 'cylinderlaw10.ModpolySquarefree'. -/
def modpolySquarefreeCard : Claim7 := { stood := { row := modpolySquarefreeRow, standIns := [], harness := (true, "0b232074fc956f087fab1c36d64805f1e890610a96ba93e3a831c03643b3ce27"), looks := false }, kinds := [], alts := [], laidByText := true, laidKinds := [.data], laidTests := true, laidLooks := .later }
def ModpolySquarefreeCardSaid : Prop := Claim7.holds Tryd.pinned (.plain (OpenSpec.ofChange modpolySquarefreeSpec)) modpolySquarefreeCard

/-- THE TIED CARD OF 'cylinderlaw10.ModpolyDivide'. -/
def modpolyDivideCard : Claim7 := { stood := { row := modpolyDivideRow, standIns := [], harness := (true, "0b232074fc956f087fab1c36d64805f1e890610a96ba93e3a831c03643b3ce27"), looks := false }, kinds := [], alts := [], laidByText := true, laidKinds := [.data], laidTests := true, laidLooks := .later }
def ModpolyDivideCardSaid : Prop := Claim7.holds Tryd.pinned (.plain (OpenSpec.ofChange modpolyDivideSpec)) modpolyDivideCard

/-- THE TIED CARD OF 'cylinderlaw10.ModpolyIrreducible'. -/
def modpolyIrreducibleCard : Claim7 := { stood := { row := modpolyIrreducibleRow, standIns := [], harness := (true, "0b232074fc956f087fab1c36d64805f1e890610a96ba93e3a831c03643b3ce27"), looks := false }, kinds := [], alts := [], laidByText := true, laidKinds := [.data], laidTests := true, laidLooks := .later }
def ModpolyIrreducibleCardSaid : Prop := Claim7.holds Tryd.pinned (.plain (OpenSpec.ofChange modpolyIrreducibleSpec)) modpolyIrreducibleCard

/-- THE TIED CARD OF 'cylinderlaw10.ModpolyPower'. -/
def modpolyPowerCard : Claim7 := { stood := { row := modpolyPowerRow, standIns := [], harness := (true, "0b232074fc956f087fab1c36d64805f1e890610a96ba93e3a831c03643b3ce27"), looks := false }, kinds := [], alts := [], laidByText := true, laidKinds := [.data], laidTests := true, laidLooks := .later }
def ModpolyPowerCardSaid : Prop := Claim7.holds Tryd.pinned (.plain (OpenSpec.ofChange modpolyPowerSpec)) modpolyPowerCard

/-- THE TIED CARD OF 'cylinderlaw10.ModpolyFrobenius'. -/
def modpolyFrobeniusCard : Claim7 := { stood := { row := modpolyFrobeniusRow, standIns := [], harness := (true, "0b232074fc956f087fab1c36d64805f1e890610a96ba93e3a831c03643b3ce27"), looks := false }, kinds := [], alts := [], laidByText := true, laidKinds := [.data], laidTests := true, laidLooks := .later }
def ModpolyFrobeniusCardSaid : Prop := Claim7.holds Tryd.pinned (.plain (OpenSpec.ofChange modpolyFrobeniusSpec)) modpolyFrobeniusCard

/-- THE TIED CARD OF 'cylinderlaw10.ModpolyFactors'. -/
def modpolyFactorsCard : Claim7 := { stood := { row := modpolyFactorsRow, standIns := [], harness := (true, "0b232074fc956f087fab1c36d64805f1e890610a96ba93e3a831c03643b3ce27"), looks := false }, kinds := [], alts := [], laidByText := true, laidKinds := [.data], laidTests := true, laidLooks := .later }
def ModpolyFactorsCardSaid : Prop := Claim7.holds Tryd.pinned (.plain (OpenSpec.ofChange modpolyFactorsSpec)) modpolyFactorsCard

/-- THE TIED CARD OF 'cylinderlaw10.ModpolyGcd'. -/
def modpolyGcdCard : Claim7 := { stood := { row := modpolyGcdRow, standIns := [], harness := (true, "0b232074fc956f087fab1c36d64805f1e890610a96ba93e3a831c03643b3ce27"), looks := false }, kinds := [], alts := [], laidByText := true, laidKinds := [.data], laidTests := true, laidLooks := .later }
def ModpolyGcdCardSaid : Prop := Claim7.holds Tryd.pinned (.plain (OpenSpec.ofChange modpolyGcdSpec)) modpolyGcdCard

/-- THE TIED CARD OF 'cylinderlaw10.ModpolyReduce'. -/
def modpolyReduceCard : Claim7 := { stood := { row := modpolyReduceRow, standIns := [], harness := (true, "0b232074fc956f087fab1c36d64805f1e890610a96ba93e3a831c03643b3ce27"), looks := false }, kinds := [], alts := [], laidByText := true, laidKinds := [.data], laidTests := true, laidLooks := .later }
def ModpolyReduceCardSaid : Prop := Claim7.holds Tryd.pinned (.plain (OpenSpec.ofChange modpolyReduceSpec)) modpolyReduceCard

/-- THE SECOND FORM's CARD OF 'cylinderlaw10.ModpolyArithmetic'. -/
def modpolyArithmeticUptoCard : Claim7 := { stood := { row := modpolyArithmeticUptoRow, standIns := [], harness := (true, "0b232074fc956f087fab1c36d64805f1e890610a96ba93e3a831c03643b3ce27"), looks := false }, kinds := [], alts := [], laidByText := true, laidKinds := [.data], laidTests := true, laidLooks := .later }
def ModpolyArithmeticUptoCardSaid : Prop := Claim7.holds Tryd.pinned (.plain (OpenSpec.upto modpolyArithmeticSpec)) modpolyArithmeticUptoCard

/-- THE SECOND FORM's CARD OF 'cylinderlaw10.ModpolyValues'. -/
def modpolyValuesUptoCard : Claim7 := { stood := { row := modpolyValuesUptoRow, standIns := [], harness := (true, "0b232074fc956f087fab1c36d64805f1e890610a96ba93e3a831c03643b3ce27"), looks := false }, kinds := [], alts := [], laidByText := true, laidKinds := [.data], laidTests := true, laidLooks := .later }
def ModpolyValuesUptoCardSaid : Prop := Claim7.holds Tryd.pinned (.plain (OpenSpec.upto modpolyValuesSpec)) modpolyValuesUptoCard

/-- THE SECOND FORM's CARD OF 'cylinderlaw10.ModpolySquarefree'. -/
def modpolySquarefreeUptoCard : Claim7 := { stood := { row := modpolySquarefreeUptoRow, standIns := [], harness := (true, "0b232074fc956f087fab1c36d64805f1e890610a96ba93e3a831c03643b3ce27"), looks := false }, kinds := [], alts := [], laidByText := true, laidKinds := [.data], laidTests := true, laidLooks := .later }
def ModpolySquarefreeUptoCardSaid : Prop := Claim7.holds Tryd.pinned (.plain (OpenSpec.upto modpolySquarefreeSpec)) modpolySquarefreeUptoCard

/-- THE SECOND FORM's CARD OF 'cylinderlaw10.ModpolyDivide'. -/
def modpolyDivideUptoCard : Claim7 := { stood := { row := modpolyDivideUptoRow, standIns := [], harness := (true, "0b232074fc956f087fab1c36d64805f1e890610a96ba93e3a831c03643b3ce27"), looks := false }, kinds := [], alts := [], laidByText := true, laidKinds := [.data], laidTests := true, laidLooks := .later }
def ModpolyDivideUptoCardSaid : Prop := Claim7.holds Tryd.pinned (.plain (OpenSpec.upto modpolyDivideSpec)) modpolyDivideUptoCard

/-- THE SECOND FORM's CARD OF 'cylinderlaw10.ModpolyIrreducible'. -/
def modpolyIrreducibleUptoCard : Claim7 := { stood := { row := modpolyIrreducibleUptoRow, standIns := [], harness := (true, "0b232074fc956f087fab1c36d64805f1e890610a96ba93e3a831c03643b3ce27"), looks := false }, kinds := [], alts := [], laidByText := true, laidKinds := [.data], laidTests := true, laidLooks := .later }
def ModpolyIrreducibleUptoCardSaid : Prop := Claim7.holds Tryd.pinned (.plain (OpenSpec.upto modpolyIrreducibleSpec)) modpolyIrreducibleUptoCard

/-- THE SECOND FORM's CARD OF 'cylinderlaw10.ModpolyPower'. -/
def modpolyPowerUptoCard : Claim7 := { stood := { row := modpolyPowerUptoRow, standIns := [], harness := (true, "0b232074fc956f087fab1c36d64805f1e890610a96ba93e3a831c03643b3ce27"), looks := false }, kinds := [], alts := [], laidByText := true, laidKinds := [.data], laidTests := true, laidLooks := .later }
def ModpolyPowerUptoCardSaid : Prop := Claim7.holds Tryd.pinned (.plain (OpenSpec.upto modpolyPowerSpec)) modpolyPowerUptoCard

/-- THE SECOND FORM's CARD OF 'cylinderlaw10.ModpolyFrobenius'. -/
def modpolyFrobeniusUptoCard : Claim7 := { stood := { row := modpolyFrobeniusUptoRow, standIns := [], harness := (true, "0b232074fc956f087fab1c36d64805f1e890610a96ba93e3a831c03643b3ce27"), looks := false }, kinds := [], alts := [], laidByText := true, laidKinds := [.data], laidTests := true, laidLooks := .later }
def ModpolyFrobeniusUptoCardSaid : Prop := Claim7.holds Tryd.pinned (.plain (OpenSpec.upto modpolyFrobeniusSpec)) modpolyFrobeniusUptoCard

/-- THE SECOND FORM's CARD OF 'cylinderlaw10.ModpolyFactors'. -/
def modpolyFactorsUptoCard : Claim7 := { stood := { row := modpolyFactorsUptoRow, standIns := [], harness := (true, "0b232074fc956f087fab1c36d64805f1e890610a96ba93e3a831c03643b3ce27"), looks := false }, kinds := [], alts := [], laidByText := true, laidKinds := [.data], laidTests := true, laidLooks := .later }
def ModpolyFactorsUptoCardSaid : Prop := Claim7.holds Tryd.pinned (.plain (OpenSpec.upto modpolyFactorsSpec)) modpolyFactorsUptoCard

/-- THE SECOND FORM's CARD OF 'cylinderlaw10.ModpolyGcd'. -/
def modpolyGcdUptoCard : Claim7 := { stood := { row := modpolyGcdUptoRow, standIns := [], harness := (true, "0b232074fc956f087fab1c36d64805f1e890610a96ba93e3a831c03643b3ce27"), looks := false }, kinds := [], alts := [], laidByText := true, laidKinds := [.data], laidTests := true, laidLooks := .later }
def ModpolyGcdUptoCardSaid : Prop := Claim7.holds Tryd.pinned (.plain (OpenSpec.upto modpolyGcdSpec)) modpolyGcdUptoCard

/-- THE SECOND FORM's CARD OF 'cylinderlaw10.ModpolyReduce'. -/
def modpolyReduceUptoCard : Claim7 := { stood := { row := modpolyReduceUptoRow, standIns := [], harness := (true, "0b232074fc956f087fab1c36d64805f1e890610a96ba93e3a831c03643b3ce27"), looks := false }, kinds := [], alts := [], laidByText := true, laidKinds := [.data], laidTests := true, laidLooks := .later }
def ModpolyReduceUptoCardSaid : Prop := Claim7.holds Tryd.pinned (.plain (OpenSpec.upto modpolyReduceSpec)) modpolyReduceUptoCard
end Rows
end Go.Proofs.YtnjkjmhhjooijaaDoor
