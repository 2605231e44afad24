/-
  NARROWER THAN 'FOR EVERY INPUT', by the rows' own cells (each row's printed sentence says how): ModpolyArithmetic: laid · ModpolyValues: laid · ModpolySquarefree: laid · ModpolyDivide: laid · ModpolyIrreducible: laid · ModpolyPower: laid · ModpolyFrobenius: laid · ModpolyFactors: laid · ModpolyGcd: laid · ModpolyReduce: laid.
  DERIVED. THE GIVEN ROWS OF THIS SEAT. 10 by the template 'for every input the law returns true; each argument reads behind the call as it read before'; 0 by the template 'total and deterministic' (their statements: YtnjkjmhhjooijaaDoorTotals.lean).
  GIVEN WITH THE SEED: the statements are not yours to turn. If you find one false, say at which input.
  Laid BY PROGRAM, IN A SANDBOX (cutbox-rows.mjs): the forced cells as the released guide's own fill.sh prints them over the translation 20c56ff61e34b6fd… (all of the seat's roots in one cut). By AI agents, Wed Nov 11 2026. No macro, syntax, notation, axiom, sorry.
-/
import Derived.Test.YtnjkjmhhjooijaaDoorChecked
import GoSem.Claim
import GoSem.ClaimJoined
import GoSem.ClaimMapViews
import Derived.JoinedTies
import Derived.KernelRfl
namespace Go.Proofs.YtnjkjmhhjooijaaDoor
/- THE CELL 'sum', in the pinned program and in every row, IS THE sha256 OF THE DUMP (.gsa) THAT YtnjkjmhhjooijaaDoorProg.lean LOADS. Nothing in Lean hashes anything: it is a label: what it is worth is what the hold of that sum in a sandbox is worth. -/
noncomputable def Tryd.pinned : Pinned := { name := "ytnjkjmhhjooijaadoor", sum := "20c56ff61e34b6fd4ee77239696220c6ba6dec17a941b41e5f3fe440742f96fa", checked := Tryd.checked }
namespace Rows
def none {H : Type} : Left H := { results := [], args := [] }

/- WHAT THE LISTED PACKAGE-LEVEL VARIABLES READ AS WHEN THE CALL BEGINS. Each datum BY PROGRAM (the guide's laid-datum.mjs) off the statement by which the dump's own 'gosem.cut.vars' lays the variable. In a bare row this is a premise. The card (YtnjkjmhhjooijaaDoorCards.lean) ties it to the program's text. -/
def laid_math_bits_deBruijn32tab {H : Type} : DataW H := .agg [.lit (.int .u8 0), .lit (.int .u8 1), .lit (.int .u8 28), .lit (.int .u8 2), .lit (.int .u8 29), .lit (.int .u8 14), .lit (.int .u8 24), .lit (.int .u8 3), .lit (.int .u8 30), .lit (.int .u8 22), .lit (.int .u8 20), .lit (.int .u8 15), .lit (.int .u8 25), .lit (.int .u8 17), .lit (.int .u8 4), .lit (.int .u8 8), .lit (.int .u8 31), .lit (.int .u8 27), .lit (.int .u8 13), .lit (.int .u8 23), .lit (.int .u8 21), .lit (.int .u8 19), .lit (.int .u8 16), .lit (.int .u8 7), .lit (.int .u8 26), .lit (.int .u8 12), .lit (.int .u8 18), .lit (.int .u8 6), .lit (.int .u8 11), .lit (.int .u8 5), .lit (.int .u8 10), .lit (.int .u8 9)]

/-- 'cylinderlaw10.ModpolyArithmetic': WHATEVER THE INPUT: true; the input reads as it did. -/
def modpolyArithmeticSpec : ChangeSpec := { name := "modpolyArithmetic", fn := fun _ => fun
  | [d1, d2, d3] => { results := [.lit (.bool true)], args := [d1, d2, d3] }
  | _ => none }
def modpolyArithmeticRow : OpenClaim := { program := "ytnjkjmhhjooijaadoor", sum := "20c56ff61e34b6fd4ee77239696220c6ba6dec17a941b41e5f3fe440742f96fa", func := "cylinder/cylinderlaw10.ModpolyArithmetic", spec := "modpolyArithmetic", unfollowed := true, recurses := true, named := ["math/bits.deBruijn32tab"], apart := false, laid := [("math/bits.deBruijn32tab", laid_math_bits_deBruijn32tab)] }
def ModpolyArithmeticSaid : Prop := modpolyArithmeticRow.holds Tryd.pinned (OpenSpec.ofChange modpolyArithmeticSpec)

/-- ITS FALSE NEIGHBOUR: 'it returns false'. Refute it at one input. -/
def modpolyArithmeticWrong : ChangeSpec := { name := "modpolyArithmetic", fn := fun _ => fun
  | [d1, d2, d3] => { results := [.lit (.bool false)], args := [d1, d2, d3] }
  | _ => none }
def ModpolyArithmeticWrongFalsely : Prop := modpolyArithmeticRow.holds Tryd.pinned (OpenSpec.ofChange modpolyArithmeticWrong)

/-- 'cylinderlaw10.ModpolyValues': WHATEVER THE INPUT: true; the input reads as it did. -/
def modpolyValuesSpec : ChangeSpec := { name := "modpolyValues", fn := fun _ => fun
  | [d1, d2, d3] => { results := [.lit (.bool true)], args := [d1, d2, d3] }
  | _ => none }
def modpolyValuesRow : OpenClaim := { program := "ytnjkjmhhjooijaadoor", sum := "20c56ff61e34b6fd4ee77239696220c6ba6dec17a941b41e5f3fe440742f96fa", func := "cylinder/cylinderlaw10.ModpolyValues", spec := "modpolyValues", unfollowed := true, recurses := true, named := ["math/bits.deBruijn32tab"], apart := false, laid := [("math/bits.deBruijn32tab", laid_math_bits_deBruijn32tab)] }
def ModpolyValuesSaid : Prop := modpolyValuesRow.holds Tryd.pinned (OpenSpec.ofChange modpolyValuesSpec)

/-- ITS FALSE NEIGHBOUR: 'it returns false'. Refute it at one input. -/
def modpolyValuesWrong : ChangeSpec := { name := "modpolyValues", fn := fun _ => fun
  | [d1, d2, d3] => { results := [.lit (.bool false)], args := [d1, d2, d3] }
  | _ => none }
def ModpolyValuesWrongFalsely : Prop := modpolyValuesRow.holds Tryd.pinned (OpenSpec.ofChange modpolyValuesWrong)

/-- 'cylinderlaw10.ModpolySquarefree': WHATEVER THE INPUT: true; the input reads as it did. -/
def modpolySquarefreeSpec : ChangeSpec := { name := "modpolySquarefree", fn := fun _ => fun
  | [d1, d2, d3] => { results := [.lit (.bool true)], args := [d1, d2, d3] }
  | _ => none }
def modpolySquarefreeRow : OpenClaim := { program := "ytnjkjmhhjooijaadoor", sum := "20c56ff61e34b6fd4ee77239696220c6ba6dec17a941b41e5f3fe440742f96fa", func := "cylinder/cylinderlaw10.ModpolySquarefree", spec := "modpolySquarefree", unfollowed := true, recurses := true, named := ["math/bits.deBruijn32tab"], apart := false, laid := [("math/bits.deBruijn32tab", laid_math_bits_deBruijn32tab)] }
def ModpolySquarefreeSaid : Prop := modpolySquarefreeRow.holds Tryd.pinned (OpenSpec.ofChange modpolySquarefreeSpec)

/-- ITS FALSE NEIGHBOUR: 'it returns false'. Refute it at one input. -/
def modpolySquarefreeWrong : ChangeSpec := { name := "modpolySquarefree", fn := fun _ => fun
  | [d1, d2, d3] => { results := [.lit (.bool false)], args := [d1, d2, d3] }
  | _ => none }
def ModpolySquarefreeWrongFalsely : Prop := modpolySquarefreeRow.holds Tryd.pinned (OpenSpec.ofChange modpolySquarefreeWrong)

/-- 'cylinderlaw10.ModpolyDivide': WHATEVER THE INPUT: true; the input reads as it did. -/
def modpolyDivideSpec : ChangeSpec := { name := "modpolyDivide", fn := fun _ => fun
  | [d1, d2, d3] => { results := [.lit (.bool true)], args := [d1, d2, d3] }
  | _ => none }
def modpolyDivideRow : OpenClaim := { program := "ytnjkjmhhjooijaadoor", sum := "20c56ff61e34b6fd4ee77239696220c6ba6dec17a941b41e5f3fe440742f96fa", func := "cylinder/cylinderlaw10.ModpolyDivide", spec := "modpolyDivide", unfollowed := true, recurses := true, named := ["math/bits.deBruijn32tab"], apart := false, laid := [("math/bits.deBruijn32tab", laid_math_bits_deBruijn32tab)] }
def ModpolyDivideSaid : Prop := modpolyDivideRow.holds Tryd.pinned (OpenSpec.ofChange modpolyDivideSpec)

/-- ITS FALSE NEIGHBOUR: 'it returns false'. Refute it at one input. -/
def modpolyDivideWrong : ChangeSpec := { name := "modpolyDivide", fn := fun _ => fun
  | [d1, d2, d3] => { results := [.lit (.bool false)], args := [d1, d2, d3] }
  | _ => none }
def ModpolyDivideWrongFalsely : Prop := modpolyDivideRow.holds Tryd.pinned (OpenSpec.ofChange modpolyDivideWrong)

/-- 'cylinderlaw10.ModpolyIrreducible': WHATEVER THE INPUT: true; the input reads as it did. -/
def modpolyIrreducibleSpec : ChangeSpec := { name := "modpolyIrreducible", fn := fun _ => fun
  | [d1, d2] => { results := [.lit (.bool true)], args := [d1, d2] }
  | _ => none }
def modpolyIrreducibleRow : OpenClaim := { program := "ytnjkjmhhjooijaadoor", sum := "20c56ff61e34b6fd4ee77239696220c6ba6dec17a941b41e5f3fe440742f96fa", func := "cylinder/cylinderlaw10.ModpolyIrreducible", spec := "modpolyIrreducible", unfollowed := true, recurses := true, named := ["math/bits.deBruijn32tab"], apart := false, laid := [("math/bits.deBruijn32tab", laid_math_bits_deBruijn32tab)] }
def ModpolyIrreducibleSaid : Prop := modpolyIrreducibleRow.holds Tryd.pinned (OpenSpec.ofChange modpolyIrreducibleSpec)

/-- ITS FALSE NEIGHBOUR: 'it returns false'. Refute it at one input. -/
def modpolyIrreducibleWrong : ChangeSpec := { name := "modpolyIrreducible", fn := fun _ => fun
  | [d1, d2] => { results := [.lit (.bool false)], args := [d1, d2] }
  | _ => none }
def ModpolyIrreducibleWrongFalsely : Prop := modpolyIrreducibleRow.holds Tryd.pinned (OpenSpec.ofChange modpolyIrreducibleWrong)

/-- 'cylinderlaw10.ModpolyPower': WHATEVER THE INPUT: true; the input reads as it did. -/
def modpolyPowerSpec : ChangeSpec := { name := "modpolyPower", fn := fun _ => fun
  | [d1, d2, d3] => { results := [.lit (.bool true)], args := [d1, d2, d3] }
  | _ => none }
def modpolyPowerRow : OpenClaim := { program := "ytnjkjmhhjooijaadoor", sum := "20c56ff61e34b6fd4ee77239696220c6ba6dec17a941b41e5f3fe440742f96fa", func := "cylinder/cylinderlaw10.ModpolyPower", spec := "modpolyPower", unfollowed := true, recurses := true, named := ["math/bits.deBruijn32tab"], apart := false, laid := [("math/bits.deBruijn32tab", laid_math_bits_deBruijn32tab)] }
def ModpolyPowerSaid : Prop := modpolyPowerRow.holds Tryd.pinned (OpenSpec.ofChange modpolyPowerSpec)

/-- ITS FALSE NEIGHBOUR: 'it returns false'. Refute it at one input. -/
def modpolyPowerWrong : ChangeSpec := { name := "modpolyPower", fn := fun _ => fun
  | [d1, d2, d3] => { results := [.lit (.bool false)], args := [d1, d2, d3] }
  | _ => none }
def ModpolyPowerWrongFalsely : Prop := modpolyPowerRow.holds Tryd.pinned (OpenSpec.ofChange modpolyPowerWrong)

/-- 'cylinderlaw10.ModpolyFrobenius': WHATEVER THE INPUT: true; the input reads as it did. -/
def modpolyFrobeniusSpec : ChangeSpec := { name := "modpolyFrobenius", fn := fun _ => fun
  | [d1, d2] => { results := [.lit (.bool true)], args := [d1, d2] }
  | _ => none }
def modpolyFrobeniusRow : OpenClaim := { program := "ytnjkjmhhjooijaadoor", sum := "20c56ff61e34b6fd4ee77239696220c6ba6dec17a941b41e5f3fe440742f96fa", func := "cylinder/cylinderlaw10.ModpolyFrobenius", spec := "modpolyFrobenius", unfollowed := true, recurses := true, named := ["math/bits.deBruijn32tab"], apart := false, laid := [("math/bits.deBruijn32tab", laid_math_bits_deBruijn32tab)] }
def ModpolyFrobeniusSaid : Prop := modpolyFrobeniusRow.holds Tryd.pinned (OpenSpec.ofChange modpolyFrobeniusSpec)

/-- ITS FALSE NEIGHBOUR: 'it returns false'. Refute it at one input. -/
def modpolyFrobeniusWrong : ChangeSpec := { name := "modpolyFrobenius", fn := fun _ => fun
  | [d1, d2] => { results := [.lit (.bool false)], args := [d1, d2] }
  | _ => none }
def ModpolyFrobeniusWrongFalsely : Prop := modpolyFrobeniusRow.holds Tryd.pinned (OpenSpec.ofChange modpolyFrobeniusWrong)

/-- 'cylinderlaw10.ModpolyFactors': WHATEVER THE INPUT: true; the input reads as it did. -/
def modpolyFactorsSpec : ChangeSpec := { name := "modpolyFactors", fn := fun _ => fun
  | [d1, d2] => { results := [.lit (.bool true)], args := [d1, d2] }
  | _ => none }
def modpolyFactorsRow : OpenClaim := { program := "ytnjkjmhhjooijaadoor", sum := "20c56ff61e34b6fd4ee77239696220c6ba6dec17a941b41e5f3fe440742f96fa", func := "cylinder/cylinderlaw10.ModpolyFactors", spec := "modpolyFactors", unfollowed := true, recurses := true, named := ["math/bits.deBruijn32tab"], apart := false, laid := [("math/bits.deBruijn32tab", laid_math_bits_deBruijn32tab)] }
def ModpolyFactorsSaid : Prop := modpolyFactorsRow.holds Tryd.pinned (OpenSpec.ofChange modpolyFactorsSpec)

/-- ITS FALSE NEIGHBOUR: 'it returns false'. Refute it at one input. -/
def modpolyFactorsWrong : ChangeSpec := { name := "modpolyFactors", fn := fun _ => fun
  | [d1, d2] => { results := [.lit (.bool false)], args := [d1, d2] }
  | _ => none }
def ModpolyFactorsWrongFalsely : Prop := modpolyFactorsRow.holds Tryd.pinned (OpenSpec.ofChange modpolyFactorsWrong)

/-- 'cylinderlaw10.ModpolyGcd': WHATEVER THE INPUT: true; the input reads as it did. -/
def modpolyGcdSpec : ChangeSpec := { name := "modpolyGcd", fn := fun _ => fun
  | [d1, d2] => { results := [.lit (.bool true)], args := [d1, d2] }
  | _ => none }
def modpolyGcdRow : OpenClaim := { program := "ytnjkjmhhjooijaadoor", sum := "20c56ff61e34b6fd4ee77239696220c6ba6dec17a941b41e5f3fe440742f96fa", func := "cylinder/cylinderlaw10.ModpolyGcd", spec := "modpolyGcd", unfollowed := true, recurses := true, named := ["math/bits.deBruijn32tab"], apart := false, laid := [("math/bits.deBruijn32tab", laid_math_bits_deBruijn32tab)] }
def ModpolyGcdSaid : Prop := modpolyGcdRow.holds Tryd.pinned (OpenSpec.ofChange modpolyGcdSpec)

/-- ITS FALSE NEIGHBOUR: 'it returns false'. Refute it at one input. -/
def modpolyGcdWrong : ChangeSpec := { name := "modpolyGcd", fn := fun _ => fun
  | [d1, d2] => { results := [.lit (.bool false)], args := [d1, d2] }
  | _ => none }
def ModpolyGcdWrongFalsely : Prop := modpolyGcdRow.holds Tryd.pinned (OpenSpec.ofChange modpolyGcdWrong)

/-- 'cylinderlaw10.ModpolyReduce': WHATEVER THE INPUT: true; the input reads as it did. -/
def modpolyReduceSpec : ChangeSpec := { name := "modpolyReduce", fn := fun _ => fun
  | [d1, d2] => { results := [.lit (.bool true)], args := [d1, d2] }
  | _ => none }
def modpolyReduceRow : OpenClaim := { program := "ytnjkjmhhjooijaadoor", sum := "20c56ff61e34b6fd4ee77239696220c6ba6dec17a941b41e5f3fe440742f96fa", func := "cylinder/cylinderlaw10.ModpolyReduce", spec := "modpolyReduce", unfollowed := true, recurses := true, named := ["math/bits.deBruijn32tab", "math/bits.overflowError"], apart := false, laid := [("math/bits.deBruijn32tab", laid_math_bits_deBruijn32tab)] }
def ModpolyReduceSaid : Prop := modpolyReduceRow.holds Tryd.pinned (OpenSpec.ofChange modpolyReduceSpec)

/-- ITS FALSE NEIGHBOUR: 'it returns false'. Refute it at one input. -/
def modpolyReduceWrong : ChangeSpec := { name := "modpolyReduce", fn := fun _ => fun
  | [d1, d2] => { results := [.lit (.bool false)], args := [d1, d2] }
  | _ => none }
def ModpolyReduceWrongFalsely : Prop := modpolyReduceRow.holds Tryd.pinned (OpenSpec.ofChange modpolyReduceWrong)

/- THE SECOND FORM. 'bulk': how many values and letters a reading holds, each counted each time it is reached (what is shared counts as often as it is met; a slice's spare places count too). A statement '..UptoSaid' is the law's where the arguments, and the package variables that the reading takes, are together of bulk at most 1048576: NARROWER than '..Said'. Prove '..Said' where nothing that the law and all that it calls make is longer than what came in: it says more and counts as full. Else prove '..UptoSaid'. A law counts once. -/
mutual
def uptoBulk {H : Type} : DataW H → Nat
  | .lit (.string bytes) => bytes.length + 1
  | .lit _ => 1
  | .nil => 1
  | .ptr d => uptoBulk d + 1
  | .slice elems spare => uptoBulkAll elems + uptoBulkAll spare + 1
  | .agg parts => uptoBulkAll parts + 1
  | .iface _ d => uptoBulk d + 1
  | .map entries => uptoBulkEntries entries + 1
  | .held _ => 1
def uptoBulkAll {H : Type} : List (DataW H) → Nat
  | [] => 0
  | d :: r => uptoBulk d + uptoBulkAll r
def uptoBulkEntries {H : Type} : List (Lit × DataW H) → Nat
  | [] => 0
  | x :: r => uptoBulkEntry x + uptoBulkEntries r
def uptoBulkEntry {H : Type} : Lit × DataW H → Nat
  | (.string bytes, d) => bytes.length + uptoBulk d + 1
  | (_, d) => uptoBulk d + 1
 end
def uptoSmall : (H : Type) → List (DataW H) → Bool := fun _ ds => decide (uptoBulkAll ds ≤ 1048576)
def OpenSpec.upto (s : _root_.Go.ChangeSpec) : _root_.Go.OpenSpec := { _root_.Go.OpenSpec.ofChange s with cond := some uptoSmall }

/-- 'cylinderlaw10.ModpolyArithmetic', WHERE WHAT IT READS IS OF BULK AT MOST 1048576: true; the input reads as it did. -/
def modpolyArithmeticUptoRow : OpenClaim := { program := "ytnjkjmhhjooijaadoor", sum := "20c56ff61e34b6fd4ee77239696220c6ba6dec17a941b41e5f3fe440742f96fa", func := "cylinder/cylinderlaw10.ModpolyArithmetic", spec := "modpolyArithmetic", unfollowed := true, recurses := true, named := ["math/bits.deBruijn32tab"], apart := false, laid := [("math/bits.deBruijn32tab", laid_math_bits_deBruijn32tab)], narrowed := true }
def ModpolyArithmeticUptoSaid : Prop := modpolyArithmeticUptoRow.holds Tryd.pinned (OpenSpec.upto modpolyArithmeticSpec)

/-- 'cylinderlaw10.ModpolyValues', WHERE WHAT IT READS IS OF BULK AT MOST 1048576: true; the input reads as it did. -/
def modpolyValuesUptoRow : OpenClaim := { program := "ytnjkjmhhjooijaadoor", sum := "20c56ff61e34b6fd4ee77239696220c6ba6dec17a941b41e5f3fe440742f96fa", func := "cylinder/cylinderlaw10.ModpolyValues", spec := "modpolyValues", unfollowed := true, recurses := true, named := ["math/bits.deBruijn32tab"], apart := false, laid := [("math/bits.deBruijn32tab", laid_math_bits_deBruijn32tab)], narrowed := true }
def ModpolyValuesUptoSaid : Prop := modpolyValuesUptoRow.holds Tryd.pinned (OpenSpec.upto modpolyValuesSpec)

/-- 'cylinderlaw10.ModpolySquarefree', WHERE WHAT IT READS IS OF BULK AT MOST 1048576: true; the input reads as it did. -/
def modpolySquarefreeUptoRow : OpenClaim := { program := "ytnjkjmhhjooijaadoor", sum := "20c56ff61e34b6fd4ee77239696220c6ba6dec17a941b41e5f3fe440742f96fa", func := "cylinder/cylinderlaw10.ModpolySquarefree", spec := "modpolySquarefree", unfollowed := true, recurses := true, named := ["math/bits.deBruijn32tab"], apart := false, laid := [("math/bits.deBruijn32tab", laid_math_bits_deBruijn32tab)], narrowed := true }
def ModpolySquarefreeUptoSaid : Prop := modpolySquarefreeUptoRow.holds Tryd.pinned (OpenSpec.upto modpolySquarefreeSpec)

/-- 'cylinderlaw10.ModpolyDivide', WHERE WHAT IT READS IS OF BULK AT MOST 1048576: true; the input reads as it did. -/
def modpolyDivideUptoRow : OpenClaim := { program := "ytnjkjmhhjooijaadoor", sum := "20c56ff61e34b6fd4ee77239696220c6ba6dec17a941b41e5f3fe440742f96fa", func := "cylinder/cylinderlaw10.ModpolyDivide", spec := "modpolyDivide", unfollowed := true, recurses := true, named := ["math/bits.deBruijn32tab"], apart := false, laid := [("math/bits.deBruijn32tab", laid_math_bits_deBruijn32tab)], narrowed := true }
def ModpolyDivideUptoSaid : Prop := modpolyDivideUptoRow.holds Tryd.pinned (OpenSpec.upto modpolyDivideSpec)

/-- 'cylinderlaw10.ModpolyIrreducible', WHERE WHAT IT READS IS OF BULK AT MOST 1048576: true; the input reads as it did. -/
def modpolyIrreducibleUptoRow : OpenClaim := { program := "ytnjkjmhhjooijaadoor", sum := "20c56ff61e34b6fd4ee77239696220c6ba6dec17a941b41e5f3fe440742f96fa", func := "cylinder/cylinderlaw10.ModpolyIrreducible", spec := "modpolyIrreducible", unfollowed := true, recurses := true, named := ["math/bits.deBruijn32tab"], apart := false, laid := [("math/bits.deBruijn32tab", laid_math_bits_deBruijn32tab)], narrowed := true }
def ModpolyIrreducibleUptoSaid : Prop := modpolyIrreducibleUptoRow.holds Tryd.pinned (OpenSpec.upto modpolyIrreducibleSpec)

/-- 'cylinderlaw10.ModpolyPower', WHERE WHAT IT READS IS OF BULK AT MOST 1048576: true; the input reads as it did. -/
def modpolyPowerUptoRow : OpenClaim := { program := "ytnjkjmhhjooijaadoor", sum := "20c56ff61e34b6fd4ee77239696220c6ba6dec17a941b41e5f3fe440742f96fa", func := "cylinder/cylinderlaw10.ModpolyPower", spec := "modpolyPower", unfollowed := true, recurses := true, named := ["math/bits.deBruijn32tab"], apart := false, laid := [("math/bits.deBruijn32tab", laid_math_bits_deBruijn32tab)], narrowed := true }
def ModpolyPowerUptoSaid : Prop := modpolyPowerUptoRow.holds Tryd.pinned (OpenSpec.upto modpolyPowerSpec)

/-- 'cylinderlaw10.ModpolyFrobenius', WHERE WHAT IT READS IS OF BULK AT MOST 1048576: true; the input reads as it did. -/
def modpolyFrobeniusUptoRow : OpenClaim := { program := "ytnjkjmhhjooijaadoor", sum := "20c56ff61e34b6fd4ee77239696220c6ba6dec17a941b41e5f3fe440742f96fa", func := "cylinder/cylinderlaw10.ModpolyFrobenius", spec := "modpolyFrobenius", unfollowed := true, recurses := true, named := ["math/bits.deBruijn32tab"], apart := false, laid := [("math/bits.deBruijn32tab", laid_math_bits_deBruijn32tab)], narrowed := true }
def ModpolyFrobeniusUptoSaid : Prop := modpolyFrobeniusUptoRow.holds Tryd.pinned (OpenSpec.upto modpolyFrobeniusSpec)

/-- 'cylinderlaw10.ModpolyFactors', WHERE WHAT IT READS IS OF BULK AT MOST 1048576: true; the input reads as it did. -/
def modpolyFactorsUptoRow : OpenClaim := { program := "ytnjkjmhhjooijaadoor", sum := "20c56ff61e34b6fd4ee77239696220c6ba6dec17a941b41e5f3fe440742f96fa", func := "cylinder/cylinderlaw10.ModpolyFactors", spec := "modpolyFactors", unfollowed := true, recurses := true, named := ["math/bits.deBruijn32tab"], apart := false, laid := [("math/bits.deBruijn32tab", laid_math_bits_deBruijn32tab)], narrowed := true }
def ModpolyFactorsUptoSaid : Prop := modpolyFactorsUptoRow.holds Tryd.pinned (OpenSpec.upto modpolyFactorsSpec)

/-- 'cylinderlaw10.ModpolyGcd', WHERE WHAT IT READS IS OF BULK AT MOST 1048576: true; the input reads as it did. -/
def modpolyGcdUptoRow : OpenClaim := { program := "ytnjkjmhhjooijaadoor", sum := "20c56ff61e34b6fd4ee77239696220c6ba6dec17a941b41e5f3fe440742f96fa", func := "cylinder/cylinderlaw10.ModpolyGcd", spec := "modpolyGcd", unfollowed := true, recurses := true, named := ["math/bits.deBruijn32tab"], apart := false, laid := [("math/bits.deBruijn32tab", laid_math_bits_deBruijn32tab)], narrowed := true }
def ModpolyGcdUptoSaid : Prop := modpolyGcdUptoRow.holds Tryd.pinned (OpenSpec.upto modpolyGcdSpec)

/-- 'cylinderlaw10.ModpolyReduce', WHERE WHAT IT READS IS OF BULK AT MOST 1048576: true; the input reads as it did. -/
def modpolyReduceUptoRow : OpenClaim := { program := "ytnjkjmhhjooijaadoor", sum := "20c56ff61e34b6fd4ee77239696220c6ba6dec17a941b41e5f3fe440742f96fa", func := "cylinder/cylinderlaw10.ModpolyReduce", spec := "modpolyReduce", unfollowed := true, recurses := true, named := ["math/bits.deBruijn32tab", "math/bits.overflowError"], apart := false, laid := [("math/bits.deBruijn32tab", laid_math_bits_deBruijn32tab)], narrowed := true }
def ModpolyReduceUptoSaid : Prop := modpolyReduceUptoRow.holds Tryd.pinned (OpenSpec.upto modpolyReduceSpec)

end Rows
end Go.Proofs.YtnjkjmhhjooijaaDoor
