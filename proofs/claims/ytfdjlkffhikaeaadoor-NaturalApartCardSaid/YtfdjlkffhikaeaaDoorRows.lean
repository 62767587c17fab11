/-
  NARROWER THAN 'FOR EVERY INPUT', by the rows' own cells (each row's printed sentence says how): NaturalDivides: laid · NaturalExact: laid · NaturalOrders: laid · NaturalReads: laid · NaturalProducts: laid · NaturalSums: laid · NaturalRing: laid · NaturalPowers: laid · NaturalExponents: laid · NaturalDivisors: laid · NaturalRoots: laid · NaturalApart: laid.
  DERIVED. THE GIVEN ROWS OF THIS SEAT. 12 by the template 'for every input the law returns true; each argument reads behind the call as it read before'; 0 by the template 'total and deterministic' (their statements: YtfdjlkffhikaeaaDoorTotals.lean).
  GIVEN WITH THE SEED: the statements are not yours to turn. If you find one false, say at which input.
  Laid BY PROGRAM, IN A SANDBOX (cutbox-rows.mjs): the forced cells as the released guide's own fill.sh prints them over the translation cdcb73ed0559644e… (all of the seat's roots in one cut). By AI agents, Wed Nov 11 2026. No macro, syntax, notation, axiom, sorry.
-/
import Derived.Test.YtfdjlkffhikaeaaDoorChecked
import GoSem.Claim
import GoSem.ClaimJoined
import GoSem.ClaimMapViews
import Derived.JoinedTies
import Derived.KernelRfl
namespace Go.Proofs.YtfdjlkffhikaeaaDoor
/- THE CELL 'sum', in the pinned program and in every row, IS THE sha256 OF THE DUMP (.gsa) THAT YtfdjlkffhikaeaaDoorProg.lean LOADS. Nothing in Lean hashes anything: it is a label: what it is worth is what the hold of that sum in a sandbox is worth. -/
noncomputable def Tryd.pinned : Pinned := { name := "ytfdjlkffhikaeaadoor", sum := "cdcb73ed0559644e75a6043eae622f96cc5015c85acbd5dfd53f0bab7e85a5df", checked := Tryd.checked }
namespace Rows
def none {H : Type} : Left H := { results := [], args := [] }

/- WHAT THE LISTED PACKAGE-LEVEL VARIABLES READ AS WHEN THE CALL BEGINS. Each datum BY PROGRAM (the guide's laid-datum.mjs) off the statement by which the dump's own 'gosem.cut.vars' lays the variable. In a bare row this is a premise. The card (YtfdjlkffhikaeaaDoorCards.lean) ties it to the program's text. -/
def laid_math_bits_deBruijn32tab {H : Type} : DataW H := .agg [.lit (.int .u8 0), .lit (.int .u8 1), .lit (.int .u8 28), .lit (.int .u8 2), .lit (.int .u8 29), .lit (.int .u8 14), .lit (.int .u8 24), .lit (.int .u8 3), .lit (.int .u8 30), .lit (.int .u8 22), .lit (.int .u8 20), .lit (.int .u8 15), .lit (.int .u8 25), .lit (.int .u8 17), .lit (.int .u8 4), .lit (.int .u8 8), .lit (.int .u8 31), .lit (.int .u8 27), .lit (.int .u8 13), .lit (.int .u8 23), .lit (.int .u8 21), .lit (.int .u8 19), .lit (.int .u8 16), .lit (.int .u8 7), .lit (.int .u8 26), .lit (.int .u8 12), .lit (.int .u8 18), .lit (.int .u8 6), .lit (.int .u8 11), .lit (.int .u8 5), .lit (.int .u8 10), .lit (.int .u8 9)]
def laid_math_bits_deBruijn64tab {H : Type} : DataW H := .agg [.lit (.int .u8 0), .lit (.int .u8 1), .lit (.int .u8 56), .lit (.int .u8 2), .lit (.int .u8 57), .lit (.int .u8 49), .lit (.int .u8 28), .lit (.int .u8 3), .lit (.int .u8 61), .lit (.int .u8 58), .lit (.int .u8 42), .lit (.int .u8 50), .lit (.int .u8 38), .lit (.int .u8 29), .lit (.int .u8 17), .lit (.int .u8 4), .lit (.int .u8 62), .lit (.int .u8 47), .lit (.int .u8 59), .lit (.int .u8 36), .lit (.int .u8 45), .lit (.int .u8 43), .lit (.int .u8 51), .lit (.int .u8 22), .lit (.int .u8 53), .lit (.int .u8 39), .lit (.int .u8 33), .lit (.int .u8 30), .lit (.int .u8 24), .lit (.int .u8 18), .lit (.int .u8 12), .lit (.int .u8 5), .lit (.int .u8 63), .lit (.int .u8 55), .lit (.int .u8 48), .lit (.int .u8 27), .lit (.int .u8 60), .lit (.int .u8 41), .lit (.int .u8 37), .lit (.int .u8 16), .lit (.int .u8 46), .lit (.int .u8 35), .lit (.int .u8 44), .lit (.int .u8 21), .lit (.int .u8 52), .lit (.int .u8 32), .lit (.int .u8 23), .lit (.int .u8 11), .lit (.int .u8 54), .lit (.int .u8 26), .lit (.int .u8 40), .lit (.int .u8 15), .lit (.int .u8 34), .lit (.int .u8 20), .lit (.int .u8 31), .lit (.int .u8 10), .lit (.int .u8 25), .lit (.int .u8 14), .lit (.int .u8 19), .lit (.int .u8 9), .lit (.int .u8 13), .lit (.int .u8 8), .lit (.int .u8 7), .lit (.int .u8 6)]
def laid_internal_strconv_uint64pow10 {H : Type} : DataW H := .agg [.lit (.int .u64 1), .lit (.int .u64 10), .lit (.int .u64 100), .lit (.int .u64 1000), .lit (.int .u64 10000), .lit (.int .u64 100000), .lit (.int .u64 1000000), .lit (.int .u64 10000000), .lit (.int .u64 100000000), .lit (.int .u64 1000000000), .lit (.int .u64 10000000000), .lit (.int .u64 100000000000), .lit (.int .u64 1000000000000), .lit (.int .u64 10000000000000), .lit (.int .u64 100000000000000), .lit (.int .u64 1000000000000000), .lit (.int .u64 10000000000000000), .lit (.int .u64 100000000000000000), .lit (.int .u64 1000000000000000000), .lit (.int .u64 10000000000000000000)]

/-- 'priceofficelaw01.NaturalDivides': WHATEVER THE INPUT: true; the input reads as it did. -/
def naturalDividesSpec : ChangeSpec := { name := "naturalDivides", fn := fun _ => fun
  | [d1, d2] => { results := [.lit (.bool true)], args := [d1, d2] }
  | _ => none }
def naturalDividesRow : OpenClaim := { program := "ytfdjlkffhikaeaadoor", sum := "cdcb73ed0559644e75a6043eae622f96cc5015c85acbd5dfd53f0bab7e85a5df", func := "priceoffice/priceofficelaw01.NaturalDivides", spec := "naturalDivides", inPlace := ["internal/abi.NoEscape", "internal/bytealg.MakeNoZero"], named := ["internal/strconv.uint64pow10", "math/bits.deBruijn32tab", "math/bits.deBruijn64tab"], apart := false, laid := [("math/bits.deBruijn32tab", laid_math_bits_deBruijn32tab), ("math/bits.deBruijn64tab", laid_math_bits_deBruijn64tab), ("internal/strconv.uint64pow10", laid_internal_strconv_uint64pow10)] }
def NaturalDividesSaid : Prop := naturalDividesRow.holds Tryd.pinned (OpenSpec.ofChange naturalDividesSpec)

/-- ITS FALSE NEIGHBOUR: 'it returns false'. Refute it at one input. -/
def naturalDividesWrong : ChangeSpec := { name := "naturalDivides", fn := fun _ => fun
  | [d1, d2] => { results := [.lit (.bool false)], args := [d1, d2] }
  | _ => none }
def NaturalDividesWrongFalsely : Prop := naturalDividesRow.holds Tryd.pinned (OpenSpec.ofChange naturalDividesWrong)

/-- 'priceofficelaw01.NaturalExact': WHATEVER THE INPUT: true; the input reads as it did. -/
def naturalExactSpec : ChangeSpec := { name := "naturalExact", fn := fun _ => fun
  | [d1, d2] => { results := [.lit (.bool true)], args := [d1, d2] }
  | _ => none }
def naturalExactRow : OpenClaim := { program := "ytfdjlkffhikaeaadoor", sum := "cdcb73ed0559644e75a6043eae622f96cc5015c85acbd5dfd53f0bab7e85a5df", func := "priceoffice/priceofficelaw01.NaturalExact", spec := "naturalExact", inPlace := ["internal/abi.NoEscape", "internal/bytealg.MakeNoZero"], named := ["internal/strconv.uint64pow10", "math/bits.deBruijn32tab", "math/bits.deBruijn64tab"], apart := false, laid := [("math/bits.deBruijn32tab", laid_math_bits_deBruijn32tab), ("math/bits.deBruijn64tab", laid_math_bits_deBruijn64tab), ("internal/strconv.uint64pow10", laid_internal_strconv_uint64pow10)] }
def NaturalExactSaid : Prop := naturalExactRow.holds Tryd.pinned (OpenSpec.ofChange naturalExactSpec)

/-- ITS FALSE NEIGHBOUR: 'it returns false'. Refute it at one input. -/
def naturalExactWrong : ChangeSpec := { name := "naturalExact", fn := fun _ => fun
  | [d1, d2] => { results := [.lit (.bool false)], args := [d1, d2] }
  | _ => none }
def NaturalExactWrongFalsely : Prop := naturalExactRow.holds Tryd.pinned (OpenSpec.ofChange naturalExactWrong)

/-- 'priceofficelaw01.NaturalOrders': WHATEVER THE INPUT: true; the input reads as it did. -/
def naturalOrdersSpec : ChangeSpec := { name := "naturalOrders", fn := fun _ => fun
  | [d1, d2, d3] => { results := [.lit (.bool true)], args := [d1, d2, d3] }
  | _ => none }
def naturalOrdersRow : OpenClaim := { program := "ytfdjlkffhikaeaadoor", sum := "cdcb73ed0559644e75a6043eae622f96cc5015c85acbd5dfd53f0bab7e85a5df", func := "priceoffice/priceofficelaw01.NaturalOrders", spec := "naturalOrders", inPlace := ["internal/abi.NoEscape", "internal/bytealg.MakeNoZero"], named := ["internal/strconv.uint64pow10", "math/bits.deBruijn32tab", "math/bits.deBruijn64tab"], apart := false, laid := [("math/bits.deBruijn32tab", laid_math_bits_deBruijn32tab), ("math/bits.deBruijn64tab", laid_math_bits_deBruijn64tab), ("internal/strconv.uint64pow10", laid_internal_strconv_uint64pow10)] }
def NaturalOrdersSaid : Prop := naturalOrdersRow.holds Tryd.pinned (OpenSpec.ofChange naturalOrdersSpec)

/-- ITS FALSE NEIGHBOUR: 'it returns false'. Refute it at one input. -/
def naturalOrdersWrong : ChangeSpec := { name := "naturalOrders", fn := fun _ => fun
  | [d1, d2, d3] => { results := [.lit (.bool false)], args := [d1, d2, d3] }
  | _ => none }
def NaturalOrdersWrongFalsely : Prop := naturalOrdersRow.holds Tryd.pinned (OpenSpec.ofChange naturalOrdersWrong)

/-- 'priceofficelaw01.NaturalReads': WHATEVER THE INPUT: true; the input reads as it did. -/
def naturalReadsSpec : ChangeSpec := { name := "naturalReads", fn := fun _ => fun
  | [d1, d2] => { results := [.lit (.bool true)], args := [d1, d2] }
  | _ => none }
def naturalReadsRow : OpenClaim := { program := "ytfdjlkffhikaeaadoor", sum := "cdcb73ed0559644e75a6043eae622f96cc5015c85acbd5dfd53f0bab7e85a5df", func := "priceoffice/priceofficelaw01.NaturalReads", spec := "naturalReads", inPlace := ["internal/abi.NoEscape", "internal/bytealg.MakeNoZero"], named := ["internal/strconv.uint64pow10", "math/bits.deBruijn32tab", "math/bits.deBruijn64tab"], apart := false, laid := [("math/bits.deBruijn32tab", laid_math_bits_deBruijn32tab), ("math/bits.deBruijn64tab", laid_math_bits_deBruijn64tab), ("internal/strconv.uint64pow10", laid_internal_strconv_uint64pow10)] }
def NaturalReadsSaid : Prop := naturalReadsRow.holds Tryd.pinned (OpenSpec.ofChange naturalReadsSpec)

/-- ITS FALSE NEIGHBOUR: 'it returns false'. Refute it at one input. -/
def naturalReadsWrong : ChangeSpec := { name := "naturalReads", fn := fun _ => fun
  | [d1, d2] => { results := [.lit (.bool false)], args := [d1, d2] }
  | _ => none }
def NaturalReadsWrongFalsely : Prop := naturalReadsRow.holds Tryd.pinned (OpenSpec.ofChange naturalReadsWrong)

/-- 'priceofficelaw01.NaturalProducts': WHATEVER THE INPUT: true; the input reads as it did. -/
def naturalProductsSpec : ChangeSpec := { name := "naturalProducts", fn := fun _ => fun
  | [d1, d2] => { results := [.lit (.bool true)], args := [d1, d2] }
  | _ => none }
def naturalProductsRow : OpenClaim := { program := "ytfdjlkffhikaeaadoor", sum := "cdcb73ed0559644e75a6043eae622f96cc5015c85acbd5dfd53f0bab7e85a5df", func := "priceoffice/priceofficelaw01.NaturalProducts", spec := "naturalProducts", inPlace := ["internal/abi.NoEscape", "internal/bytealg.MakeNoZero"], named := ["internal/strconv.uint64pow10", "math/bits.deBruijn32tab", "math/bits.deBruijn64tab"], apart := false, laid := [("math/bits.deBruijn32tab", laid_math_bits_deBruijn32tab), ("math/bits.deBruijn64tab", laid_math_bits_deBruijn64tab), ("internal/strconv.uint64pow10", laid_internal_strconv_uint64pow10)] }
def NaturalProductsSaid : Prop := naturalProductsRow.holds Tryd.pinned (OpenSpec.ofChange naturalProductsSpec)

/-- ITS FALSE NEIGHBOUR: 'it returns false'. Refute it at one input. -/
def naturalProductsWrong : ChangeSpec := { name := "naturalProducts", fn := fun _ => fun
  | [d1, d2] => { results := [.lit (.bool false)], args := [d1, d2] }
  | _ => none }
def NaturalProductsWrongFalsely : Prop := naturalProductsRow.holds Tryd.pinned (OpenSpec.ofChange naturalProductsWrong)

/-- 'priceofficelaw01.NaturalSums': WHATEVER THE INPUT: true; the input reads as it did. -/
def naturalSumsSpec : ChangeSpec := { name := "naturalSums", fn := fun _ => fun
  | [d1, d2] => { results := [.lit (.bool true)], args := [d1, d2] }
  | _ => none }
def naturalSumsRow : OpenClaim := { program := "ytfdjlkffhikaeaadoor", sum := "cdcb73ed0559644e75a6043eae622f96cc5015c85acbd5dfd53f0bab7e85a5df", func := "priceoffice/priceofficelaw01.NaturalSums", spec := "naturalSums", inPlace := ["internal/abi.NoEscape", "internal/bytealg.MakeNoZero"], named := ["internal/strconv.uint64pow10", "math/bits.deBruijn32tab", "math/bits.deBruijn64tab"], apart := false, laid := [("math/bits.deBruijn32tab", laid_math_bits_deBruijn32tab), ("math/bits.deBruijn64tab", laid_math_bits_deBruijn64tab), ("internal/strconv.uint64pow10", laid_internal_strconv_uint64pow10)] }
def NaturalSumsSaid : Prop := naturalSumsRow.holds Tryd.pinned (OpenSpec.ofChange naturalSumsSpec)

/-- ITS FALSE NEIGHBOUR: 'it returns false'. Refute it at one input. -/
def naturalSumsWrong : ChangeSpec := { name := "naturalSums", fn := fun _ => fun
  | [d1, d2] => { results := [.lit (.bool false)], args := [d1, d2] }
  | _ => none }
def NaturalSumsWrongFalsely : Prop := naturalSumsRow.holds Tryd.pinned (OpenSpec.ofChange naturalSumsWrong)

/-- 'priceofficelaw01.NaturalRing': WHATEVER THE INPUT: true; the input reads as it did. -/
def naturalRingSpec : ChangeSpec := { name := "naturalRing", fn := fun _ => fun
  | [d1, d2, d3] => { results := [.lit (.bool true)], args := [d1, d2, d3] }
  | _ => none }
def naturalRingRow : OpenClaim := { program := "ytfdjlkffhikaeaadoor", sum := "cdcb73ed0559644e75a6043eae622f96cc5015c85acbd5dfd53f0bab7e85a5df", func := "priceoffice/priceofficelaw01.NaturalRing", spec := "naturalRing", inPlace := ["internal/abi.NoEscape", "internal/bytealg.MakeNoZero"], named := ["internal/strconv.uint64pow10", "math/bits.deBruijn32tab", "math/bits.deBruijn64tab"], apart := false, laid := [("math/bits.deBruijn32tab", laid_math_bits_deBruijn32tab), ("math/bits.deBruijn64tab", laid_math_bits_deBruijn64tab), ("internal/strconv.uint64pow10", laid_internal_strconv_uint64pow10)] }
def NaturalRingSaid : Prop := naturalRingRow.holds Tryd.pinned (OpenSpec.ofChange naturalRingSpec)

/-- ITS FALSE NEIGHBOUR: 'it returns false'. Refute it at one input. -/
def naturalRingWrong : ChangeSpec := { name := "naturalRing", fn := fun _ => fun
  | [d1, d2, d3] => { results := [.lit (.bool false)], args := [d1, d2, d3] }
  | _ => none }
def NaturalRingWrongFalsely : Prop := naturalRingRow.holds Tryd.pinned (OpenSpec.ofChange naturalRingWrong)

/-- 'priceofficelaw01.NaturalPowers': WHATEVER THE INPUT: true; the input reads as it did. -/
def naturalPowersSpec : ChangeSpec := { name := "naturalPowers", fn := fun _ => fun
  | [d1, d2] => { results := [.lit (.bool true)], args := [d1, d2] }
  | _ => none }
def naturalPowersRow : OpenClaim := { program := "ytfdjlkffhikaeaadoor", sum := "cdcb73ed0559644e75a6043eae622f96cc5015c85acbd5dfd53f0bab7e85a5df", func := "priceoffice/priceofficelaw01.NaturalPowers", spec := "naturalPowers", inPlace := ["internal/abi.NoEscape", "internal/bytealg.MakeNoZero"], named := ["internal/strconv.uint64pow10", "math/bits.deBruijn32tab", "math/bits.deBruijn64tab"], apart := false, laid := [("math/bits.deBruijn32tab", laid_math_bits_deBruijn32tab), ("math/bits.deBruijn64tab", laid_math_bits_deBruijn64tab), ("internal/strconv.uint64pow10", laid_internal_strconv_uint64pow10)] }
def NaturalPowersSaid : Prop := naturalPowersRow.holds Tryd.pinned (OpenSpec.ofChange naturalPowersSpec)

/-- ITS FALSE NEIGHBOUR: 'it returns false'. Refute it at one input. -/
def naturalPowersWrong : ChangeSpec := { name := "naturalPowers", fn := fun _ => fun
  | [d1, d2] => { results := [.lit (.bool false)], args := [d1, d2] }
  | _ => none }
def NaturalPowersWrongFalsely : Prop := naturalPowersRow.holds Tryd.pinned (OpenSpec.ofChange naturalPowersWrong)

/-- 'priceofficelaw01.NaturalExponents': WHATEVER THE INPUT: true; the input reads as it did. -/
def naturalExponentsSpec : ChangeSpec := { name := "naturalExponents", fn := fun _ => fun
  | [d1, d2, d3] => { results := [.lit (.bool true)], args := [d1, d2, d3] }
  | _ => none }
def naturalExponentsRow : OpenClaim := { program := "ytfdjlkffhikaeaadoor", sum := "cdcb73ed0559644e75a6043eae622f96cc5015c85acbd5dfd53f0bab7e85a5df", func := "priceoffice/priceofficelaw01.NaturalExponents", spec := "naturalExponents", inPlace := ["internal/abi.NoEscape", "internal/bytealg.MakeNoZero"], named := ["internal/strconv.uint64pow10", "math/bits.deBruijn32tab", "math/bits.deBruijn64tab"], apart := false, laid := [("math/bits.deBruijn32tab", laid_math_bits_deBruijn32tab), ("math/bits.deBruijn64tab", laid_math_bits_deBruijn64tab), ("internal/strconv.uint64pow10", laid_internal_strconv_uint64pow10)] }
def NaturalExponentsSaid : Prop := naturalExponentsRow.holds Tryd.pinned (OpenSpec.ofChange naturalExponentsSpec)

/-- ITS FALSE NEIGHBOUR: 'it returns false'. Refute it at one input. -/
def naturalExponentsWrong : ChangeSpec := { name := "naturalExponents", fn := fun _ => fun
  | [d1, d2, d3] => { results := [.lit (.bool false)], args := [d1, d2, d3] }
  | _ => none }
def NaturalExponentsWrongFalsely : Prop := naturalExponentsRow.holds Tryd.pinned (OpenSpec.ofChange naturalExponentsWrong)

/-- 'priceofficelaw01.NaturalDivisors': WHATEVER THE INPUT: true; the input reads as it did. -/
def naturalDivisorsSpec : ChangeSpec := { name := "naturalDivisors", fn := fun _ => fun
  | [d1, d2, d3] => { results := [.lit (.bool true)], args := [d1, d2, d3] }
  | _ => none }
def naturalDivisorsRow : OpenClaim := { program := "ytfdjlkffhikaeaadoor", sum := "cdcb73ed0559644e75a6043eae622f96cc5015c85acbd5dfd53f0bab7e85a5df", func := "priceoffice/priceofficelaw01.NaturalDivisors", spec := "naturalDivisors", inPlace := ["internal/abi.NoEscape", "internal/bytealg.MakeNoZero"], named := ["internal/strconv.uint64pow10", "math/bits.deBruijn32tab", "math/bits.deBruijn64tab"], apart := false, laid := [("math/bits.deBruijn32tab", laid_math_bits_deBruijn32tab), ("math/bits.deBruijn64tab", laid_math_bits_deBruijn64tab), ("internal/strconv.uint64pow10", laid_internal_strconv_uint64pow10)] }
def NaturalDivisorsSaid : Prop := naturalDivisorsRow.holds Tryd.pinned (OpenSpec.ofChange naturalDivisorsSpec)

/-- ITS FALSE NEIGHBOUR: 'it returns false'. Refute it at one input. -/
def naturalDivisorsWrong : ChangeSpec := { name := "naturalDivisors", fn := fun _ => fun
  | [d1, d2, d3] => { results := [.lit (.bool false)], args := [d1, d2, d3] }
  | _ => none }
def NaturalDivisorsWrongFalsely : Prop := naturalDivisorsRow.holds Tryd.pinned (OpenSpec.ofChange naturalDivisorsWrong)

/-- 'priceofficelaw01.NaturalRoots': WHATEVER THE INPUT: true; the input reads as it did. -/
def naturalRootsSpec : ChangeSpec := { name := "naturalRoots", fn := fun _ => fun
  | [d1, d2] => { results := [.lit (.bool true)], args := [d1, d2] }
  | _ => none }
def naturalRootsRow : OpenClaim := { program := "ytfdjlkffhikaeaadoor", sum := "cdcb73ed0559644e75a6043eae622f96cc5015c85acbd5dfd53f0bab7e85a5df", func := "priceoffice/priceofficelaw01.NaturalRoots", spec := "naturalRoots", inPlace := ["internal/abi.NoEscape", "internal/bytealg.MakeNoZero"], recurses := true, named := ["internal/strconv.uint64pow10", "math/bits.deBruijn32tab", "math/bits.deBruijn64tab"], apart := false, laid := [("math/bits.deBruijn32tab", laid_math_bits_deBruijn32tab), ("math/bits.deBruijn64tab", laid_math_bits_deBruijn64tab), ("internal/strconv.uint64pow10", laid_internal_strconv_uint64pow10)] }
def NaturalRootsSaid : Prop := naturalRootsRow.holds Tryd.pinned (OpenSpec.ofChange naturalRootsSpec)

/-- ITS FALSE NEIGHBOUR: 'it returns false'. Refute it at one input. -/
def naturalRootsWrong : ChangeSpec := { name := "naturalRoots", fn := fun _ => fun
  | [d1, d2] => { results := [.lit (.bool false)], args := [d1, d2] }
  | _ => none }
def NaturalRootsWrongFalsely : Prop := naturalRootsRow.holds Tryd.pinned (OpenSpec.ofChange naturalRootsWrong)

/-- 'priceofficelaw01.NaturalApart': WHATEVER THE INPUT: true; the input reads as it did. -/
def naturalApartSpec : ChangeSpec := { name := "naturalApart", fn := fun _ => fun
  | [d1, d2] => { results := [.lit (.bool true)], args := [d1, d2] }
  | _ => none }
def naturalApartRow : OpenClaim := { program := "ytfdjlkffhikaeaadoor", sum := "cdcb73ed0559644e75a6043eae622f96cc5015c85acbd5dfd53f0bab7e85a5df", func := "priceoffice/priceofficelaw01.NaturalApart", spec := "naturalApart", inPlace := ["internal/abi.NoEscape", "internal/bytealg.MakeNoZero"], named := ["internal/strconv.uint64pow10", "math/bits.deBruijn32tab", "math/bits.deBruijn64tab"], apart := false, laid := [("math/bits.deBruijn32tab", laid_math_bits_deBruijn32tab), ("math/bits.deBruijn64tab", laid_math_bits_deBruijn64tab), ("internal/strconv.uint64pow10", laid_internal_strconv_uint64pow10)] }
def NaturalApartSaid : Prop := naturalApartRow.holds Tryd.pinned (OpenSpec.ofChange naturalApartSpec)

/-- ITS FALSE NEIGHBOUR: 'it returns false'. Refute it at one input. -/
def naturalApartWrong : ChangeSpec := { name := "naturalApart", fn := fun _ => fun
  | [d1, d2] => { results := [.lit (.bool false)], args := [d1, d2] }
  | _ => none }
def NaturalApartWrongFalsely : Prop := naturalApartRow.holds Tryd.pinned (OpenSpec.ofChange naturalApartWrong)

/- THE SECOND FORM. 'bulk': how many values and letters a reading holds, each counted each time it is reached (what is shared counts as often as it is met; a slice's spare places count too). A statement '..UptoSaid' is the law's where the arguments, and the package variables that the reading takes, are together of bulk at most 1048576: NARROWER than '..Said'. Prove '..Said' where nothing that the law and all that it calls make is longer than what came in: it says more and counts as full. Else prove '..UptoSaid'. A law counts once. -/
mutual
def uptoBulk {H : Type} : DataW H → Nat
  | .lit (.string bytes) => bytes.length + 1
  | .lit _ => 1
  | .nil => 1
  | .ptr d => uptoBulk d + 1
  | .slice elems spare => uptoBulkAll elems + uptoBulkAll spare + 1
  | .agg parts => uptoBulkAll parts + 1
  | .iface _ d => uptoBulk d + 1
  | .map entries => uptoBulkEntries entries + 1
  | .held _ => 1
def uptoBulkAll {H : Type} : List (DataW H) → Nat
  | [] => 0
  | d :: r => uptoBulk d + uptoBulkAll r
def uptoBulkEntries {H : Type} : List (Lit × DataW H) → Nat
  | [] => 0
  | x :: r => uptoBulkEntry x + uptoBulkEntries r
def uptoBulkEntry {H : Type} : Lit × DataW H → Nat
  | (.string bytes, d) => bytes.length + uptoBulk d + 1
  | (_, d) => uptoBulk d + 1
 end
def uptoSmall : (H : Type) → List (DataW H) → Bool := fun _ ds => decide (uptoBulkAll ds ≤ 1048576)
def OpenSpec.upto (s : _root_.Go.ChangeSpec) : _root_.Go.OpenSpec := { _root_.Go.OpenSpec.ofChange s with cond := some uptoSmall }

/-- 'priceofficelaw01.NaturalDivides', WHERE WHAT IT READS IS OF BULK AT MOST 1048576: true; the input reads as it did. -/
def naturalDividesUptoRow : OpenClaim := { program := "ytfdjlkffhikaeaadoor", sum := "cdcb73ed0559644e75a6043eae622f96cc5015c85acbd5dfd53f0bab7e85a5df", func := "priceoffice/priceofficelaw01.NaturalDivides", spec := "naturalDivides", inPlace := ["internal/abi.NoEscape", "internal/bytealg.MakeNoZero"], named := ["internal/strconv.uint64pow10", "math/bits.deBruijn32tab", "math/bits.deBruijn64tab"], apart := false, laid := [("math/bits.deBruijn32tab", laid_math_bits_deBruijn32tab), ("math/bits.deBruijn64tab", laid_math_bits_deBruijn64tab), ("internal/strconv.uint64pow10", laid_internal_strconv_uint64pow10)], narrowed := true }
def NaturalDividesUptoSaid : Prop := naturalDividesUptoRow.holds Tryd.pinned (OpenSpec.upto naturalDividesSpec)

/-- 'priceofficelaw01.NaturalExact', WHERE WHAT IT READS IS OF BULK AT MOST 1048576: true; the input reads as it did. -/
def naturalExactUptoRow : OpenClaim := { program := "ytfdjlkffhikaeaadoor", sum := "cdcb73ed0559644e75a6043eae622f96cc5015c85acbd5dfd53f0bab7e85a5df", func := "priceoffice/priceofficelaw01.NaturalExact", spec := "naturalExact", inPlace := ["internal/abi.NoEscape", "internal/bytealg.MakeNoZero"], named := ["internal/strconv.uint64pow10", "math/bits.deBruijn32tab", "math/bits.deBruijn64tab"], apart := false, laid := [("math/bits.deBruijn32tab", laid_math_bits_deBruijn32tab), ("math/bits.deBruijn64tab", laid_math_bits_deBruijn64tab), ("internal/strconv.uint64pow10", laid_internal_strconv_uint64pow10)], narrowed := true }
def NaturalExactUptoSaid : Prop := naturalExactUptoRow.holds Tryd.pinned (OpenSpec.upto naturalExactSpec)

/-- 'priceofficelaw01.NaturalOrders', WHERE WHAT IT READS IS OF BULK AT MOST 1048576: true; the input reads as it did. -/
def naturalOrdersUptoRow : OpenClaim := { program := "ytfdjlkffhikaeaadoor", sum := "cdcb73ed0559644e75a6043eae622f96cc5015c85acbd5dfd53f0bab7e85a5df", func := "priceoffice/priceofficelaw01.NaturalOrders", spec := "naturalOrders", inPlace := ["internal/abi.NoEscape", "internal/bytealg.MakeNoZero"], named := ["internal/strconv.uint64pow10", "math/bits.deBruijn32tab", "math/bits.deBruijn64tab"], apart := false, laid := [("math/bits.deBruijn32tab", laid_math_bits_deBruijn32tab), ("math/bits.deBruijn64tab", laid_math_bits_deBruijn64tab), ("internal/strconv.uint64pow10", laid_internal_strconv_uint64pow10)], narrowed := true }
def NaturalOrdersUptoSaid : Prop := naturalOrdersUptoRow.holds Tryd.pinned (OpenSpec.upto naturalOrdersSpec)

/-- 'priceofficelaw01.NaturalReads', WHERE WHAT IT READS IS OF BULK AT MOST 1048576: true; the input reads as it did. -/
def naturalReadsUptoRow : OpenClaim := { program := "ytfdjlkffhikaeaadoor", sum := "cdcb73ed0559644e75a6043eae622f96cc5015c85acbd5dfd53f0bab7e85a5df", func := "priceoffice/priceofficelaw01.NaturalReads", spec := "naturalReads", inPlace := ["internal/abi.NoEscape", "internal/bytealg.MakeNoZero"], named := ["internal/strconv.uint64pow10", "math/bits.deBruijn32tab", "math/bits.deBruijn64tab"], apart := false, laid := [("math/bits.deBruijn32tab", laid_math_bits_deBruijn32tab), ("math/bits.deBruijn64tab", laid_math_bits_deBruijn64tab), ("internal/strconv.uint64pow10", laid_internal_strconv_uint64pow10)], narrowed := true }
def NaturalReadsUptoSaid : Prop := naturalReadsUptoRow.holds Tryd.pinned (OpenSpec.upto naturalReadsSpec)

/-- 'priceofficelaw01.NaturalProducts', WHERE WHAT IT READS IS OF BULK AT MOST 1048576: true; the input reads as it did. -/
def naturalProductsUptoRow : OpenClaim := { program := "ytfdjlkffhikaeaadoor", sum := "cdcb73ed0559644e75a6043eae622f96cc5015c85acbd5dfd53f0bab7e85a5df", func := "priceoffice/priceofficelaw01.NaturalProducts", spec := "naturalProducts", inPlace := ["internal/abi.NoEscape", "internal/bytealg.MakeNoZero"], named := ["internal/strconv.uint64pow10", "math/bits.deBruijn32tab", "math/bits.deBruijn64tab"], apart := false, laid := [("math/bits.deBruijn32tab", laid_math_bits_deBruijn32tab), ("math/bits.deBruijn64tab", laid_math_bits_deBruijn64tab), ("internal/strconv.uint64pow10", laid_internal_strconv_uint64pow10)], narrowed := true }
def NaturalProductsUptoSaid : Prop := naturalProductsUptoRow.holds Tryd.pinned (OpenSpec.upto naturalProductsSpec)

/-- 'priceofficelaw01.NaturalSums', WHERE WHAT IT READS IS OF BULK AT MOST 1048576: true; the input reads as it did. -/
def naturalSumsUptoRow : OpenClaim := { program := "ytfdjlkffhikaeaadoor", sum := "cdcb73ed0559644e75a6043eae622f96cc5015c85acbd5dfd53f0bab7e85a5df", func := "priceoffice/priceofficelaw01.NaturalSums", spec := "naturalSums", inPlace := ["internal/abi.NoEscape", "internal/bytealg.MakeNoZero"], named := ["internal/strconv.uint64pow10", "math/bits.deBruijn32tab", "math/bits.deBruijn64tab"], apart := false, laid := [("math/bits.deBruijn32tab", laid_math_bits_deBruijn32tab), ("math/bits.deBruijn64tab", laid_math_bits_deBruijn64tab), ("internal/strconv.uint64pow10", laid_internal_strconv_uint64pow10)], narrowed := true }
def NaturalSumsUptoSaid : Prop := naturalSumsUptoRow.holds Tryd.pinned (OpenSpec.upto naturalSumsSpec)

/-- 'priceofficelaw01.NaturalRing', WHERE WHAT IT READS IS OF BULK AT MOST 1048576: true; the input reads as it did. -/
def naturalRingUptoRow : OpenClaim := { program := "ytfdjlkffhikaeaadoor", sum := "cdcb73ed0559644e75a6043eae622f96cc5015c85acbd5dfd53f0bab7e85a5df", func := "priceoffice/priceofficelaw01.NaturalRing", spec := "naturalRing", inPlace := ["internal/abi.NoEscape", "internal/bytealg.MakeNoZero"], named := ["internal/strconv.uint64pow10", "math/bits.deBruijn32tab", "math/bits.deBruijn64tab"], apart := false, laid := [("math/bits.deBruijn32tab", laid_math_bits_deBruijn32tab), ("math/bits.deBruijn64tab", laid_math_bits_deBruijn64tab), ("internal/strconv.uint64pow10", laid_internal_strconv_uint64pow10)], narrowed := true }
def NaturalRingUptoSaid : Prop := naturalRingUptoRow.holds Tryd.pinned (OpenSpec.upto naturalRingSpec)

/-- 'priceofficelaw01.NaturalPowers', WHERE WHAT IT READS IS OF BULK AT MOST 1048576: true; the input reads as it did. -/
def naturalPowersUptoRow : OpenClaim := { program := "ytfdjlkffhikaeaadoor", sum := "cdcb73ed0559644e75a6043eae622f96cc5015c85acbd5dfd53f0bab7e85a5df", func := "priceoffice/priceofficelaw01.NaturalPowers", spec := "naturalPowers", inPlace := ["internal/abi.NoEscape", "internal/bytealg.MakeNoZero"], named := ["internal/strconv.uint64pow10", "math/bits.deBruijn32tab", "math/bits.deBruijn64tab"], apart := false, laid := [("math/bits.deBruijn32tab", laid_math_bits_deBruijn32tab), ("math/bits.deBruijn64tab", laid_math_bits_deBruijn64tab), ("internal/strconv.uint64pow10", laid_internal_strconv_uint64pow10)], narrowed := true }
def NaturalPowersUptoSaid : Prop := naturalPowersUptoRow.holds Tryd.pinned (OpenSpec.upto naturalPowersSpec)

/-- 'priceofficelaw01.NaturalExponents', WHERE WHAT IT READS IS OF BULK AT MOST 1048576: true; the input reads as it did. -/
def naturalExponentsUptoRow : OpenClaim := { program := "ytfdjlkffhikaeaadoor", sum := "cdcb73ed0559644e75a6043eae622f96cc5015c85acbd5dfd53f0bab7e85a5df", func := "priceoffice/priceofficelaw01.NaturalExponents", spec := "naturalExponents", inPlace := ["internal/abi.NoEscape", "internal/bytealg.MakeNoZero"], named := ["internal/strconv.uint64pow10", "math/bits.deBruijn32tab", "math/bits.deBruijn64tab"], apart := false, laid := [("math/bits.deBruijn32tab", laid_math_bits_deBruijn32tab), ("math/bits.deBruijn64tab", laid_math_bits_deBruijn64tab), ("internal/strconv.uint64pow10", laid_internal_strconv_uint64pow10)], narrowed := true }
def NaturalExponentsUptoSaid : Prop := naturalExponentsUptoRow.holds Tryd.pinned (OpenSpec.upto naturalExponentsSpec)

/-- 'priceofficelaw01.NaturalDivisors', WHERE WHAT IT READS IS OF BULK AT MOST 1048576: true; the input reads as it did. -/
def naturalDivisorsUptoRow : OpenClaim := { program := "ytfdjlkffhikaeaadoor", sum := "cdcb73ed0559644e75a6043eae622f96cc5015c85acbd5dfd53f0bab7e85a5df", func := "priceoffice/priceofficelaw01.NaturalDivisors", spec := "naturalDivisors", inPlace := ["internal/abi.NoEscape", "internal/bytealg.MakeNoZero"], named := ["internal/strconv.uint64pow10", "math/bits.deBruijn32tab", "math/bits.deBruijn64tab"], apart := false, laid := [("math/bits.deBruijn32tab", laid_math_bits_deBruijn32tab), ("math/bits.deBruijn64tab", laid_math_bits_deBruijn64tab), ("internal/strconv.uint64pow10", laid_internal_strconv_uint64pow10)], narrowed := true }
def NaturalDivisorsUptoSaid : Prop := naturalDivisorsUptoRow.holds Tryd.pinned (OpenSpec.upto naturalDivisorsSpec)

/-- 'priceofficelaw01.NaturalRoots', WHERE WHAT IT READS IS OF BULK AT MOST 1048576: true; the input reads as it did. -/
def naturalRootsUptoRow : OpenClaim := { program := "ytfdjlkffhikaeaadoor", sum := "cdcb73ed0559644e75a6043eae622f96cc5015c85acbd5dfd53f0bab7e85a5df", func := "priceoffice/priceofficelaw01.NaturalRoots", spec := "naturalRoots", inPlace := ["internal/abi.NoEscape", "internal/bytealg.MakeNoZero"], recurses := true, named := ["internal/strconv.uint64pow10", "math/bits.deBruijn32tab", "math/bits.deBruijn64tab"], apart := false, laid := [("math/bits.deBruijn32tab", laid_math_bits_deBruijn32tab), ("math/bits.deBruijn64tab", laid_math_bits_deBruijn64tab), ("internal/strconv.uint64pow10", laid_internal_strconv_uint64pow10)], narrowed := true }
def NaturalRootsUptoSaid : Prop := naturalRootsUptoRow.holds Tryd.pinned (OpenSpec.upto naturalRootsSpec)

/-- 'priceofficelaw01.NaturalApart', WHERE WHAT IT READS IS OF BULK AT MOST 1048576: true; the input reads as it did. -/
def naturalApartUptoRow : OpenClaim := { program := "ytfdjlkffhikaeaadoor", sum := "cdcb73ed0559644e75a6043eae622f96cc5015c85acbd5dfd53f0bab7e85a5df", func := "priceoffice/priceofficelaw01.NaturalApart", spec := "naturalApart", inPlace := ["internal/abi.NoEscape", "internal/bytealg.MakeNoZero"], named := ["internal/strconv.uint64pow10", "math/bits.deBruijn32tab", "math/bits.deBruijn64tab"], apart := false, laid := [("math/bits.deBruijn32tab", laid_math_bits_deBruijn32tab), ("math/bits.deBruijn64tab", laid_math_bits_deBruijn64tab), ("internal/strconv.uint64pow10", laid_internal_strconv_uint64pow10)], narrowed := true }
def NaturalApartUptoSaid : Prop := naturalApartUptoRow.holds Tryd.pinned (OpenSpec.upto naturalApartSpec)

end Rows
end Go.Proofs.YtfdjlkffhikaeaaDoor
