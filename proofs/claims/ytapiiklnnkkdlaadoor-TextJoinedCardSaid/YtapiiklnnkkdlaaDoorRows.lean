/-
  NARROWER THAN 'FOR EVERY INPUT', by the rows' own cells (each row's printed sentence says how): FuseOnce: loops, laid · NamesOnce: loops, laid · PlainNeeds: loops, laid · EvalFuel: loops, laid · EvalUnused: loops, laid · OwnErase: loops, laid · OwnFirst: laid · TextTells: loops, laid · TextTurns: laid · TextJoined: laid · NamesSame: loops, laid · PlainSame: loops, laid.
  DERIVED. THE GIVEN ROWS OF THIS SEAT. 12 by the template 'for every input the law returns true; each argument reads behind the call as it read before'; 0 by the template 'total and deterministic' (their statements: YtapiiklnnkkdlaaDoorTotals.lean).
  GIVEN WITH THE SEED: the statements are not yours to turn. If you find one false, say at which input.
  Laid BY PROGRAM, IN A SANDBOX (cutbox-rows.mjs): the forced cells as the released guide's own fill.sh prints them over the translation 468943b8cdeeae8e… (all of the seat's roots in one cut). By AI agents, Wed Nov 11 2026. No macro, syntax, notation, axiom, sorry.
-/
import Derived.Test.YtapiiklnnkkdlaaDoorChecked
import GoSem.Claim
import GoSem.ClaimJoined
import GoSem.ClaimMapViews
import Derived.JoinedTies
import Derived.KernelRfl
namespace Go.Proofs.YtapiiklnnkkdlaaDoor
/- THE CELL 'sum', in the pinned program and in every row, IS THE sha256 OF THE DUMP (.gsa) THAT YtapiiklnnkkdlaaDoorProg.lean LOADS. Nothing in Lean hashes anything: it is a label: what it is worth is what the hold of that sum in a sandbox is worth. -/
noncomputable def Tryd.pinned : Pinned := { name := "ytapiiklnnkkdlaadoor", sum := "468943b8cdeeae8e805e4ad0b964e4c86ba532fe31e2df838022c814e04d75bd", checked := Tryd.checked }
namespace Rows
def none {H : Type} : Left H := { results := [], args := [] }

/- WHAT THE LISTED PACKAGE-LEVEL VARIABLES READ AS WHEN THE CALL BEGINS. Each datum BY PROGRAM (the guide's laid-datum.mjs) off the statement by which the dump's own 'gosem.cut.vars' lays the variable. In a bare row this is a premise. The card (YtapiiklnnkkdlaaDoorCards.lean) ties it to the program's text. -/
def laid_math_bits_deBruijn32tab {H : Type} : DataW H := .agg [.lit (.int .u8 0), .lit (.int .u8 1), .lit (.int .u8 28), .lit (.int .u8 2), .lit (.int .u8 29), .lit (.int .u8 14), .lit (.int .u8 24), .lit (.int .u8 3), .lit (.int .u8 30), .lit (.int .u8 22), .lit (.int .u8 20), .lit (.int .u8 15), .lit (.int .u8 25), .lit (.int .u8 17), .lit (.int .u8 4), .lit (.int .u8 8), .lit (.int .u8 31), .lit (.int .u8 27), .lit (.int .u8 13), .lit (.int .u8 23), .lit (.int .u8 21), .lit (.int .u8 19), .lit (.int .u8 16), .lit (.int .u8 7), .lit (.int .u8 26), .lit (.int .u8 12), .lit (.int .u8 18), .lit (.int .u8 6), .lit (.int .u8 11), .lit (.int .u8 5), .lit (.int .u8 10), .lit (.int .u8 9)]
def laid_math_bits_deBruijn64tab {H : Type} : DataW H := .agg [.lit (.int .u8 0), .lit (.int .u8 1), .lit (.int .u8 56), .lit (.int .u8 2), .lit (.int .u8 57), .lit (.int .u8 49), .lit (.int .u8 28), .lit (.int .u8 3), .lit (.int .u8 61), .lit (.int .u8 58), .lit (.int .u8 42), .lit (.int .u8 50), .lit (.int .u8 38), .lit (.int .u8 29), .lit (.int .u8 17), .lit (.int .u8 4), .lit (.int .u8 62), .lit (.int .u8 47), .lit (.int .u8 59), .lit (.int .u8 36), .lit (.int .u8 45), .lit (.int .u8 43), .lit (.int .u8 51), .lit (.int .u8 22), .lit (.int .u8 53), .lit (.int .u8 39), .lit (.int .u8 33), .lit (.int .u8 30), .lit (.int .u8 24), .lit (.int .u8 18), .lit (.int .u8 12), .lit (.int .u8 5), .lit (.int .u8 63), .lit (.int .u8 55), .lit (.int .u8 48), .lit (.int .u8 27), .lit (.int .u8 60), .lit (.int .u8 41), .lit (.int .u8 37), .lit (.int .u8 16), .lit (.int .u8 46), .lit (.int .u8 35), .lit (.int .u8 44), .lit (.int .u8 21), .lit (.int .u8 52), .lit (.int .u8 32), .lit (.int .u8 23), .lit (.int .u8 11), .lit (.int .u8 54), .lit (.int .u8 26), .lit (.int .u8 40), .lit (.int .u8 15), .lit (.int .u8 34), .lit (.int .u8 20), .lit (.int .u8 31), .lit (.int .u8 10), .lit (.int .u8 25), .lit (.int .u8 14), .lit (.int .u8 19), .lit (.int .u8 9), .lit (.int .u8 13), .lit (.int .u8 8), .lit (.int .u8 7), .lit (.int .u8 6)]
def laid_internal_strconv_uint64pow10 {H : Type} : DataW H := .agg [.lit (.int .u64 1), .lit (.int .u64 10), .lit (.int .u64 100), .lit (.int .u64 1000), .lit (.int .u64 10000), .lit (.int .u64 100000), .lit (.int .u64 1000000), .lit (.int .u64 10000000), .lit (.int .u64 100000000), .lit (.int .u64 1000000000), .lit (.int .u64 10000000000), .lit (.int .u64 100000000000), .lit (.int .u64 1000000000000), .lit (.int .u64 10000000000000), .lit (.int .u64 100000000000000), .lit (.int .u64 1000000000000000), .lit (.int .u64 10000000000000000), .lit (.int .u64 100000000000000000), .lit (.int .u64 1000000000000000000), .lit (.int .u64 10000000000000000000)]
def laid_strconv_ErrRange {H : Type} : DataW H := .iface "*errors.errorString" (.ptr (.agg [.lit (.string [118, 97, 108, 117, 101, 32, 111, 117, 116, 32, 111, 102, 32, 114, 97, 110, 103, 101])]))
def laid_strconv_ErrSyntax {H : Type} : DataW H := .iface "*errors.errorString" (.ptr (.agg [.lit (.string [105, 110, 118, 97, 108, 105, 100, 32, 115, 121, 110, 116, 97, 120])]))

/-- 'xclaw8.FuseOnce': WHATEVER THE INPUT: true; the input reads as it did. -/
def fuseOnceSpec : ChangeSpec := { name := "fuseOnce", fn := fun _ => fun
  | [d] => { results := [.lit (.bool true)], args := [d] }
  | _ => none }
def fuseOnceRow : OpenClaim := { program := "ytapiiklnnkkdlaadoor", sum := "468943b8cdeeae8e805e4ad0b964e4c86ba532fe31e2df838022c814e04d75bd", func := "exactchange/xclaw8.FuseOnce", spec := "fuseOnce", unfollowed := true, recurses := true, named := ["strconv.ErrSyntax", "strconv.ErrRange", "internal/strconv.uint64pow10", "math/bits.deBruijn32tab", "math/bits.deBruijn64tab"], loops := true, apart := false, laid := [("math/bits.deBruijn32tab", laid_math_bits_deBruijn32tab), ("math/bits.deBruijn64tab", laid_math_bits_deBruijn64tab), ("internal/strconv.uint64pow10", laid_internal_strconv_uint64pow10), ("strconv.ErrRange", laid_strconv_ErrRange), ("strconv.ErrSyntax", laid_strconv_ErrSyntax)] }
def FuseOnceSaid : Prop := fuseOnceRow.holds Tryd.pinned (OpenSpec.ofChange fuseOnceSpec)

/-- ITS FALSE NEIGHBOUR: 'it returns false'. Refute it at one input. -/
def fuseOnceWrong : ChangeSpec := { name := "fuseOnce", fn := fun _ => fun
  | [d] => { results := [.lit (.bool false)], args := [d] }
  | _ => none }
def FuseOnceWrongFalsely : Prop := fuseOnceRow.holds Tryd.pinned (OpenSpec.ofChange fuseOnceWrong)

/-- 'xclaw4.NamesOnce': WHATEVER THE INPUT: true; the input reads as it did. -/
def namesOnceSpec : ChangeSpec := { name := "namesOnce", fn := fun _ => fun
  | [d] => { results := [.lit (.bool true)], args := [d] }
  | _ => none }
def namesOnceRow : OpenClaim := { program := "ytapiiklnnkkdlaadoor", sum := "468943b8cdeeae8e805e4ad0b964e4c86ba532fe31e2df838022c814e04d75bd", func := "exactchange/xclaw4.NamesOnce", spec := "namesOnce", unfollowed := true, recurses := true, named := ["strconv.ErrSyntax", "strconv.ErrRange", "internal/strconv.uint64pow10", "math/bits.deBruijn32tab", "math/bits.deBruijn64tab"], loops := true, apart := false, laid := [("math/bits.deBruijn32tab", laid_math_bits_deBruijn32tab), ("math/bits.deBruijn64tab", laid_math_bits_deBruijn64tab), ("internal/strconv.uint64pow10", laid_internal_strconv_uint64pow10), ("strconv.ErrRange", laid_strconv_ErrRange), ("strconv.ErrSyntax", laid_strconv_ErrSyntax)] }
def NamesOnceSaid : Prop := namesOnceRow.holds Tryd.pinned (OpenSpec.ofChange namesOnceSpec)

/-- ITS FALSE NEIGHBOUR: 'it returns false'. Refute it at one input. -/
def namesOnceWrong : ChangeSpec := { name := "namesOnce", fn := fun _ => fun
  | [d] => { results := [.lit (.bool false)], args := [d] }
  | _ => none }
def NamesOnceWrongFalsely : Prop := namesOnceRow.holds Tryd.pinned (OpenSpec.ofChange namesOnceWrong)

/-- 'xclaw5.PlainNeeds': WHATEVER THE INPUT: true; the input reads as it did. -/
def plainNeedsSpec : ChangeSpec := { name := "plainNeeds", fn := fun _ => fun
  | [d] => { results := [.lit (.bool true)], args := [d] }
  | _ => none }
def plainNeedsRow : OpenClaim := { program := "ytapiiklnnkkdlaadoor", sum := "468943b8cdeeae8e805e4ad0b964e4c86ba532fe31e2df838022c814e04d75bd", func := "exactchange/xclaw5.PlainNeeds", spec := "plainNeeds", unfollowed := true, recurses := true, named := ["strconv.ErrSyntax", "strconv.ErrRange", "internal/strconv.uint64pow10", "math/bits.deBruijn32tab", "math/bits.deBruijn64tab"], loops := true, apart := false, laid := [("math/bits.deBruijn32tab", laid_math_bits_deBruijn32tab), ("math/bits.deBruijn64tab", laid_math_bits_deBruijn64tab), ("internal/strconv.uint64pow10", laid_internal_strconv_uint64pow10), ("strconv.ErrRange", laid_strconv_ErrRange), ("strconv.ErrSyntax", laid_strconv_ErrSyntax)] }
def PlainNeedsSaid : Prop := plainNeedsRow.holds Tryd.pinned (OpenSpec.ofChange plainNeedsSpec)

/-- ITS FALSE NEIGHBOUR: 'it returns false'. Refute it at one input. -/
def plainNeedsWrong : ChangeSpec := { name := "plainNeeds", fn := fun _ => fun
  | [d] => { results := [.lit (.bool false)], args := [d] }
  | _ => none }
def PlainNeedsWrongFalsely : Prop := plainNeedsRow.holds Tryd.pinned (OpenSpec.ofChange plainNeedsWrong)

/-- 'xclaw3.EvalFuel': WHATEVER THE INPUT: true; the input reads as it did. -/
def evalFuelSpec : ChangeSpec := { name := "evalFuel", fn := fun _ => fun
  | [d1, d2, d3, d4, d5] => { results := [.lit (.bool true)], args := [d1, d2, d3, d4, d5] }
  | _ => none }
def evalFuelRow : OpenClaim := { program := "ytapiiklnnkkdlaadoor", sum := "468943b8cdeeae8e805e4ad0b964e4c86ba532fe31e2df838022c814e04d75bd", func := "exactchange/xclaw3.EvalFuel", spec := "evalFuel", unfollowed := true, recurses := true, named := ["strconv.ErrSyntax", "strconv.ErrRange", "internal/strconv.uint64pow10", "math/bits.deBruijn32tab", "math/bits.deBruijn64tab"], loops := true, apart := false, laid := [("math/bits.deBruijn32tab", laid_math_bits_deBruijn32tab), ("math/bits.deBruijn64tab", laid_math_bits_deBruijn64tab), ("internal/strconv.uint64pow10", laid_internal_strconv_uint64pow10), ("strconv.ErrRange", laid_strconv_ErrRange), ("strconv.ErrSyntax", laid_strconv_ErrSyntax)] }
def EvalFuelSaid : Prop := evalFuelRow.holds Tryd.pinned (OpenSpec.ofChange evalFuelSpec)

/-- ITS FALSE NEIGHBOUR: 'it returns false'. Refute it at one input. -/
def evalFuelWrong : ChangeSpec := { name := "evalFuel", fn := fun _ => fun
  | [d1, d2, d3, d4, d5] => { results := [.lit (.bool false)], args := [d1, d2, d3, d4, d5] }
  | _ => none }
def EvalFuelWrongFalsely : Prop := evalFuelRow.holds Tryd.pinned (OpenSpec.ofChange evalFuelWrong)

/-- 'xclaw3.EvalUnused': WHATEVER THE INPUT: true; the input reads as it did. -/
def evalUnusedSpec : ChangeSpec := { name := "evalUnused", fn := fun _ => fun
  | [d1, d2, d3, d4, d5] => { results := [.lit (.bool true)], args := [d1, d2, d3, d4, d5] }
  | _ => none }
def evalUnusedRow : OpenClaim := { program := "ytapiiklnnkkdlaadoor", sum := "468943b8cdeeae8e805e4ad0b964e4c86ba532fe31e2df838022c814e04d75bd", func := "exactchange/xclaw3.EvalUnused", spec := "evalUnused", unfollowed := true, recurses := true, named := ["strconv.ErrSyntax", "strconv.ErrRange", "internal/strconv.uint64pow10", "math/bits.deBruijn32tab", "math/bits.deBruijn64tab"], loops := true, apart := false, laid := [("math/bits.deBruijn32tab", laid_math_bits_deBruijn32tab), ("math/bits.deBruijn64tab", laid_math_bits_deBruijn64tab), ("internal/strconv.uint64pow10", laid_internal_strconv_uint64pow10), ("strconv.ErrRange", laid_strconv_ErrRange), ("strconv.ErrSyntax", laid_strconv_ErrSyntax)] }
def EvalUnusedSaid : Prop := evalUnusedRow.holds Tryd.pinned (OpenSpec.ofChange evalUnusedSpec)

/-- ITS FALSE NEIGHBOUR: 'it returns false'. Refute it at one input. -/
def evalUnusedWrong : ChangeSpec := { name := "evalUnused", fn := fun _ => fun
  | [d1, d2, d3, d4, d5] => { results := [.lit (.bool false)], args := [d1, d2, d3, d4, d5] }
  | _ => none }
def EvalUnusedWrongFalsely : Prop := evalUnusedRow.holds Tryd.pinned (OpenSpec.ofChange evalUnusedWrong)

/-- 'xclaw6.OwnErase': WHATEVER THE INPUT: true; the input reads as it did. -/
def ownEraseSpec : ChangeSpec := { name := "ownErase", fn := fun _ => fun
  | [d] => { results := [.lit (.bool true)], args := [d] }
  | _ => none }
def ownEraseRow : OpenClaim := { program := "ytapiiklnnkkdlaadoor", sum := "468943b8cdeeae8e805e4ad0b964e4c86ba532fe31e2df838022c814e04d75bd", func := "exactchange/xclaw6.OwnErase", spec := "ownErase", unfollowed := true, recurses := true, named := ["strconv.ErrSyntax", "strconv.ErrRange", "internal/strconv.uint64pow10", "math/bits.deBruijn32tab", "math/bits.deBruijn64tab"], loops := true, apart := false, laid := [("math/bits.deBruijn32tab", laid_math_bits_deBruijn32tab), ("math/bits.deBruijn64tab", laid_math_bits_deBruijn64tab), ("internal/strconv.uint64pow10", laid_internal_strconv_uint64pow10), ("strconv.ErrRange", laid_strconv_ErrRange), ("strconv.ErrSyntax", laid_strconv_ErrSyntax)] }
def OwnEraseSaid : Prop := ownEraseRow.holds Tryd.pinned (OpenSpec.ofChange ownEraseSpec)

/-- ITS FALSE NEIGHBOUR: 'it returns false'. Refute it at one input. -/
def ownEraseWrong : ChangeSpec := { name := "ownErase", fn := fun _ => fun
  | [d] => { results := [.lit (.bool false)], args := [d] }
  | _ => none }
def OwnEraseWrongFalsely : Prop := ownEraseRow.holds Tryd.pinned (OpenSpec.ofChange ownEraseWrong)

/-- 'xclaw6.OwnFirst': WHATEVER THE INPUT: true; the input reads as it did. -/
def ownFirstSpec : ChangeSpec := { name := "ownFirst", fn := fun _ => fun
  | [d1, d2] => { results := [.lit (.bool true)], args := [d1, d2] }
  | _ => none }
def ownFirstRow : OpenClaim := { program := "ytapiiklnnkkdlaadoor", sum := "468943b8cdeeae8e805e4ad0b964e4c86ba532fe31e2df838022c814e04d75bd", func := "exactchange/xclaw6.OwnFirst", spec := "ownFirst", unfollowed := true, recurses := true, named := ["strconv.ErrSyntax", "strconv.ErrRange", "internal/strconv.uint64pow10", "math/bits.deBruijn32tab", "math/bits.deBruijn64tab"], apart := false, laid := [("math/bits.deBruijn32tab", laid_math_bits_deBruijn32tab), ("math/bits.deBruijn64tab", laid_math_bits_deBruijn64tab), ("internal/strconv.uint64pow10", laid_internal_strconv_uint64pow10), ("strconv.ErrRange", laid_strconv_ErrRange), ("strconv.ErrSyntax", laid_strconv_ErrSyntax)] }
def OwnFirstSaid : Prop := ownFirstRow.holds Tryd.pinned (OpenSpec.ofChange ownFirstSpec)

/-- ITS FALSE NEIGHBOUR: 'it returns false'. Refute it at one input. -/
def ownFirstWrong : ChangeSpec := { name := "ownFirst", fn := fun _ => fun
  | [d1, d2] => { results := [.lit (.bool false)], args := [d1, d2] }
  | _ => none }
def OwnFirstWrongFalsely : Prop := ownFirstRow.holds Tryd.pinned (OpenSpec.ofChange ownFirstWrong)

/-- 'xclaw1.TextTells': WHATEVER THE INPUT: true; the input reads as it did. -/
def textTellsSpec : ChangeSpec := { name := "textTells", fn := fun _ => fun
  | [d1, d2] => { results := [.lit (.bool true)], args := [d1, d2] }
  | _ => none }
def textTellsRow : OpenClaim := { program := "ytapiiklnnkkdlaadoor", sum := "468943b8cdeeae8e805e4ad0b964e4c86ba532fe31e2df838022c814e04d75bd", func := "exactchange/xclaw1.TextTells", spec := "textTells", unfollowed := true, recurses := true, named := ["strconv.ErrSyntax", "strconv.ErrRange", "internal/strconv.uint64pow10", "math/bits.deBruijn32tab", "math/bits.deBruijn64tab"], loops := true, apart := false, laid := [("math/bits.deBruijn32tab", laid_math_bits_deBruijn32tab), ("math/bits.deBruijn64tab", laid_math_bits_deBruijn64tab), ("internal/strconv.uint64pow10", laid_internal_strconv_uint64pow10), ("strconv.ErrRange", laid_strconv_ErrRange), ("strconv.ErrSyntax", laid_strconv_ErrSyntax)] }
def TextTellsSaid : Prop := textTellsRow.holds Tryd.pinned (OpenSpec.ofChange textTellsSpec)

/-- ITS FALSE NEIGHBOUR: 'it returns false'. Refute it at one input. -/
def textTellsWrong : ChangeSpec := { name := "textTells", fn := fun _ => fun
  | [d1, d2] => { results := [.lit (.bool false)], args := [d1, d2] }
  | _ => none }
def TextTellsWrongFalsely : Prop := textTellsRow.holds Tryd.pinned (OpenSpec.ofChange textTellsWrong)

/-- 'xclaw1.TextTurns': WHATEVER THE INPUT: true; the input reads as it did. -/
def textTurnsSpec : ChangeSpec := { name := "textTurns", fn := fun _ => fun
  | [d] => { results := [.lit (.bool true)], args := [d] }
  | _ => none }
def textTurnsRow : OpenClaim := { program := "ytapiiklnnkkdlaadoor", sum := "468943b8cdeeae8e805e4ad0b964e4c86ba532fe31e2df838022c814e04d75bd", func := "exactchange/xclaw1.TextTurns", spec := "textTurns", recurses := true, named := ["strconv.ErrSyntax", "strconv.ErrRange", "internal/strconv.uint64pow10", "math/bits.deBruijn32tab", "math/bits.deBruijn64tab"], apart := false, laid := [("math/bits.deBruijn32tab", laid_math_bits_deBruijn32tab), ("math/bits.deBruijn64tab", laid_math_bits_deBruijn64tab), ("internal/strconv.uint64pow10", laid_internal_strconv_uint64pow10), ("strconv.ErrRange", laid_strconv_ErrRange), ("strconv.ErrSyntax", laid_strconv_ErrSyntax)] }
def TextTurnsSaid : Prop := textTurnsRow.holds Tryd.pinned (OpenSpec.ofChange textTurnsSpec)

/-- ITS FALSE NEIGHBOUR: 'it returns false'. Refute it at one input. -/
def textTurnsWrong : ChangeSpec := { name := "textTurns", fn := fun _ => fun
  | [d] => { results := [.lit (.bool false)], args := [d] }
  | _ => none }
def TextTurnsWrongFalsely : Prop := textTurnsRow.holds Tryd.pinned (OpenSpec.ofChange textTurnsWrong)

/-- 'xclaw1.TextJoined': WHATEVER THE INPUT: true; the input reads as it did. -/
def textJoinedSpec : ChangeSpec := { name := "textJoined", fn := fun _ => fun
  | [d1, d2] => { results := [.lit (.bool true)], args := [d1, d2] }
  | _ => none }
def textJoinedRow : OpenClaim := { program := "ytapiiklnnkkdlaadoor", sum := "468943b8cdeeae8e805e4ad0b964e4c86ba532fe31e2df838022c814e04d75bd", func := "exactchange/xclaw1.TextJoined", spec := "textJoined", recurses := true, named := ["strconv.ErrSyntax", "strconv.ErrRange", "internal/strconv.uint64pow10", "math/bits.deBruijn32tab", "math/bits.deBruijn64tab"], apart := false, laid := [("math/bits.deBruijn32tab", laid_math_bits_deBruijn32tab), ("math/bits.deBruijn64tab", laid_math_bits_deBruijn64tab), ("internal/strconv.uint64pow10", laid_internal_strconv_uint64pow10), ("strconv.ErrRange", laid_strconv_ErrRange), ("strconv.ErrSyntax", laid_strconv_ErrSyntax)] }
def TextJoinedSaid : Prop := textJoinedRow.holds Tryd.pinned (OpenSpec.ofChange textJoinedSpec)

/-- ITS FALSE NEIGHBOUR: 'it returns false'. Refute it at one input. -/
def textJoinedWrong : ChangeSpec := { name := "textJoined", fn := fun _ => fun
  | [d1, d2] => { results := [.lit (.bool false)], args := [d1, d2] }
  | _ => none }
def TextJoinedWrongFalsely : Prop := textJoinedRow.holds Tryd.pinned (OpenSpec.ofChange textJoinedWrong)

/-- 'xclaw4.NamesSame': WHATEVER THE INPUT: true; the input reads as it did. -/
def namesSameSpec : ChangeSpec := { name := "namesSame", fn := fun _ => fun
  | [d1, d2, d3, d4] => { results := [.lit (.bool true)], args := [d1, d2, d3, d4] }
  | _ => none }
def namesSameRow : OpenClaim := { program := "ytapiiklnnkkdlaadoor", sum := "468943b8cdeeae8e805e4ad0b964e4c86ba532fe31e2df838022c814e04d75bd", func := "exactchange/xclaw4.NamesSame", spec := "namesSame", unfollowed := true, recurses := true, named := ["strconv.ErrSyntax", "strconv.ErrRange", "internal/strconv.uint64pow10", "math/bits.deBruijn32tab", "math/bits.deBruijn64tab"], loops := true, apart := false, laid := [("math/bits.deBruijn32tab", laid_math_bits_deBruijn32tab), ("math/bits.deBruijn64tab", laid_math_bits_deBruijn64tab), ("internal/strconv.uint64pow10", laid_internal_strconv_uint64pow10), ("strconv.ErrRange", laid_strconv_ErrRange), ("strconv.ErrSyntax", laid_strconv_ErrSyntax)] }
def NamesSameSaid : Prop := namesSameRow.holds Tryd.pinned (OpenSpec.ofChange namesSameSpec)

/-- ITS FALSE NEIGHBOUR: 'it returns false'. Refute it at one input. -/
def namesSameWrong : ChangeSpec := { name := "namesSame", fn := fun _ => fun
  | [d1, d2, d3, d4] => { results := [.lit (.bool false)], args := [d1, d2, d3, d4] }
  | _ => none }
def NamesSameWrongFalsely : Prop := namesSameRow.holds Tryd.pinned (OpenSpec.ofChange namesSameWrong)

/-- 'xclaw5.PlainSame': WHATEVER THE INPUT: true; the input reads as it did. -/
def plainSameSpec : ChangeSpec := { name := "plainSame", fn := fun _ => fun
  | [d1, d2, d3, d4] => { results := [.lit (.bool true)], args := [d1, d2, d3, d4] }
  | _ => none }
def plainSameRow : OpenClaim := { program := "ytapiiklnnkkdlaadoor", sum := "468943b8cdeeae8e805e4ad0b964e4c86ba532fe31e2df838022c814e04d75bd", func := "exactchange/xclaw5.PlainSame", spec := "plainSame", unfollowed := true, recurses := true, named := ["strconv.ErrSyntax", "strconv.ErrRange", "internal/strconv.uint64pow10", "math/bits.deBruijn32tab", "math/bits.deBruijn64tab"], loops := true, apart := false, laid := [("math/bits.deBruijn32tab", laid_math_bits_deBruijn32tab), ("math/bits.deBruijn64tab", laid_math_bits_deBruijn64tab), ("internal/strconv.uint64pow10", laid_internal_strconv_uint64pow10), ("strconv.ErrRange", laid_strconv_ErrRange), ("strconv.ErrSyntax", laid_strconv_ErrSyntax)] }
def PlainSameSaid : Prop := plainSameRow.holds Tryd.pinned (OpenSpec.ofChange plainSameSpec)

/-- ITS FALSE NEIGHBOUR: 'it returns false'. Refute it at one input. -/
def plainSameWrong : ChangeSpec := { name := "plainSame", fn := fun _ => fun
  | [d1, d2, d3, d4] => { results := [.lit (.bool false)], args := [d1, d2, d3, d4] }
  | _ => none }
def PlainSameWrongFalsely : Prop := plainSameRow.holds Tryd.pinned (OpenSpec.ofChange plainSameWrong)

/- THE SECOND FORM. 'bulk': how many values and letters a reading holds, each counted each time it is reached (what is shared counts as often as it is met; a slice's spare places count too). A statement '..UptoSaid' is the law's where the arguments, and the package variables that the reading takes, are together of bulk at most 1048576: NARROWER than '..Said'. Prove '..Said' where nothing that the law and all that it calls make is longer than what came in: it says more and counts as full. Else prove '..UptoSaid'. A law counts once. -/
mutual
def uptoBulk {H : Type} : DataW H → Nat
  | .lit (.string bytes) => bytes.length + 1
  | .lit _ => 1
  | .nil => 1
  | .ptr d => uptoBulk d + 1
  | .slice elems spare => uptoBulkAll elems + uptoBulkAll spare + 1
  | .agg parts => uptoBulkAll parts + 1
  | .iface _ d => uptoBulk d + 1
  | .map entries => uptoBulkEntries entries + 1
  | .held _ => 1
def uptoBulkAll {H : Type} : List (DataW H) → Nat
  | [] => 0
  | d :: r => uptoBulk d + uptoBulkAll r
def uptoBulkEntries {H : Type} : List (Lit × DataW H) → Nat
  | [] => 0
  | x :: r => uptoBulkEntry x + uptoBulkEntries r
def uptoBulkEntry {H : Type} : Lit × DataW H → Nat
  | (.string bytes, d) => bytes.length + uptoBulk d + 1
  | (_, d) => uptoBulk d + 1
 end
def uptoSmall : (H : Type) → List (DataW H) → Bool := fun _ ds => decide (uptoBulkAll ds ≤ 1048576)
def OpenSpec.upto (s : _root_.Go.ChangeSpec) : _root_.Go.OpenSpec := { _root_.Go.OpenSpec.ofChange s with cond := some uptoSmall }

/-- 'xclaw8.FuseOnce', WHERE WHAT IT READS IS OF BULK AT MOST 1048576: true; the input reads as it did. -/
def fuseOnceUptoRow : OpenClaim := { program := "ytapiiklnnkkdlaadoor", sum := "468943b8cdeeae8e805e4ad0b964e4c86ba532fe31e2df838022c814e04d75bd", func := "exactchange/xclaw8.FuseOnce", spec := "fuseOnce", unfollowed := true, recurses := true, named := ["strconv.ErrSyntax", "strconv.ErrRange", "internal/strconv.uint64pow10", "math/bits.deBruijn32tab", "math/bits.deBruijn64tab"], loops := true, apart := false, laid := [("math/bits.deBruijn32tab", laid_math_bits_deBruijn32tab), ("math/bits.deBruijn64tab", laid_math_bits_deBruijn64tab), ("internal/strconv.uint64pow10", laid_internal_strconv_uint64pow10), ("strconv.ErrRange", laid_strconv_ErrRange), ("strconv.ErrSyntax", laid_strconv_ErrSyntax)], narrowed := true }
def FuseOnceUptoSaid : Prop := fuseOnceUptoRow.holds Tryd.pinned (OpenSpec.upto fuseOnceSpec)

/-- 'xclaw4.NamesOnce', WHERE WHAT IT READS IS OF BULK AT MOST 1048576: true; the input reads as it did. -/
def namesOnceUptoRow : OpenClaim := { program := "ytapiiklnnkkdlaadoor", sum := "468943b8cdeeae8e805e4ad0b964e4c86ba532fe31e2df838022c814e04d75bd", func := "exactchange/xclaw4.NamesOnce", spec := "namesOnce", unfollowed := true, recurses := true, named := ["strconv.ErrSyntax", "strconv.ErrRange", "internal/strconv.uint64pow10", "math/bits.deBruijn32tab", "math/bits.deBruijn64tab"], loops := true, apart := false, laid := [("math/bits.deBruijn32tab", laid_math_bits_deBruijn32tab), ("math/bits.deBruijn64tab", laid_math_bits_deBruijn64tab), ("internal/strconv.uint64pow10", laid_internal_strconv_uint64pow10), ("strconv.ErrRange", laid_strconv_ErrRange), ("strconv.ErrSyntax", laid_strconv_ErrSyntax)], narrowed := true }
def NamesOnceUptoSaid : Prop := namesOnceUptoRow.holds Tryd.pinned (OpenSpec.upto namesOnceSpec)

/-- 'xclaw5.PlainNeeds', WHERE WHAT IT READS IS OF BULK AT MOST 1048576: true; the input reads as it did. -/
def plainNeedsUptoRow : OpenClaim := { program := "ytapiiklnnkkdlaadoor", sum := "468943b8cdeeae8e805e4ad0b964e4c86ba532fe31e2df838022c814e04d75bd", func := "exactchange/xclaw5.PlainNeeds", spec := "plainNeeds", unfollowed := true, recurses := true, named := ["strconv.ErrSyntax", "strconv.ErrRange", "internal/strconv.uint64pow10", "math/bits.deBruijn32tab", "math/bits.deBruijn64tab"], loops := true, apart := false, laid := [("math/bits.deBruijn32tab", laid_math_bits_deBruijn32tab), ("math/bits.deBruijn64tab", laid_math_bits_deBruijn64tab), ("internal/strconv.uint64pow10", laid_internal_strconv_uint64pow10), ("strconv.ErrRange", laid_strconv_ErrRange), ("strconv.ErrSyntax", laid_strconv_ErrSyntax)], narrowed := true }
def PlainNeedsUptoSaid : Prop := plainNeedsUptoRow.holds Tryd.pinned (OpenSpec.upto plainNeedsSpec)

/-- 'xclaw3.EvalFuel', WHERE WHAT IT READS IS OF BULK AT MOST 1048576: true; the input reads as it did. -/
def evalFuelUptoRow : OpenClaim := { program := "ytapiiklnnkkdlaadoor", sum := "468943b8cdeeae8e805e4ad0b964e4c86ba532fe31e2df838022c814e04d75bd", func := "exactchange/xclaw3.EvalFuel", spec := "evalFuel", unfollowed := true, recurses := true, named := ["strconv.ErrSyntax", "strconv.ErrRange", "internal/strconv.uint64pow10", "math/bits.deBruijn32tab", "math/bits.deBruijn64tab"], loops := true, apart := false, laid := [("math/bits.deBruijn32tab", laid_math_bits_deBruijn32tab), ("math/bits.deBruijn64tab", laid_math_bits_deBruijn64tab), ("internal/strconv.uint64pow10", laid_internal_strconv_uint64pow10), ("strconv.ErrRange", laid_strconv_ErrRange), ("strconv.ErrSyntax", laid_strconv_ErrSyntax)], narrowed := true }
def EvalFuelUptoSaid : Prop := evalFuelUptoRow.holds Tryd.pinned (OpenSpec.upto evalFuelSpec)

/-- 'xclaw3.EvalUnused', WHERE WHAT IT READS IS OF BULK AT MOST 1048576: true; the input reads as it did. -/
def evalUnusedUptoRow : OpenClaim := { program := "ytapiiklnnkkdlaadoor", sum := "468943b8cdeeae8e805e4ad0b964e4c86ba532fe31e2df838022c814e04d75bd", func := "exactchange/xclaw3.EvalUnused", spec := "evalUnused", unfollowed := true, recurses := true, named := ["strconv.ErrSyntax", "strconv.ErrRange", "internal/strconv.uint64pow10", "math/bits.deBruijn32tab", "math/bits.deBruijn64tab"], loops := true, apart := false, laid := [("math/bits.deBruijn32tab", laid_math_bits_deBruijn32tab), ("math/bits.deBruijn64tab", laid_math_bits_deBruijn64tab), ("internal/strconv.uint64pow10", laid_internal_strconv_uint64pow10), ("strconv.ErrRange", laid_strconv_ErrRange), ("strconv.ErrSyntax", laid_strconv_ErrSyntax)], narrowed := true }
def EvalUnusedUptoSaid : Prop := evalUnusedUptoRow.holds Tryd.pinned (OpenSpec.upto evalUnusedSpec)

/-- 'xclaw6.OwnErase', WHERE WHAT IT READS IS OF BULK AT MOST 1048576: true; the input reads as it did. -/
def ownEraseUptoRow : OpenClaim := { program := "ytapiiklnnkkdlaadoor", sum := "468943b8cdeeae8e805e4ad0b964e4c86ba532fe31e2df838022c814e04d75bd", func := "exactchange/xclaw6.OwnErase", spec := "ownErase", unfollowed := true, recurses := true, named := ["strconv.ErrSyntax", "strconv.ErrRange", "internal/strconv.uint64pow10", "math/bits.deBruijn32tab", "math/bits.deBruijn64tab"], loops := true, apart := false, laid := [("math/bits.deBruijn32tab", laid_math_bits_deBruijn32tab), ("math/bits.deBruijn64tab", laid_math_bits_deBruijn64tab), ("internal/strconv.uint64pow10", laid_internal_strconv_uint64pow10), ("strconv.ErrRange", laid_strconv_ErrRange), ("strconv.ErrSyntax", laid_strconv_ErrSyntax)], narrowed := true }
def OwnEraseUptoSaid : Prop := ownEraseUptoRow.holds Tryd.pinned (OpenSpec.upto ownEraseSpec)

/-- 'xclaw6.OwnFirst', WHERE WHAT IT READS IS OF BULK AT MOST 1048576: true; the input reads as it did. -/
def ownFirstUptoRow : OpenClaim := { program := "ytapiiklnnkkdlaadoor", sum := "468943b8cdeeae8e805e4ad0b964e4c86ba532fe31e2df838022c814e04d75bd", func := "exactchange/xclaw6.OwnFirst", spec := "ownFirst", unfollowed := true, recurses := true, named := ["strconv.ErrSyntax", "strconv.ErrRange", "internal/strconv.uint64pow10", "math/bits.deBruijn32tab", "math/bits.deBruijn64tab"], apart := false, laid := [("math/bits.deBruijn32tab", laid_math_bits_deBruijn32tab), ("math/bits.deBruijn64tab", laid_math_bits_deBruijn64tab), ("internal/strconv.uint64pow10", laid_internal_strconv_uint64pow10), ("strconv.ErrRange", laid_strconv_ErrRange), ("strconv.ErrSyntax", laid_strconv_ErrSyntax)], narrowed := true }
def OwnFirstUptoSaid : Prop := ownFirstUptoRow.holds Tryd.pinned (OpenSpec.upto ownFirstSpec)

/-- 'xclaw1.TextTells', WHERE WHAT IT READS IS OF BULK AT MOST 1048576: true; the input reads as it did. -/
def textTellsUptoRow : OpenClaim := { program := "ytapiiklnnkkdlaadoor", sum := "468943b8cdeeae8e805e4ad0b964e4c86ba532fe31e2df838022c814e04d75bd", func := "exactchange/xclaw1.TextTells", spec := "textTells", unfollowed := true, recurses := true, named := ["strconv.ErrSyntax", "strconv.ErrRange", "internal/strconv.uint64pow10", "math/bits.deBruijn32tab", "math/bits.deBruijn64tab"], loops := true, apart := false, laid := [("math/bits.deBruijn32tab", laid_math_bits_deBruijn32tab), ("math/bits.deBruijn64tab", laid_math_bits_deBruijn64tab), ("internal/strconv.uint64pow10", laid_internal_strconv_uint64pow10), ("strconv.ErrRange", laid_strconv_ErrRange), ("strconv.ErrSyntax", laid_strconv_ErrSyntax)], narrowed := true }
def TextTellsUptoSaid : Prop := textTellsUptoRow.holds Tryd.pinned (OpenSpec.upto textTellsSpec)

/-- 'xclaw1.TextTurns', WHERE WHAT IT READS IS OF BULK AT MOST 1048576: true; the input reads as it did. -/
def textTurnsUptoRow : OpenClaim := { program := "ytapiiklnnkkdlaadoor", sum := "468943b8cdeeae8e805e4ad0b964e4c86ba532fe31e2df838022c814e04d75bd", func := "exactchange/xclaw1.TextTurns", spec := "textTurns", recurses := true, named := ["strconv.ErrSyntax", "strconv.ErrRange", "internal/strconv.uint64pow10", "math/bits.deBruijn32tab", "math/bits.deBruijn64tab"], apart := false, laid := [("math/bits.deBruijn32tab", laid_math_bits_deBruijn32tab), ("math/bits.deBruijn64tab", laid_math_bits_deBruijn64tab), ("internal/strconv.uint64pow10", laid_internal_strconv_uint64pow10), ("strconv.ErrRange", laid_strconv_ErrRange), ("strconv.ErrSyntax", laid_strconv_ErrSyntax)], narrowed := true }
def TextTurnsUptoSaid : Prop := textTurnsUptoRow.holds Tryd.pinned (OpenSpec.upto textTurnsSpec)

/-- 'xclaw1.TextJoined', WHERE WHAT IT READS IS OF BULK AT MOST 1048576: true; the input reads as it did. -/
def textJoinedUptoRow : OpenClaim := { program := "ytapiiklnnkkdlaadoor", sum := "468943b8cdeeae8e805e4ad0b964e4c86ba532fe31e2df838022c814e04d75bd", func := "exactchange/xclaw1.TextJoined", spec := "textJoined", recurses := true, named := ["strconv.ErrSyntax", "strconv.ErrRange", "internal/strconv.uint64pow10", "math/bits.deBruijn32tab", "math/bits.deBruijn64tab"], apart := false, laid := [("math/bits.deBruijn32tab", laid_math_bits_deBruijn32tab), ("math/bits.deBruijn64tab", laid_math_bits_deBruijn64tab), ("internal/strconv.uint64pow10", laid_internal_strconv_uint64pow10), ("strconv.ErrRange", laid_strconv_ErrRange), ("strconv.ErrSyntax", laid_strconv_ErrSyntax)], narrowed := true }
def TextJoinedUptoSaid : Prop := textJoinedUptoRow.holds Tryd.pinned (OpenSpec.upto textJoinedSpec)

/-- 'xclaw4.NamesSame', WHERE WHAT IT READS IS OF BULK AT MOST 1048576: true; the input reads as it did. -/
def namesSameUptoRow : OpenClaim := { program := "ytapiiklnnkkdlaadoor", sum := "468943b8cdeeae8e805e4ad0b964e4c86ba532fe31e2df838022c814e04d75bd", func := "exactchange/xclaw4.NamesSame", spec := "namesSame", unfollowed := true, recurses := true, named := ["strconv.ErrSyntax", "strconv.ErrRange", "internal/strconv.uint64pow10", "math/bits.deBruijn32tab", "math/bits.deBruijn64tab"], loops := true, apart := false, laid := [("math/bits.deBruijn32tab", laid_math_bits_deBruijn32tab), ("math/bits.deBruijn64tab", laid_math_bits_deBruijn64tab), ("internal/strconv.uint64pow10", laid_internal_strconv_uint64pow10), ("strconv.ErrRange", laid_strconv_ErrRange), ("strconv.ErrSyntax", laid_strconv_ErrSyntax)], narrowed := true }
def NamesSameUptoSaid : Prop := namesSameUptoRow.holds Tryd.pinned (OpenSpec.upto namesSameSpec)

/-- 'xclaw5.PlainSame', WHERE WHAT IT READS IS OF BULK AT MOST 1048576: true; the input reads as it did. -/
def plainSameUptoRow : OpenClaim := { program := "ytapiiklnnkkdlaadoor", sum := "468943b8cdeeae8e805e4ad0b964e4c86ba532fe31e2df838022c814e04d75bd", func := "exactchange/xclaw5.PlainSame", spec := "plainSame", unfollowed := true, recurses := true, named := ["strconv.ErrSyntax", "strconv.ErrRange", "internal/strconv.uint64pow10", "math/bits.deBruijn32tab", "math/bits.deBruijn64tab"], loops := true, apart := false, laid := [("math/bits.deBruijn32tab", laid_math_bits_deBruijn32tab), ("math/bits.deBruijn64tab", laid_math_bits_deBruijn64tab), ("internal/strconv.uint64pow10", laid_internal_strconv_uint64pow10), ("strconv.ErrRange", laid_strconv_ErrRange), ("strconv.ErrSyntax", laid_strconv_ErrSyntax)], narrowed := true }
def PlainSameUptoSaid : Prop := plainSameUptoRow.holds Tryd.pinned (OpenSpec.upto plainSameSpec)

end Rows
end Go.Proofs.YtapiiklnnkkdlaaDoor
