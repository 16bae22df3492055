/-
  NARROWER THAN 'FOR EVERY INPUT', by the rows' own cells (each row's printed sentence says how): GrantAllows: laid · GrantMore: laid · GrantTexts: laid · GrantBack: laid · TagsMakes: laid · TagsOver: laid · TagsTexts: laid · TagsBack: laid · RulesLater: laid.
  DERIVED. THE GIVEN ROWS OF THIS SEAT. 9 by the template 'for every input the law returns true; each argument reads behind the call as it read before'; 0 by the template 'total and deterministic' (their statements: YtjbemleloffafaaDoorTotals.lean).
  GIVEN WITH THE SEED: the statements are not yours to turn. If you find one false, say at which input.
  Laid BY PROGRAM, IN A SANDBOX (cutbox-rows.mjs): the forced cells as the released guide's own fill.sh prints them over the translation 6405534e0d5ef669… (all of the seat's roots in one cut). By AI agents, Wed Nov 11 2026. No macro, syntax, notation, axiom, sorry.
-/
import Derived.Test.YtjbemleloffafaaDoorChecked
import GoSem.PinnedTables
import GoSem.Claim
import GoSem.ClaimJoined
import GoSem.ClaimMapViews
import Derived.JoinedTies
import Derived.KernelRfl
namespace Go.Proofs.YtjbemleloffafaaDoor
/- THE CELL 'sum', in the pinned program and in every row, IS THE sha256 OF THE DUMP (.gsa) THAT YtjbemleloffafaaDoorProg.lean LOADS. Nothing in Lean hashes anything: it is a label: what it is worth is what the hold of that sum in a sandbox is worth. -/
noncomputable def Tryd.pinned : Pinned := { name := "ytjbemleloffafaadoor", sum := "6405534e0d5ef66985aa5f3e5009163e3391ffe3c279776dd9d53d8507ad6de6", checked := Tryd.checked }
namespace Rows
def none {H : Type} : Left H := { results := [], args := [] }

/- WHAT THE LISTED PACKAGE-LEVEL VARIABLES READ AS WHEN THE CALL BEGINS. Each datum BY PROGRAM (the guide's laid-datum.mjs) off the statement by which the dump's own 'gosem.cut.vars' lays the variable. In a bare row this is a premise. The card (YtjbemleloffafaaDoorCards.lean) ties it to the program's text. -/
def laid_unicode_utf8_acceptRanges {H : Type} : DataW H := .agg [.agg [.lit (.int .u8 128), .lit (.int .u8 191)], .agg [.lit (.int .u8 160), .lit (.int .u8 191)], .agg [.lit (.int .u8 128), .lit (.int .u8 159)], .agg [.lit (.int .u8 144), .lit (.int .u8 191)], .agg [.lit (.int .u8 128), .lit (.int .u8 143)], .agg [.lit (.int .u8 0), .lit (.int .u8 0)], .agg [.lit (.int .u8 0), .lit (.int .u8 0)], .agg [.lit (.int .u8 0), .lit (.int .u8 0)], .agg [.lit (.int .u8 0), .lit (.int .u8 0)], .agg [.lit (.int .u8 0), .lit (.int .u8 0)], .agg [.lit (.int .u8 0), .lit (.int .u8 0)], .agg [.lit (.int .u8 0), .lit (.int .u8 0)], .agg [.lit (.int .u8 0), .lit (.int .u8 0)], .agg [.lit (.int .u8 0), .lit (.int .u8 0)], .agg [.lit (.int .u8 0), .lit (.int .u8 0)], .agg [.lit (.int .u8 0), .lit (.int .u8 0)]]
/-- One of Go's own tables, pinned by name: the form's constant. -/
def laid_unicode_utf8_first : DataW Unit := Go.Pinned.utf8First
def laid_math_bits_deBruijn32tab {H : Type} : DataW H := .agg [.lit (.int .u8 0), .lit (.int .u8 1), .lit (.int .u8 28), .lit (.int .u8 2), .lit (.int .u8 29), .lit (.int .u8 14), .lit (.int .u8 24), .lit (.int .u8 3), .lit (.int .u8 30), .lit (.int .u8 22), .lit (.int .u8 20), .lit (.int .u8 15), .lit (.int .u8 25), .lit (.int .u8 17), .lit (.int .u8 4), .lit (.int .u8 8), .lit (.int .u8 31), .lit (.int .u8 27), .lit (.int .u8 13), .lit (.int .u8 23), .lit (.int .u8 21), .lit (.int .u8 19), .lit (.int .u8 16), .lit (.int .u8 7), .lit (.int .u8 26), .lit (.int .u8 12), .lit (.int .u8 18), .lit (.int .u8 6), .lit (.int .u8 11), .lit (.int .u8 5), .lit (.int .u8 10), .lit (.int .u8 9)]
def laid_math_bits_deBruijn64tab {H : Type} : DataW H := .agg [.lit (.int .u8 0), .lit (.int .u8 1), .lit (.int .u8 56), .lit (.int .u8 2), .lit (.int .u8 57), .lit (.int .u8 49), .lit (.int .u8 28), .lit (.int .u8 3), .lit (.int .u8 61), .lit (.int .u8 58), .lit (.int .u8 42), .lit (.int .u8 50), .lit (.int .u8 38), .lit (.int .u8 29), .lit (.int .u8 17), .lit (.int .u8 4), .lit (.int .u8 62), .lit (.int .u8 47), .lit (.int .u8 59), .lit (.int .u8 36), .lit (.int .u8 45), .lit (.int .u8 43), .lit (.int .u8 51), .lit (.int .u8 22), .lit (.int .u8 53), .lit (.int .u8 39), .lit (.int .u8 33), .lit (.int .u8 30), .lit (.int .u8 24), .lit (.int .u8 18), .lit (.int .u8 12), .lit (.int .u8 5), .lit (.int .u8 63), .lit (.int .u8 55), .lit (.int .u8 48), .lit (.int .u8 27), .lit (.int .u8 60), .lit (.int .u8 41), .lit (.int .u8 37), .lit (.int .u8 16), .lit (.int .u8 46), .lit (.int .u8 35), .lit (.int .u8 44), .lit (.int .u8 21), .lit (.int .u8 52), .lit (.int .u8 32), .lit (.int .u8 23), .lit (.int .u8 11), .lit (.int .u8 54), .lit (.int .u8 26), .lit (.int .u8 40), .lit (.int .u8 15), .lit (.int .u8 34), .lit (.int .u8 20), .lit (.int .u8 31), .lit (.int .u8 10), .lit (.int .u8 25), .lit (.int .u8 14), .lit (.int .u8 19), .lit (.int .u8 9), .lit (.int .u8 13), .lit (.int .u8 8), .lit (.int .u8 7), .lit (.int .u8 6)]
def laid_internal_strconv_uint64pow10 {H : Type} : DataW H := .agg [.lit (.int .u64 1), .lit (.int .u64 10), .lit (.int .u64 100), .lit (.int .u64 1000), .lit (.int .u64 10000), .lit (.int .u64 100000), .lit (.int .u64 1000000), .lit (.int .u64 10000000), .lit (.int .u64 100000000), .lit (.int .u64 1000000000), .lit (.int .u64 10000000000), .lit (.int .u64 100000000000), .lit (.int .u64 1000000000000), .lit (.int .u64 10000000000000), .lit (.int .u64 100000000000000), .lit (.int .u64 1000000000000000), .lit (.int .u64 10000000000000000), .lit (.int .u64 100000000000000000), .lit (.int .u64 1000000000000000000), .lit (.int .u64 10000000000000000000)]
def laid_strconv_ErrRange {H : Type} : DataW H := .iface "*errors.errorString" (.ptr (.agg [.lit (.string [118, 97, 108, 117, 101, 32, 111, 117, 116, 32, 111, 102, 32, 114, 97, 110, 103, 101])]))
def laid_strconv_ErrSyntax {H : Type} : DataW H := .iface "*errors.errorString" (.ptr (.agg [.lit (.string [105, 110, 118, 97, 108, 105, 100, 32, 115, 121, 110, 116, 97, 120])]))
def laid_chartulary_rules_fields {H : Type} : DataW H := .agg [.lit (.string [112, 114, 101, 102, 105, 120, 61]), .lit (.string [116, 97, 103, 115, 61]), .lit (.string [100, 97, 121, 115, 61]), .lit (.string [111, 108, 100, 61]), .lit (.string [109, 97, 114, 107, 101, 114, 115, 61])]

/-- 'chartularylaw21.GrantAllows': WHATEVER THE INPUT: true; the input reads as it did. -/
def grantAllowsSpec : ChangeSpec := { name := "grantAllows", fn := fun _ => fun
  | [d1, d2, d3, d4] => { results := [.lit (.bool true)], args := [d1, d2, d3, d4] }
  | _ => none }
def grantAllowsRow : OpenClaim := { program := "ytjbemleloffafaadoor", sum := "6405534e0d5ef66985aa5f3e5009163e3391ffe3c279776dd9d53d8507ad6de6", func := "chartulary/chartularylaw21.GrantAllows", spec := "grantAllows", inPlace := ["internal/bytealg.CountString", "internal/bytealg.IndexByteString", "internal/bytealg.IndexString"], unfollowed := true, recurses := true, named := ["unicode/utf8.first", "unicode/utf8.acceptRanges", "internal/bytealg.MaxLen"], apart := false, laid := [("unicode/utf8.acceptRanges", laid_unicode_utf8_acceptRanges), ("unicode/utf8.first", laid_unicode_utf8_first)] }
def GrantAllowsSaid : Prop := grantAllowsRow.holds Tryd.pinned (OpenSpec.ofChange grantAllowsSpec)

/-- ITS FALSE NEIGHBOUR: 'it returns false'. Refute it at one input. -/
def grantAllowsWrong : ChangeSpec := { name := "grantAllows", fn := fun _ => fun
  | [d1, d2, d3, d4] => { results := [.lit (.bool false)], args := [d1, d2, d3, d4] }
  | _ => none }
def GrantAllowsWrongFalsely : Prop := grantAllowsRow.holds Tryd.pinned (OpenSpec.ofChange grantAllowsWrong)

/-- 'chartularylaw21.GrantMore': WHATEVER THE INPUT: true; the input reads as it did. -/
def grantMoreSpec : ChangeSpec := { name := "grantMore", fn := fun _ => fun
  | [d1, d2, d3, d4, d5] => { results := [.lit (.bool true)], args := [d1, d2, d3, d4, d5] }
  | _ => none }
def grantMoreRow : OpenClaim := { program := "ytjbemleloffafaadoor", sum := "6405534e0d5ef66985aa5f3e5009163e3391ffe3c279776dd9d53d8507ad6de6", func := "chartulary/chartularylaw21.GrantMore", spec := "grantMore", inPlace := ["internal/bytealg.CountString", "internal/bytealg.IndexByteString", "internal/bytealg.IndexString"], unfollowed := true, recurses := true, named := ["unicode/utf8.first", "unicode/utf8.acceptRanges", "internal/bytealg.MaxLen"], apart := false, laid := [("unicode/utf8.acceptRanges", laid_unicode_utf8_acceptRanges), ("unicode/utf8.first", laid_unicode_utf8_first)] }
def GrantMoreSaid : Prop := grantMoreRow.holds Tryd.pinned (OpenSpec.ofChange grantMoreSpec)

/-- ITS FALSE NEIGHBOUR: 'it returns false'. Refute it at one input. -/
def grantMoreWrong : ChangeSpec := { name := "grantMore", fn := fun _ => fun
  | [d1, d2, d3, d4, d5] => { results := [.lit (.bool false)], args := [d1, d2, d3, d4, d5] }
  | _ => none }
def GrantMoreWrongFalsely : Prop := grantMoreRow.holds Tryd.pinned (OpenSpec.ofChange grantMoreWrong)

/-- 'chartularylaw21.GrantTexts': WHATEVER THE INPUT: true; the input reads as it did. -/
def grantTextsSpec : ChangeSpec := { name := "grantTexts", fn := fun _ => fun
  | [d1, d2] => { results := [.lit (.bool true)], args := [d1, d2] }
  | _ => none }
def grantTextsRow : OpenClaim := { program := "ytjbemleloffafaadoor", sum := "6405534e0d5ef66985aa5f3e5009163e3391ffe3c279776dd9d53d8507ad6de6", func := "chartulary/chartularylaw21.GrantTexts", spec := "grantTexts", inPlace := ["internal/bytealg.IndexByteString", "internal/abi.NoEscape", "internal/bytealg.MakeNoZero", "internal/bytealg.CountString", "internal/bytealg.IndexString"], unfollowed := true, recurses := true, named := ["unicode/utf8.first", "unicode/utf8.acceptRanges", "internal/bytealg.MaxLen"], apart := false, laid := [("unicode/utf8.acceptRanges", laid_unicode_utf8_acceptRanges), ("unicode/utf8.first", laid_unicode_utf8_first)] }
def GrantTextsSaid : Prop := grantTextsRow.holds Tryd.pinned (OpenSpec.ofChange grantTextsSpec)

/-- ITS FALSE NEIGHBOUR: 'it returns false'. Refute it at one input. -/
def grantTextsWrong : ChangeSpec := { name := "grantTexts", fn := fun _ => fun
  | [d1, d2] => { results := [.lit (.bool false)], args := [d1, d2] }
  | _ => none }
def GrantTextsWrongFalsely : Prop := grantTextsRow.holds Tryd.pinned (OpenSpec.ofChange grantTextsWrong)

/-- 'chartularylaw21.GrantBack': WHATEVER THE INPUT: true; the input reads as it did. -/
def grantBackSpec : ChangeSpec := { name := "grantBack", fn := fun _ => fun
  | [d1, d2] => { results := [.lit (.bool true)], args := [d1, d2] }
  | _ => none }
def grantBackRow : OpenClaim := { program := "ytjbemleloffafaadoor", sum := "6405534e0d5ef66985aa5f3e5009163e3391ffe3c279776dd9d53d8507ad6de6", func := "chartulary/chartularylaw21.GrantBack", spec := "grantBack", inPlace := ["internal/bytealg.IndexByteString", "internal/abi.NoEscape", "internal/bytealg.MakeNoZero", "internal/bytealg.CountString", "internal/bytealg.IndexString"], unfollowed := true, recurses := true, named := ["unicode/utf8.first", "unicode/utf8.acceptRanges", "internal/bytealg.MaxLen"], apart := false, laid := [("unicode/utf8.acceptRanges", laid_unicode_utf8_acceptRanges), ("unicode/utf8.first", laid_unicode_utf8_first)] }
def GrantBackSaid : Prop := grantBackRow.holds Tryd.pinned (OpenSpec.ofChange grantBackSpec)

/-- ITS FALSE NEIGHBOUR: 'it returns false'. Refute it at one input. -/
def grantBackWrong : ChangeSpec := { name := "grantBack", fn := fun _ => fun
  | [d1, d2] => { results := [.lit (.bool false)], args := [d1, d2] }
  | _ => none }
def GrantBackWrongFalsely : Prop := grantBackRow.holds Tryd.pinned (OpenSpec.ofChange grantBackWrong)

/-- 'chartularylaw08.TagsMakes': WHATEVER THE INPUT: true; the input reads as it did. -/
def tagsMakesSpec : ChangeSpec := { name := "tagsMakes", fn := fun _ => fun
  | [d] => { results := [.lit (.bool true)], args := [d] }
  | _ => none }
def tagsMakesRow : OpenClaim := { program := "ytjbemleloffafaadoor", sum := "6405534e0d5ef66985aa5f3e5009163e3391ffe3c279776dd9d53d8507ad6de6", func := "chartulary/chartularylaw08.TagsMakes", spec := "tagsMakes", inPlace := ["internal/bytealg.IndexByteString", "internal/abi.NoEscape", "internal/bytealg.MakeNoZero"], unfollowed := true, recurses := true, named := ["unicode/utf8.first", "unicode/utf8.acceptRanges"], apart := false, laid := [("unicode/utf8.acceptRanges", laid_unicode_utf8_acceptRanges), ("unicode/utf8.first", laid_unicode_utf8_first)] }
def TagsMakesSaid : Prop := tagsMakesRow.holds Tryd.pinned (OpenSpec.ofChange tagsMakesSpec)

/-- ITS FALSE NEIGHBOUR: 'it returns false'. Refute it at one input. -/
def tagsMakesWrong : ChangeSpec := { name := "tagsMakes", fn := fun _ => fun
  | [d] => { results := [.lit (.bool false)], args := [d] }
  | _ => none }
def TagsMakesWrongFalsely : Prop := tagsMakesRow.holds Tryd.pinned (OpenSpec.ofChange tagsMakesWrong)

/-- 'chartularylaw08.TagsOver': WHATEVER THE INPUT: true; the input reads as it did. -/
def tagsOverSpec : ChangeSpec := { name := "tagsOver", fn := fun _ => fun
  | [d1, d2, d3] => { results := [.lit (.bool true)], args := [d1, d2, d3] }
  | _ => none }
def tagsOverRow : OpenClaim := { program := "ytjbemleloffafaadoor", sum := "6405534e0d5ef66985aa5f3e5009163e3391ffe3c279776dd9d53d8507ad6de6", func := "chartulary/chartularylaw08.TagsOver", spec := "tagsOver", inPlace := ["internal/bytealg.IndexByteString", "internal/abi.NoEscape", "internal/bytealg.MakeNoZero"], unfollowed := true, recurses := true, named := ["unicode/utf8.first", "unicode/utf8.acceptRanges"], apart := false, laid := [("unicode/utf8.acceptRanges", laid_unicode_utf8_acceptRanges), ("unicode/utf8.first", laid_unicode_utf8_first)] }
def TagsOverSaid : Prop := tagsOverRow.holds Tryd.pinned (OpenSpec.ofChange tagsOverSpec)

/-- ITS FALSE NEIGHBOUR: 'it returns false'. Refute it at one input. -/
def tagsOverWrong : ChangeSpec := { name := "tagsOver", fn := fun _ => fun
  | [d1, d2, d3] => { results := [.lit (.bool false)], args := [d1, d2, d3] }
  | _ => none }
def TagsOverWrongFalsely : Prop := tagsOverRow.holds Tryd.pinned (OpenSpec.ofChange tagsOverWrong)

/-- 'chartularylaw08.TagsTexts': WHATEVER THE INPUT: true; the input reads as it did. -/
def tagsTextsSpec : ChangeSpec := { name := "tagsTexts", fn := fun _ => fun
  | [d1, d2] => { results := [.lit (.bool true)], args := [d1, d2] }
  | _ => none }
def tagsTextsRow : OpenClaim := { program := "ytjbemleloffafaadoor", sum := "6405534e0d5ef66985aa5f3e5009163e3391ffe3c279776dd9d53d8507ad6de6", func := "chartulary/chartularylaw08.TagsTexts", spec := "tagsTexts", inPlace := ["internal/bytealg.IndexByteString", "internal/abi.NoEscape", "internal/bytealg.MakeNoZero", "internal/bytealg.CountString", "internal/bytealg.IndexString"], unfollowed := true, recurses := true, named := ["unicode/utf8.first", "unicode/utf8.acceptRanges", "internal/bytealg.MaxLen"], apart := false, laid := [("unicode/utf8.acceptRanges", laid_unicode_utf8_acceptRanges), ("unicode/utf8.first", laid_unicode_utf8_first)] }
def TagsTextsSaid : Prop := tagsTextsRow.holds Tryd.pinned (OpenSpec.ofChange tagsTextsSpec)

/-- ITS FALSE NEIGHBOUR: 'it returns false'. Refute it at one input. -/
def tagsTextsWrong : ChangeSpec := { name := "tagsTexts", fn := fun _ => fun
  | [d1, d2] => { results := [.lit (.bool false)], args := [d1, d2] }
  | _ => none }
def TagsTextsWrongFalsely : Prop := tagsTextsRow.holds Tryd.pinned (OpenSpec.ofChange tagsTextsWrong)

/-- 'chartularylaw08.TagsBack': WHATEVER THE INPUT: true; the input reads as it did. -/
def tagsBackSpec : ChangeSpec := { name := "tagsBack", fn := fun _ => fun
  | [d1, d2] => { results := [.lit (.bool true)], args := [d1, d2] }
  | _ => none }
def tagsBackRow : OpenClaim := { program := "ytjbemleloffafaadoor", sum := "6405534e0d5ef66985aa5f3e5009163e3391ffe3c279776dd9d53d8507ad6de6", func := "chartulary/chartularylaw08.TagsBack", spec := "tagsBack", inPlace := ["internal/bytealg.IndexByteString", "internal/abi.NoEscape", "internal/bytealg.MakeNoZero", "internal/bytealg.CountString", "internal/bytealg.IndexString"], unfollowed := true, recurses := true, named := ["unicode/utf8.first", "unicode/utf8.acceptRanges", "internal/bytealg.MaxLen"], apart := false, laid := [("unicode/utf8.acceptRanges", laid_unicode_utf8_acceptRanges), ("unicode/utf8.first", laid_unicode_utf8_first)] }
def TagsBackSaid : Prop := tagsBackRow.holds Tryd.pinned (OpenSpec.ofChange tagsBackSpec)

/-- ITS FALSE NEIGHBOUR: 'it returns false'. Refute it at one input. -/
def tagsBackWrong : ChangeSpec := { name := "tagsBack", fn := fun _ => fun
  | [d1, d2] => { results := [.lit (.bool false)], args := [d1, d2] }
  | _ => none }
def TagsBackWrongFalsely : Prop := tagsBackRow.holds Tryd.pinned (OpenSpec.ofChange tagsBackWrong)

/-- 'chartularylaw22.RulesLater': WHATEVER THE INPUT: true; the input reads as it did. -/
def rulesLaterSpec : ChangeSpec := { name := "rulesLater", fn := fun _ => fun
  | [d1, d2, d3, d4] => { results := [.lit (.bool true)], args := [d1, d2, d3, d4] }
  | _ => none }
def rulesLaterRow : OpenClaim := { program := "ytjbemleloffafaadoor", sum := "6405534e0d5ef66985aa5f3e5009163e3391ffe3c279776dd9d53d8507ad6de6", func := "chartulary/chartularylaw22.RulesLater", spec := "rulesLater", inPlace := ["internal/bytealg.CountString", "internal/bytealg.IndexByteString", "internal/bytealg.IndexString"], unfollowed := true, recurses := true, named := ["unicode/utf8.first", "unicode/utf8.acceptRanges", "chartulary/rules.fields", "internal/bytealg.MaxLen", "strconv.ErrSyntax", "strconv.ErrRange", "internal/strconv.uint64pow10", "math/bits.deBruijn32tab", "math/bits.deBruijn64tab"], apart := false, laid := [("math/bits.deBruijn32tab", laid_math_bits_deBruijn32tab), ("math/bits.deBruijn64tab", laid_math_bits_deBruijn64tab), ("internal/strconv.uint64pow10", laid_internal_strconv_uint64pow10), ("unicode/utf8.acceptRanges", laid_unicode_utf8_acceptRanges), ("strconv.ErrRange", laid_strconv_ErrRange), ("strconv.ErrSyntax", laid_strconv_ErrSyntax), ("chartulary/rules.fields", laid_chartulary_rules_fields), ("unicode/utf8.first", laid_unicode_utf8_first)] }
def RulesLaterSaid : Prop := rulesLaterRow.holds Tryd.pinned (OpenSpec.ofChange rulesLaterSpec)

/-- ITS FALSE NEIGHBOUR: 'it returns false'. Refute it at one input. -/
def rulesLaterWrong : ChangeSpec := { name := "rulesLater", fn := fun _ => fun
  | [d1, d2, d3, d4] => { results := [.lit (.bool false)], args := [d1, d2, d3, d4] }
  | _ => none }
def RulesLaterWrongFalsely : Prop := rulesLaterRow.holds Tryd.pinned (OpenSpec.ofChange rulesLaterWrong)

/- THE SECOND FORM. 'bulk': how many values and letters a reading holds, each counted each time it is reached (what is shared counts as often as it is met; a slice's spare places count too). A statement '..UptoSaid' is the law's where the arguments, and the package variables that the reading takes, are together of bulk at most 1048576: NARROWER than '..Said'. Prove '..Said' where nothing that the law and all that it calls make is longer than what came in: it says more and counts as full. Else prove '..UptoSaid'. A law counts once. -/
mutual
def uptoBulk {H : Type} : DataW H → Nat
  | .lit (.string bytes) => bytes.length + 1
  | .lit _ => 1
  | .nil => 1
  | .ptr d => uptoBulk d + 1
  | .slice elems spare => uptoBulkAll elems + uptoBulkAll spare + 1
  | .agg parts => uptoBulkAll parts + 1
  | .iface _ d => uptoBulk d + 1
  | .map entries => uptoBulkEntries entries + 1
  | .held _ => 1
def uptoBulkAll {H : Type} : List (DataW H) → Nat
  | [] => 0
  | d :: r => uptoBulk d + uptoBulkAll r
def uptoBulkEntries {H : Type} : List (Lit × DataW H) → Nat
  | [] => 0
  | x :: r => uptoBulkEntry x + uptoBulkEntries r
def uptoBulkEntry {H : Type} : Lit × DataW H → Nat
  | (.string bytes, d) => bytes.length + uptoBulk d + 1
  | (_, d) => uptoBulk d + 1
 end
def uptoSmall : (H : Type) → List (DataW H) → Bool := fun _ ds => decide (uptoBulkAll ds ≤ 1048576)
def OpenSpec.upto (s : _root_.Go.ChangeSpec) : _root_.Go.OpenSpec := { _root_.Go.OpenSpec.ofChange s with cond := some uptoSmall }

/-- 'chartularylaw21.GrantAllows', WHERE WHAT IT READS IS OF BULK AT MOST 1048576: true; the input reads as it did. -/
def grantAllowsUptoRow : OpenClaim := { program := "ytjbemleloffafaadoor", sum := "6405534e0d5ef66985aa5f3e5009163e3391ffe3c279776dd9d53d8507ad6de6", func := "chartulary/chartularylaw21.GrantAllows", spec := "grantAllows", inPlace := ["internal/bytealg.CountString", "internal/bytealg.IndexByteString", "internal/bytealg.IndexString"], unfollowed := true, recurses := true, named := ["unicode/utf8.first", "unicode/utf8.acceptRanges", "internal/bytealg.MaxLen"], apart := false, laid := [("unicode/utf8.acceptRanges", laid_unicode_utf8_acceptRanges), ("unicode/utf8.first", laid_unicode_utf8_first)], narrowed := true }
def GrantAllowsUptoSaid : Prop := grantAllowsUptoRow.holds Tryd.pinned (OpenSpec.upto grantAllowsSpec)

/-- 'chartularylaw21.GrantMore', WHERE WHAT IT READS IS OF BULK AT MOST 1048576: true; the input reads as it did. -/
def grantMoreUptoRow : OpenClaim := { program := "ytjbemleloffafaadoor", sum := "6405534e0d5ef66985aa5f3e5009163e3391ffe3c279776dd9d53d8507ad6de6", func := "chartulary/chartularylaw21.GrantMore", spec := "grantMore", inPlace := ["internal/bytealg.CountString", "internal/bytealg.IndexByteString", "internal/bytealg.IndexString"], unfollowed := true, recurses := true, named := ["unicode/utf8.first", "unicode/utf8.acceptRanges", "internal/bytealg.MaxLen"], apart := false, laid := [("unicode/utf8.acceptRanges", laid_unicode_utf8_acceptRanges), ("unicode/utf8.first", laid_unicode_utf8_first)], narrowed := true }
def GrantMoreUptoSaid : Prop := grantMoreUptoRow.holds Tryd.pinned (OpenSpec.upto grantMoreSpec)

/-- 'chartularylaw21.GrantTexts', WHERE WHAT IT READS IS OF BULK AT MOST 1048576: true; the input reads as it did. -/
def grantTextsUptoRow : OpenClaim := { program := "ytjbemleloffafaadoor", sum := "6405534e0d5ef66985aa5f3e5009163e3391ffe3c279776dd9d53d8507ad6de6", func := "chartulary/chartularylaw21.GrantTexts", spec := "grantTexts", inPlace := ["internal/bytealg.IndexByteString", "internal/abi.NoEscape", "internal/bytealg.MakeNoZero", "internal/bytealg.CountString", "internal/bytealg.IndexString"], unfollowed := true, recurses := true, named := ["unicode/utf8.first", "unicode/utf8.acceptRanges", "internal/bytealg.MaxLen"], apart := false, laid := [("unicode/utf8.acceptRanges", laid_unicode_utf8_acceptRanges), ("unicode/utf8.first", laid_unicode_utf8_first)], narrowed := true }
def GrantTextsUptoSaid : Prop := grantTextsUptoRow.holds Tryd.pinned (OpenSpec.upto grantTextsSpec)

/-- 'chartularylaw21.GrantBack', WHERE WHAT IT READS IS OF BULK AT MOST 1048576: true; the input reads as it did. -/
def grantBackUptoRow : OpenClaim := { program := "ytjbemleloffafaadoor", sum := "6405534e0d5ef66985aa5f3e5009163e3391ffe3c279776dd9d53d8507ad6de6", func := "chartulary/chartularylaw21.GrantBack", spec := "grantBack", inPlace := ["internal/bytealg.IndexByteString", "internal/abi.NoEscape", "internal/bytealg.MakeNoZero", "internal/bytealg.CountString", "internal/bytealg.IndexString"], unfollowed := true, recurses := true, named := ["unicode/utf8.first", "unicode/utf8.acceptRanges", "internal/bytealg.MaxLen"], apart := false, laid := [("unicode/utf8.acceptRanges", laid_unicode_utf8_acceptRanges), ("unicode/utf8.first", laid_unicode_utf8_first)], narrowed := true }
def GrantBackUptoSaid : Prop := grantBackUptoRow.holds Tryd.pinned (OpenSpec.upto grantBackSpec)

/-- 'chartularylaw08.TagsMakes', WHERE WHAT IT READS IS OF BULK AT MOST 1048576: true; the input reads as it did. -/
def tagsMakesUptoRow : OpenClaim := { program := "ytjbemleloffafaadoor", sum := "6405534e0d5ef66985aa5f3e5009163e3391ffe3c279776dd9d53d8507ad6de6", func := "chartulary/chartularylaw08.TagsMakes", spec := "tagsMakes", inPlace := ["internal/bytealg.IndexByteString", "internal/abi.NoEscape", "internal/bytealg.MakeNoZero"], unfollowed := true, recurses := true, named := ["unicode/utf8.first", "unicode/utf8.acceptRanges"], apart := false, laid := [("unicode/utf8.acceptRanges", laid_unicode_utf8_acceptRanges), ("unicode/utf8.first", laid_unicode_utf8_first)], narrowed := true }
def TagsMakesUptoSaid : Prop := tagsMakesUptoRow.holds Tryd.pinned (OpenSpec.upto tagsMakesSpec)

/-- 'chartularylaw08.TagsOver', WHERE WHAT IT READS IS OF BULK AT MOST 1048576: true; the input reads as it did. -/
def tagsOverUptoRow : OpenClaim := { program := "ytjbemleloffafaadoor", sum := "6405534e0d5ef66985aa5f3e5009163e3391ffe3c279776dd9d53d8507ad6de6", func := "chartulary/chartularylaw08.TagsOver", spec := "tagsOver", inPlace := ["internal/bytealg.IndexByteString", "internal/abi.NoEscape", "internal/bytealg.MakeNoZero"], unfollowed := true, recurses := true, named := ["unicode/utf8.first", "unicode/utf8.acceptRanges"], apart := false, laid := [("unicode/utf8.acceptRanges", laid_unicode_utf8_acceptRanges), ("unicode/utf8.first", laid_unicode_utf8_first)], narrowed := true }
def TagsOverUptoSaid : Prop := tagsOverUptoRow.holds Tryd.pinned (OpenSpec.upto tagsOverSpec)

/-- 'chartularylaw08.TagsTexts', WHERE WHAT IT READS IS OF BULK AT MOST 1048576: true; the input reads as it did. -/
def tagsTextsUptoRow : OpenClaim := { program := "ytjbemleloffafaadoor", sum := "6405534e0d5ef66985aa5f3e5009163e3391ffe3c279776dd9d53d8507ad6de6", func := "chartulary/chartularylaw08.TagsTexts", spec := "tagsTexts", inPlace := ["internal/bytealg.IndexByteString", "internal/abi.NoEscape", "internal/bytealg.MakeNoZero", "internal/bytealg.CountString", "internal/bytealg.IndexString"], unfollowed := true, recurses := true, named := ["unicode/utf8.first", "unicode/utf8.acceptRanges", "internal/bytealg.MaxLen"], apart := false, laid := [("unicode/utf8.acceptRanges", laid_unicode_utf8_acceptRanges), ("unicode/utf8.first", laid_unicode_utf8_first)], narrowed := true }
def TagsTextsUptoSaid : Prop := tagsTextsUptoRow.holds Tryd.pinned (OpenSpec.upto tagsTextsSpec)

/-- 'chartularylaw08.TagsBack', WHERE WHAT IT READS IS OF BULK AT MOST 1048576: true; the input reads as it did. -/
def tagsBackUptoRow : OpenClaim := { program := "ytjbemleloffafaadoor", sum := "6405534e0d5ef66985aa5f3e5009163e3391ffe3c279776dd9d53d8507ad6de6", func := "chartulary/chartularylaw08.TagsBack", spec := "tagsBack", inPlace := ["internal/bytealg.IndexByteString", "internal/abi.NoEscape", "internal/bytealg.MakeNoZero", "internal/bytealg.CountString", "internal/bytealg.IndexString"], unfollowed := true, recurses := true, named := ["unicode/utf8.first", "unicode/utf8.acceptRanges", "internal/bytealg.MaxLen"], apart := false, laid := [("unicode/utf8.acceptRanges", laid_unicode_utf8_acceptRanges), ("unicode/utf8.first", laid_unicode_utf8_first)], narrowed := true }
def TagsBackUptoSaid : Prop := tagsBackUptoRow.holds Tryd.pinned (OpenSpec.upto tagsBackSpec)

/-- 'chartularylaw22.RulesLater', WHERE WHAT IT READS IS OF BULK AT MOST 1048576: true; the input reads as it did. -/
def rulesLaterUptoRow : OpenClaim := { program := "ytjbemleloffafaadoor", sum := "6405534e0d5ef66985aa5f3e5009163e3391ffe3c279776dd9d53d8507ad6de6", func := "chartulary/chartularylaw22.RulesLater", spec := "rulesLater", inPlace := ["internal/bytealg.CountString", "internal/bytealg.IndexByteString", "internal/bytealg.IndexString"], unfollowed := true, recurses := true, named := ["unicode/utf8.first", "unicode/utf8.acceptRanges", "chartulary/rules.fields", "internal/bytealg.MaxLen", "strconv.ErrSyntax", "strconv.ErrRange", "internal/strconv.uint64pow10", "math/bits.deBruijn32tab", "math/bits.deBruijn64tab"], apart := false, laid := [("math/bits.deBruijn32tab", laid_math_bits_deBruijn32tab), ("math/bits.deBruijn64tab", laid_math_bits_deBruijn64tab), ("internal/strconv.uint64pow10", laid_internal_strconv_uint64pow10), ("unicode/utf8.acceptRanges", laid_unicode_utf8_acceptRanges), ("strconv.ErrRange", laid_strconv_ErrRange), ("strconv.ErrSyntax", laid_strconv_ErrSyntax), ("chartulary/rules.fields", laid_chartulary_rules_fields), ("unicode/utf8.first", laid_unicode_utf8_first)], narrowed := true }
def RulesLaterUptoSaid : Prop := rulesLaterUptoRow.holds Tryd.pinned (OpenSpec.upto rulesLaterSpec)

end Rows
end Go.Proofs.YtjbemleloffafaaDoor
