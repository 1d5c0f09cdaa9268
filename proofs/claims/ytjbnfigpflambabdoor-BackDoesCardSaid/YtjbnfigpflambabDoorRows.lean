/-
  NARROWER THAN 'FOR EVERY INPUT', by the rows' own cells (each row's printed sentence says how): SayShows: laid · BackChecks: laid · StmtsBad: laid · StmtsBack: laid · BackDoes: laid · BackGood: laid · CommitsShow: laid · OthersStay: laid · UndoneGone: laid · PrepsRun: laid.
  DERIVED. THE GIVEN ROWS OF THIS SEAT. 10 by the template 'for every input the law returns true; each argument reads behind the call as it read before'; 0 by the template 'total and deterministic' (their statements: YtjbnfigpflambabDoorTotals.lean).
  GIVEN WITH THE SEED: the statements are not yours to turn. If you find one false, say at which input.
  Laid BY PROGRAM, IN A SANDBOX (cutbox-rows.mjs): the forced cells as the released guide's own fill.sh prints them over the translation 72c16eee09cf7577… (all of the seat's roots in one cut). By AI agents, Wed Nov 11 2026. No macro, syntax, notation, axiom, sorry.
-/
import Derived.Test.YtjbnfigpflambabDoorChecked
import GoSem.PinnedTables
import GoSem.Claim
import GoSem.ClaimJoined
import GoSem.ClaimMapViews
import Derived.JoinedTies
import Derived.KernelRfl
namespace Go.Proofs.YtjbnfigpflambabDoor
/- THE CELL 'sum', in the pinned program and in every row, IS THE sha256 OF THE DUMP (.gsa) THAT YtjbnfigpflambabDoorProg.lean LOADS. Nothing in Lean hashes anything: it is a label: what it is worth is what the hold of that sum in a sandbox is worth. -/
noncomputable def Tryd.pinned : Pinned := { name := "ytjbnfigpflambabdoor", sum := "72c16eee09cf75774c969487f4ffc92b9cf884b92b56aebe12e4ba76b6ae513a", checked := Tryd.checked }
namespace Rows
def none {H : Type} : Left H := { results := [], args := [] }

/- WHAT THE LISTED PACKAGE-LEVEL VARIABLES READ AS WHEN THE CALL BEGINS. Each datum BY PROGRAM (the guide's laid-datum.mjs) off the statement by which the dump's own 'gosem.cut.vars' lays the variable. In a bare row this is a premise. The card (YtjbnfigpflambabDoorCards.lean) ties it to the program's text. -/
def laid_unicode_utf8_acceptRanges {H : Type} : DataW H := .agg [.agg [.lit (.int .u8 128), .lit (.int .u8 191)], .agg [.lit (.int .u8 160), .lit (.int .u8 191)], .agg [.lit (.int .u8 128), .lit (.int .u8 159)], .agg [.lit (.int .u8 144), .lit (.int .u8 191)], .agg [.lit (.int .u8 128), .lit (.int .u8 143)], .agg [.lit (.int .u8 0), .lit (.int .u8 0)], .agg [.lit (.int .u8 0), .lit (.int .u8 0)], .agg [.lit (.int .u8 0), .lit (.int .u8 0)], .agg [.lit (.int .u8 0), .lit (.int .u8 0)], .agg [.lit (.int .u8 0), .lit (.int .u8 0)], .agg [.lit (.int .u8 0), .lit (.int .u8 0)], .agg [.lit (.int .u8 0), .lit (.int .u8 0)], .agg [.lit (.int .u8 0), .lit (.int .u8 0)], .agg [.lit (.int .u8 0), .lit (.int .u8 0)], .agg [.lit (.int .u8 0), .lit (.int .u8 0)], .agg [.lit (.int .u8 0), .lit (.int .u8 0)]]
def laid_tillerman_say_words {H : Type} : DataW H := .agg [.lit (.string []), .lit (.string [98, 101, 103, 105, 110]), .lit (.string [99, 111, 109, 109, 105, 116]), .lit (.string [114, 111, 108, 108, 98, 97, 99, 107]), .lit (.string [114, 101, 115, 101, 116]), .lit (.string [102, 97, 105, 108]), .lit (.string [103, 101, 116]), .lit (.string [114, 101, 97, 100]), .lit (.string [101, 120, 101, 99]), .lit (.string [115, 101, 116]), .lit (.string [112, 117, 116]), .lit (.string [112, 114, 101, 112])]
/-- One of Go's own tables, pinned by name: the form's constant. -/
def laid_unicode_utf8_first : DataW Unit := Go.Pinned.utf8First
def laid_math_bits_deBruijn32tab {H : Type} : DataW H := .agg [.lit (.int .u8 0), .lit (.int .u8 1), .lit (.int .u8 28), .lit (.int .u8 2), .lit (.int .u8 29), .lit (.int .u8 14), .lit (.int .u8 24), .lit (.int .u8 3), .lit (.int .u8 30), .lit (.int .u8 22), .lit (.int .u8 20), .lit (.int .u8 15), .lit (.int .u8 25), .lit (.int .u8 17), .lit (.int .u8 4), .lit (.int .u8 8), .lit (.int .u8 31), .lit (.int .u8 27), .lit (.int .u8 13), .lit (.int .u8 23), .lit (.int .u8 21), .lit (.int .u8 19), .lit (.int .u8 16), .lit (.int .u8 7), .lit (.int .u8 26), .lit (.int .u8 12), .lit (.int .u8 18), .lit (.int .u8 6), .lit (.int .u8 11), .lit (.int .u8 5), .lit (.int .u8 10), .lit (.int .u8 9)]
def laid_math_bits_deBruijn64tab {H : Type} : DataW H := .agg [.lit (.int .u8 0), .lit (.int .u8 1), .lit (.int .u8 56), .lit (.int .u8 2), .lit (.int .u8 57), .lit (.int .u8 49), .lit (.int .u8 28), .lit (.int .u8 3), .lit (.int .u8 61), .lit (.int .u8 58), .lit (.int .u8 42), .lit (.int .u8 50), .lit (.int .u8 38), .lit (.int .u8 29), .lit (.int .u8 17), .lit (.int .u8 4), .lit (.int .u8 62), .lit (.int .u8 47), .lit (.int .u8 59), .lit (.int .u8 36), .lit (.int .u8 45), .lit (.int .u8 43), .lit (.int .u8 51), .lit (.int .u8 22), .lit (.int .u8 53), .lit (.int .u8 39), .lit (.int .u8 33), .lit (.int .u8 30), .lit (.int .u8 24), .lit (.int .u8 18), .lit (.int .u8 12), .lit (.int .u8 5), .lit (.int .u8 63), .lit (.int .u8 55), .lit (.int .u8 48), .lit (.int .u8 27), .lit (.int .u8 60), .lit (.int .u8 41), .lit (.int .u8 37), .lit (.int .u8 16), .lit (.int .u8 46), .lit (.int .u8 35), .lit (.int .u8 44), .lit (.int .u8 21), .lit (.int .u8 52), .lit (.int .u8 32), .lit (.int .u8 23), .lit (.int .u8 11), .lit (.int .u8 54), .lit (.int .u8 26), .lit (.int .u8 40), .lit (.int .u8 15), .lit (.int .u8 34), .lit (.int .u8 20), .lit (.int .u8 31), .lit (.int .u8 10), .lit (.int .u8 25), .lit (.int .u8 14), .lit (.int .u8 19), .lit (.int .u8 9), .lit (.int .u8 13), .lit (.int .u8 8), .lit (.int .u8 7), .lit (.int .u8 6)]
def laid_internal_strconv_uint64pow10 {H : Type} : DataW H := .agg [.lit (.int .u64 1), .lit (.int .u64 10), .lit (.int .u64 100), .lit (.int .u64 1000), .lit (.int .u64 10000), .lit (.int .u64 100000), .lit (.int .u64 1000000), .lit (.int .u64 10000000), .lit (.int .u64 100000000), .lit (.int .u64 1000000000), .lit (.int .u64 10000000000), .lit (.int .u64 100000000000), .lit (.int .u64 1000000000000), .lit (.int .u64 10000000000000), .lit (.int .u64 100000000000000), .lit (.int .u64 1000000000000000), .lit (.int .u64 10000000000000000), .lit (.int .u64 100000000000000000), .lit (.int .u64 1000000000000000000), .lit (.int .u64 10000000000000000000)]

/-- 'tillermanlaw.SayShows': WHATEVER THE INPUT: true; the input reads as it did. -/
def sayShowsSpec : ChangeSpec := { name := "sayShows", fn := fun _ => fun
  | [d] => { results := [.lit (.bool true)], args := [d] }
  | _ => none }
def sayShowsRow : OpenClaim := { program := "ytjbnfigpflambabdoor", sum := "72c16eee09cf75774c969487f4ffc92b9cf884b92b56aebe12e4ba76b6ae513a", func := "tillerman/tillermanlaw.SayShows", spec := "sayShows", inPlace := ["internal/bytealg.CountString", "internal/bytealg.IndexByteString", "internal/bytealg.IndexString"], unfollowed := true, recurses := true, named := ["tillerman/say.words", "unicode/utf8.first", "unicode/utf8.acceptRanges", "internal/bytealg.MaxLen"], apart := false, laid := [("unicode/utf8.acceptRanges", laid_unicode_utf8_acceptRanges), ("tillerman/say.words", laid_tillerman_say_words), ("unicode/utf8.first", laid_unicode_utf8_first)] }
def SayShowsSaid : Prop := sayShowsRow.holds Tryd.pinned (OpenSpec.ofChange sayShowsSpec)

/-- ITS FALSE NEIGHBOUR: 'it returns false'. Refute it at one input. -/
def sayShowsWrong : ChangeSpec := { name := "sayShows", fn := fun _ => fun
  | [d] => { results := [.lit (.bool false)], args := [d] }
  | _ => none }
def SayShowsWrongFalsely : Prop := sayShowsRow.holds Tryd.pinned (OpenSpec.ofChange sayShowsWrong)

/-- 'tillermanlaw.BackChecks': WHATEVER THE INPUT: true; the input reads as it did. -/
def backChecksSpec : ChangeSpec := { name := "backChecks", fn := fun _ => fun
  | [d] => { results := [.lit (.bool true)], args := [d] }
  | _ => none }
def backChecksRow : OpenClaim := { program := "ytjbnfigpflambabdoor", sum := "72c16eee09cf75774c969487f4ffc92b9cf884b92b56aebe12e4ba76b6ae513a", func := "tillerman/tillermanlaw.BackChecks", spec := "backChecks", inPlace := ["internal/bytealg.CountString", "internal/bytealg.IndexByteString", "internal/bytealg.IndexString", "internal/bytealg.abigen_runtime_cmpstring"], unfollowed := true, recurses := true, named := ["tillerman/say.words", "unicode/utf8.first", "unicode/utf8.acceptRanges", "internal/bytealg.MaxLen"], apart := false, laid := [("unicode/utf8.acceptRanges", laid_unicode_utf8_acceptRanges), ("tillerman/say.words", laid_tillerman_say_words), ("unicode/utf8.first", laid_unicode_utf8_first)] }
def BackChecksSaid : Prop := backChecksRow.holds Tryd.pinned (OpenSpec.ofChange backChecksSpec)

/-- ITS FALSE NEIGHBOUR: 'it returns false'. Refute it at one input. -/
def backChecksWrong : ChangeSpec := { name := "backChecks", fn := fun _ => fun
  | [d] => { results := [.lit (.bool false)], args := [d] }
  | _ => none }
def BackChecksWrongFalsely : Prop := backChecksRow.holds Tryd.pinned (OpenSpec.ofChange backChecksWrong)

/-- 'tillermankeep.StmtsBad': WHATEVER THE INPUT: true; the input reads as it did. -/
def stmtsBadSpec : ChangeSpec := { name := "stmtsBad", fn := fun _ => fun
  | [d1, d2] => { results := [.lit (.bool true)], args := [d1, d2] }
  | _ => none }
def stmtsBadRow : OpenClaim := { program := "ytjbnfigpflambabdoor", sum := "72c16eee09cf75774c969487f4ffc92b9cf884b92b56aebe12e4ba76b6ae513a", func := "tillerman/tillermankeep.StmtsBad", spec := "stmtsBad", inPlace := ["internal/abi.NoEscape", "internal/bytealg.MakeNoZero", "internal/bytealg.CountString", "internal/bytealg.IndexByteString", "internal/bytealg.IndexString"], unfollowed := true, recurses := true, named := ["tillerman/say.words", "unicode/utf8.first", "unicode/utf8.acceptRanges", "internal/bytealg.MaxLen"], apart := false, laid := [("unicode/utf8.acceptRanges", laid_unicode_utf8_acceptRanges), ("tillerman/say.words", laid_tillerman_say_words), ("unicode/utf8.first", laid_unicode_utf8_first)] }
def StmtsBadSaid : Prop := stmtsBadRow.holds Tryd.pinned (OpenSpec.ofChange stmtsBadSpec)

/-- ITS FALSE NEIGHBOUR: 'it returns false'. Refute it at one input. -/
def stmtsBadWrong : ChangeSpec := { name := "stmtsBad", fn := fun _ => fun
  | [d1, d2] => { results := [.lit (.bool false)], args := [d1, d2] }
  | _ => none }
def StmtsBadWrongFalsely : Prop := stmtsBadRow.holds Tryd.pinned (OpenSpec.ofChange stmtsBadWrong)

/-- 'tillermankeep.StmtsBack': WHATEVER THE INPUT: true; the input reads as it did. -/
def stmtsBackSpec : ChangeSpec := { name := "stmtsBack", fn := fun _ => fun
  | [d1, d2] => { results := [.lit (.bool true)], args := [d1, d2] }
  | _ => none }
def stmtsBackRow : OpenClaim := { program := "ytjbnfigpflambabdoor", sum := "72c16eee09cf75774c969487f4ffc92b9cf884b92b56aebe12e4ba76b6ae513a", func := "tillerman/tillermankeep.StmtsBack", spec := "stmtsBack", inPlace := ["internal/bytealg.CountString", "internal/bytealg.IndexByteString", "internal/bytealg.IndexString"], unfollowed := true, recurses := true, named := ["internal/strconv.uint64pow10", "math/bits.deBruijn32tab", "math/bits.deBruijn64tab", "tillerman/say.words", "unicode/utf8.first", "unicode/utf8.acceptRanges", "internal/bytealg.MaxLen"], apart := false, laid := [("math/bits.deBruijn32tab", laid_math_bits_deBruijn32tab), ("math/bits.deBruijn64tab", laid_math_bits_deBruijn64tab), ("internal/strconv.uint64pow10", laid_internal_strconv_uint64pow10), ("unicode/utf8.acceptRanges", laid_unicode_utf8_acceptRanges), ("tillerman/say.words", laid_tillerman_say_words), ("unicode/utf8.first", laid_unicode_utf8_first)] }
def StmtsBackSaid : Prop := stmtsBackRow.holds Tryd.pinned (OpenSpec.ofChange stmtsBackSpec)

/-- ITS FALSE NEIGHBOUR: 'it returns false'. Refute it at one input. -/
def stmtsBackWrong : ChangeSpec := { name := "stmtsBack", fn := fun _ => fun
  | [d1, d2] => { results := [.lit (.bool false)], args := [d1, d2] }
  | _ => none }
def StmtsBackWrongFalsely : Prop := stmtsBackRow.holds Tryd.pinned (OpenSpec.ofChange stmtsBackWrong)

/-- 'tillermanlaw.BackDoes': WHATEVER THE INPUT: true; the input reads as it did. -/
def backDoesSpec : ChangeSpec := { name := "backDoes", fn := fun _ => fun
  | [d1, d2, d3] => { results := [.lit (.bool true)], args := [d1, d2, d3] }
  | _ => none }
def backDoesRow : OpenClaim := { program := "ytjbnfigpflambabdoor", sum := "72c16eee09cf75774c969487f4ffc92b9cf884b92b56aebe12e4ba76b6ae513a", func := "tillerman/tillermanlaw.BackDoes", spec := "backDoes", inPlace := ["internal/bytealg.CountString", "internal/bytealg.IndexByteString", "internal/bytealg.IndexString", "internal/bytealg.abigen_runtime_cmpstring", "slices.overlaps[tillerman/api.Pair]"], unfollowed := true, recurses := true, named := ["tillerman/say.words", "unicode/utf8.first", "unicode/utf8.acceptRanges", "internal/bytealg.MaxLen"], apart := false, laid := [("unicode/utf8.acceptRanges", laid_unicode_utf8_acceptRanges), ("tillerman/say.words", laid_tillerman_say_words), ("unicode/utf8.first", laid_unicode_utf8_first)] }
def BackDoesSaid : Prop := backDoesRow.holds Tryd.pinned (OpenSpec.ofChange backDoesSpec)

/-- ITS FALSE NEIGHBOUR: 'it returns false'. Refute it at one input. -/
def backDoesWrong : ChangeSpec := { name := "backDoes", fn := fun _ => fun
  | [d1, d2, d3] => { results := [.lit (.bool false)], args := [d1, d2, d3] }
  | _ => none }
def BackDoesWrongFalsely : Prop := backDoesRow.holds Tryd.pinned (OpenSpec.ofChange backDoesWrong)

/-- 'tillermankeep.BackGood': WHATEVER THE INPUT: true; the input reads as it did. -/
def backGoodSpec : ChangeSpec := { name := "backGood", fn := fun _ => fun
  | [d1, d2] => { results := [.lit (.bool true)], args := [d1, d2] }
  | _ => none }
def backGoodRow : OpenClaim := { program := "ytjbnfigpflambabdoor", sum := "72c16eee09cf75774c969487f4ffc92b9cf884b92b56aebe12e4ba76b6ae513a", func := "tillerman/tillermankeep.BackGood", spec := "backGood", inPlace := ["internal/bytealg.CountString", "internal/bytealg.IndexByteString", "internal/bytealg.IndexString", "internal/bytealg.abigen_runtime_cmpstring", "slices.overlaps[tillerman/api.Pair]"], unfollowed := true, recurses := true, named := ["internal/strconv.uint64pow10", "math/bits.deBruijn32tab", "math/bits.deBruijn64tab", "tillerman/say.words", "unicode/utf8.first", "unicode/utf8.acceptRanges", "internal/bytealg.MaxLen"], apart := false, laid := [("math/bits.deBruijn32tab", laid_math_bits_deBruijn32tab), ("math/bits.deBruijn64tab", laid_math_bits_deBruijn64tab), ("internal/strconv.uint64pow10", laid_internal_strconv_uint64pow10), ("unicode/utf8.acceptRanges", laid_unicode_utf8_acceptRanges), ("tillerman/say.words", laid_tillerman_say_words), ("unicode/utf8.first", laid_unicode_utf8_first)] }
def BackGoodSaid : Prop := backGoodRow.holds Tryd.pinned (OpenSpec.ofChange backGoodSpec)

/-- ITS FALSE NEIGHBOUR: 'it returns false'. Refute it at one input. -/
def backGoodWrong : ChangeSpec := { name := "backGood", fn := fun _ => fun
  | [d1, d2] => { results := [.lit (.bool false)], args := [d1, d2] }
  | _ => none }
def BackGoodWrongFalsely : Prop := backGoodRow.holds Tryd.pinned (OpenSpec.ofChange backGoodWrong)

/-- 'tillermankeep.CommitsShow': WHATEVER THE INPUT: true; the input reads as it did. -/
def commitsShowSpec : ChangeSpec := { name := "commitsShow", fn := fun _ => fun
  | [d] => { results := [.lit (.bool true)], args := [d] }
  | _ => none }
def commitsShowRow : OpenClaim := { program := "ytjbnfigpflambabdoor", sum := "72c16eee09cf75774c969487f4ffc92b9cf884b92b56aebe12e4ba76b6ae513a", func := "tillerman/tillermankeep.CommitsShow", spec := "commitsShow", inPlace := ["internal/bytealg.CountString", "internal/bytealg.IndexByteString", "internal/bytealg.IndexString", "internal/bytealg.abigen_runtime_cmpstring", "slices.overlaps[tillerman/api.Pair]"], unfollowed := true, recurses := true, named := ["internal/strconv.uint64pow10", "math/bits.deBruijn32tab", "math/bits.deBruijn64tab", "tillerman/say.words", "unicode/utf8.first", "unicode/utf8.acceptRanges", "internal/bytealg.MaxLen"], apart := false, laid := [("math/bits.deBruijn32tab", laid_math_bits_deBruijn32tab), ("math/bits.deBruijn64tab", laid_math_bits_deBruijn64tab), ("internal/strconv.uint64pow10", laid_internal_strconv_uint64pow10), ("unicode/utf8.acceptRanges", laid_unicode_utf8_acceptRanges), ("tillerman/say.words", laid_tillerman_say_words), ("unicode/utf8.first", laid_unicode_utf8_first)] }
def CommitsShowSaid : Prop := commitsShowRow.holds Tryd.pinned (OpenSpec.ofChange commitsShowSpec)

/-- ITS FALSE NEIGHBOUR: 'it returns false'. Refute it at one input. -/
def commitsShowWrong : ChangeSpec := { name := "commitsShow", fn := fun _ => fun
  | [d] => { results := [.lit (.bool false)], args := [d] }
  | _ => none }
def CommitsShowWrongFalsely : Prop := commitsShowRow.holds Tryd.pinned (OpenSpec.ofChange commitsShowWrong)

/-- 'tillermankeep.OthersStay': WHATEVER THE INPUT: true; the input reads as it did. -/
def othersStaySpec : ChangeSpec := { name := "othersStay", fn := fun _ => fun
  | [d1, d2] => { results := [.lit (.bool true)], args := [d1, d2] }
  | _ => none }
def othersStayRow : OpenClaim := { program := "ytjbnfigpflambabdoor", sum := "72c16eee09cf75774c969487f4ffc92b9cf884b92b56aebe12e4ba76b6ae513a", func := "tillerman/tillermankeep.OthersStay", spec := "othersStay", inPlace := ["internal/bytealg.CountString", "internal/bytealg.IndexByteString", "internal/bytealg.IndexString", "internal/bytealg.abigen_runtime_cmpstring", "slices.overlaps[tillerman/api.Pair]"], unfollowed := true, recurses := true, named := ["internal/strconv.uint64pow10", "math/bits.deBruijn32tab", "math/bits.deBruijn64tab", "tillerman/say.words", "unicode/utf8.first", "unicode/utf8.acceptRanges", "internal/bytealg.MaxLen"], apart := false, laid := [("math/bits.deBruijn32tab", laid_math_bits_deBruijn32tab), ("math/bits.deBruijn64tab", laid_math_bits_deBruijn64tab), ("internal/strconv.uint64pow10", laid_internal_strconv_uint64pow10), ("unicode/utf8.acceptRanges", laid_unicode_utf8_acceptRanges), ("tillerman/say.words", laid_tillerman_say_words), ("unicode/utf8.first", laid_unicode_utf8_first)] }
def OthersStaySaid : Prop := othersStayRow.holds Tryd.pinned (OpenSpec.ofChange othersStaySpec)

/-- ITS FALSE NEIGHBOUR: 'it returns false'. Refute it at one input. -/
def othersStayWrong : ChangeSpec := { name := "othersStay", fn := fun _ => fun
  | [d1, d2] => { results := [.lit (.bool false)], args := [d1, d2] }
  | _ => none }
def OthersStayWrongFalsely : Prop := othersStayRow.holds Tryd.pinned (OpenSpec.ofChange othersStayWrong)

/-- 'tillermankeep.UndoneGone': WHATEVER THE INPUT: true; the input reads as it did. -/
def undoneGoneSpec : ChangeSpec := { name := "undoneGone", fn := fun _ => fun
  | [d1, d2, d3] => { results := [.lit (.bool true)], args := [d1, d2, d3] }
  | _ => none }
def undoneGoneRow : OpenClaim := { program := "ytjbnfigpflambabdoor", sum := "72c16eee09cf75774c969487f4ffc92b9cf884b92b56aebe12e4ba76b6ae513a", func := "tillerman/tillermankeep.UndoneGone", spec := "undoneGone", inPlace := ["internal/bytealg.CountString", "internal/bytealg.IndexByteString", "internal/bytealg.IndexString", "internal/bytealg.abigen_runtime_cmpstring", "slices.overlaps[tillerman/api.Pair]"], unfollowed := true, recurses := true, named := ["internal/strconv.uint64pow10", "math/bits.deBruijn32tab", "math/bits.deBruijn64tab", "tillerman/say.words", "unicode/utf8.first", "unicode/utf8.acceptRanges", "internal/bytealg.MaxLen"], apart := false, laid := [("math/bits.deBruijn32tab", laid_math_bits_deBruijn32tab), ("math/bits.deBruijn64tab", laid_math_bits_deBruijn64tab), ("internal/strconv.uint64pow10", laid_internal_strconv_uint64pow10), ("unicode/utf8.acceptRanges", laid_unicode_utf8_acceptRanges), ("tillerman/say.words", laid_tillerman_say_words), ("unicode/utf8.first", laid_unicode_utf8_first)] }
def UndoneGoneSaid : Prop := undoneGoneRow.holds Tryd.pinned (OpenSpec.ofChange undoneGoneSpec)

/-- ITS FALSE NEIGHBOUR: 'it returns false'. Refute it at one input. -/
def undoneGoneWrong : ChangeSpec := { name := "undoneGone", fn := fun _ => fun
  | [d1, d2, d3] => { results := [.lit (.bool false)], args := [d1, d2, d3] }
  | _ => none }
def UndoneGoneWrongFalsely : Prop := undoneGoneRow.holds Tryd.pinned (OpenSpec.ofChange undoneGoneWrong)

/-- 'tillermankeep.PrepsRun': WHATEVER THE INPUT: true; the input reads as it did. -/
def prepsRunSpec : ChangeSpec := { name := "prepsRun", fn := fun _ => fun
  | [d1, d2] => { results := [.lit (.bool true)], args := [d1, d2] }
  | _ => none }
def prepsRunRow : OpenClaim := { program := "ytjbnfigpflambabdoor", sum := "72c16eee09cf75774c969487f4ffc92b9cf884b92b56aebe12e4ba76b6ae513a", func := "tillerman/tillermankeep.PrepsRun", spec := "prepsRun", inPlace := ["internal/bytealg.CountString", "internal/bytealg.IndexByteString", "internal/bytealg.IndexString", "internal/bytealg.abigen_runtime_cmpstring", "slices.overlaps[tillerman/api.Pair]"], unfollowed := true, recurses := true, named := ["internal/strconv.uint64pow10", "math/bits.deBruijn32tab", "math/bits.deBruijn64tab", "tillerman/say.words", "unicode/utf8.first", "unicode/utf8.acceptRanges", "internal/bytealg.MaxLen"], apart := false, laid := [("math/bits.deBruijn32tab", laid_math_bits_deBruijn32tab), ("math/bits.deBruijn64tab", laid_math_bits_deBruijn64tab), ("internal/strconv.uint64pow10", laid_internal_strconv_uint64pow10), ("unicode/utf8.acceptRanges", laid_unicode_utf8_acceptRanges), ("tillerman/say.words", laid_tillerman_say_words), ("unicode/utf8.first", laid_unicode_utf8_first)] }
def PrepsRunSaid : Prop := prepsRunRow.holds Tryd.pinned (OpenSpec.ofChange prepsRunSpec)

/-- ITS FALSE NEIGHBOUR: 'it returns false'. Refute it at one input. -/
def prepsRunWrong : ChangeSpec := { name := "prepsRun", fn := fun _ => fun
  | [d1, d2] => { results := [.lit (.bool false)], args := [d1, d2] }
  | _ => none }
def PrepsRunWrongFalsely : Prop := prepsRunRow.holds Tryd.pinned (OpenSpec.ofChange prepsRunWrong)

/- THE SECOND FORM. 'bulk': how many values and letters a reading holds, each counted each time it is reached (what is shared counts as often as it is met; a slice's spare places count too). A statement '..UptoSaid' is the law's where the arguments, and the package variables that the reading takes, are together of bulk at most 1048576: NARROWER than '..Said'. Prove '..Said' where nothing that the law and all that it calls make is longer than what came in: it says more and counts as full. Else prove '..UptoSaid'. A law counts once. -/
mutual
def uptoBulk {H : Type} : DataW H → Nat
  | .lit (.string bytes) => bytes.length + 1
  | .lit _ => 1
  | .nil => 1
  | .ptr d => uptoBulk d + 1
  | .slice elems spare => uptoBulkAll elems + uptoBulkAll spare + 1
  | .agg parts => uptoBulkAll parts + 1
  | .iface _ d => uptoBulk d + 1
  | .map entries => uptoBulkEntries entries + 1
  | .held _ => 1
def uptoBulkAll {H : Type} : List (DataW H) → Nat
  | [] => 0
  | d :: r => uptoBulk d + uptoBulkAll r
def uptoBulkEntries {H : Type} : List (Lit × DataW H) → Nat
  | [] => 0
  | x :: r => uptoBulkEntry x + uptoBulkEntries r
def uptoBulkEntry {H : Type} : Lit × DataW H → Nat
  | (.string bytes, d) => bytes.length + uptoBulk d + 1
  | (_, d) => uptoBulk d + 1
 end
def uptoSmall : (H : Type) → List (DataW H) → Bool := fun _ ds => decide (uptoBulkAll ds ≤ 1048576)
def OpenSpec.upto (s : _root_.Go.ChangeSpec) : _root_.Go.OpenSpec := { _root_.Go.OpenSpec.ofChange s with cond := some uptoSmall }

/-- 'tillermanlaw.SayShows', WHERE WHAT IT READS IS OF BULK AT MOST 1048576: true; the input reads as it did. -/
def sayShowsUptoRow : OpenClaim := { program := "ytjbnfigpflambabdoor", sum := "72c16eee09cf75774c969487f4ffc92b9cf884b92b56aebe12e4ba76b6ae513a", func := "tillerman/tillermanlaw.SayShows", spec := "sayShows", inPlace := ["internal/bytealg.CountString", "internal/bytealg.IndexByteString", "internal/bytealg.IndexString"], unfollowed := true, recurses := true, named := ["tillerman/say.words", "unicode/utf8.first", "unicode/utf8.acceptRanges", "internal/bytealg.MaxLen"], apart := false, laid := [("unicode/utf8.acceptRanges", laid_unicode_utf8_acceptRanges), ("tillerman/say.words", laid_tillerman_say_words), ("unicode/utf8.first", laid_unicode_utf8_first)], narrowed := true }
def SayShowsUptoSaid : Prop := sayShowsUptoRow.holds Tryd.pinned (OpenSpec.upto sayShowsSpec)

/-- 'tillermanlaw.BackChecks', WHERE WHAT IT READS IS OF BULK AT MOST 1048576: true; the input reads as it did. -/
def backChecksUptoRow : OpenClaim := { program := "ytjbnfigpflambabdoor", sum := "72c16eee09cf75774c969487f4ffc92b9cf884b92b56aebe12e4ba76b6ae513a", func := "tillerman/tillermanlaw.BackChecks", spec := "backChecks", inPlace := ["internal/bytealg.CountString", "internal/bytealg.IndexByteString", "internal/bytealg.IndexString", "internal/bytealg.abigen_runtime_cmpstring"], unfollowed := true, recurses := true, named := ["tillerman/say.words", "unicode/utf8.first", "unicode/utf8.acceptRanges", "internal/bytealg.MaxLen"], apart := false, laid := [("unicode/utf8.acceptRanges", laid_unicode_utf8_acceptRanges), ("tillerman/say.words", laid_tillerman_say_words), ("unicode/utf8.first", laid_unicode_utf8_first)], narrowed := true }
def BackChecksUptoSaid : Prop := backChecksUptoRow.holds Tryd.pinned (OpenSpec.upto backChecksSpec)

/-- 'tillermankeep.StmtsBad', WHERE WHAT IT READS IS OF BULK AT MOST 1048576: true; the input reads as it did. -/
def stmtsBadUptoRow : OpenClaim := { program := "ytjbnfigpflambabdoor", sum := "72c16eee09cf75774c969487f4ffc92b9cf884b92b56aebe12e4ba76b6ae513a", func := "tillerman/tillermankeep.StmtsBad", spec := "stmtsBad", inPlace := ["internal/abi.NoEscape", "internal/bytealg.MakeNoZero", "internal/bytealg.CountString", "internal/bytealg.IndexByteString", "internal/bytealg.IndexString"], unfollowed := true, recurses := true, named := ["tillerman/say.words", "unicode/utf8.first", "unicode/utf8.acceptRanges", "internal/bytealg.MaxLen"], apart := false, laid := [("unicode/utf8.acceptRanges", laid_unicode_utf8_acceptRanges), ("tillerman/say.words", laid_tillerman_say_words), ("unicode/utf8.first", laid_unicode_utf8_first)], narrowed := true }
def StmtsBadUptoSaid : Prop := stmtsBadUptoRow.holds Tryd.pinned (OpenSpec.upto stmtsBadSpec)

/-- 'tillermankeep.StmtsBack', WHERE WHAT IT READS IS OF BULK AT MOST 1048576: true; the input reads as it did. -/
def stmtsBackUptoRow : OpenClaim := { program := "ytjbnfigpflambabdoor", sum := "72c16eee09cf75774c969487f4ffc92b9cf884b92b56aebe12e4ba76b6ae513a", func := "tillerman/tillermankeep.StmtsBack", spec := "stmtsBack", inPlace := ["internal/bytealg.CountString", "internal/bytealg.IndexByteString", "internal/bytealg.IndexString"], unfollowed := true, recurses := true, named := ["internal/strconv.uint64pow10", "math/bits.deBruijn32tab", "math/bits.deBruijn64tab", "tillerman/say.words", "unicode/utf8.first", "unicode/utf8.acceptRanges", "internal/bytealg.MaxLen"], apart := false, laid := [("math/bits.deBruijn32tab", laid_math_bits_deBruijn32tab), ("math/bits.deBruijn64tab", laid_math_bits_deBruijn64tab), ("internal/strconv.uint64pow10", laid_internal_strconv_uint64pow10), ("unicode/utf8.acceptRanges", laid_unicode_utf8_acceptRanges), ("tillerman/say.words", laid_tillerman_say_words), ("unicode/utf8.first", laid_unicode_utf8_first)], narrowed := true }
def StmtsBackUptoSaid : Prop := stmtsBackUptoRow.holds Tryd.pinned (OpenSpec.upto stmtsBackSpec)

/-- 'tillermanlaw.BackDoes', WHERE WHAT IT READS IS OF BULK AT MOST 1048576: true; the input reads as it did. -/
def backDoesUptoRow : OpenClaim := { program := "ytjbnfigpflambabdoor", sum := "72c16eee09cf75774c969487f4ffc92b9cf884b92b56aebe12e4ba76b6ae513a", func := "tillerman/tillermanlaw.BackDoes", spec := "backDoes", inPlace := ["internal/bytealg.CountString", "internal/bytealg.IndexByteString", "internal/bytealg.IndexString", "internal/bytealg.abigen_runtime_cmpstring", "slices.overlaps[tillerman/api.Pair]"], unfollowed := true, recurses := true, named := ["tillerman/say.words", "unicode/utf8.first", "unicode/utf8.acceptRanges", "internal/bytealg.MaxLen"], apart := false, laid := [("unicode/utf8.acceptRanges", laid_unicode_utf8_acceptRanges), ("tillerman/say.words", laid_tillerman_say_words), ("unicode/utf8.first", laid_unicode_utf8_first)], narrowed := true }
def BackDoesUptoSaid : Prop := backDoesUptoRow.holds Tryd.pinned (OpenSpec.upto backDoesSpec)

/-- 'tillermankeep.BackGood', WHERE WHAT IT READS IS OF BULK AT MOST 1048576: true; the input reads as it did. -/
def backGoodUptoRow : OpenClaim := { program := "ytjbnfigpflambabdoor", sum := "72c16eee09cf75774c969487f4ffc92b9cf884b92b56aebe12e4ba76b6ae513a", func := "tillerman/tillermankeep.BackGood", spec := "backGood", inPlace := ["internal/bytealg.CountString", "internal/bytealg.IndexByteString", "internal/bytealg.IndexString", "internal/bytealg.abigen_runtime_cmpstring", "slices.overlaps[tillerman/api.Pair]"], unfollowed := true, recurses := true, named := ["internal/strconv.uint64pow10", "math/bits.deBruijn32tab", "math/bits.deBruijn64tab", "tillerman/say.words", "unicode/utf8.first", "unicode/utf8.acceptRanges", "internal/bytealg.MaxLen"], apart := false, laid := [("math/bits.deBruijn32tab", laid_math_bits_deBruijn32tab), ("math/bits.deBruijn64tab", laid_math_bits_deBruijn64tab), ("internal/strconv.uint64pow10", laid_internal_strconv_uint64pow10), ("unicode/utf8.acceptRanges", laid_unicode_utf8_acceptRanges), ("tillerman/say.words", laid_tillerman_say_words), ("unicode/utf8.first", laid_unicode_utf8_first)], narrowed := true }
def BackGoodUptoSaid : Prop := backGoodUptoRow.holds Tryd.pinned (OpenSpec.upto backGoodSpec)

/-- 'tillermankeep.CommitsShow', WHERE WHAT IT READS IS OF BULK AT MOST 1048576: true; the input reads as it did. -/
def commitsShowUptoRow : OpenClaim := { program := "ytjbnfigpflambabdoor", sum := "72c16eee09cf75774c969487f4ffc92b9cf884b92b56aebe12e4ba76b6ae513a", func := "tillerman/tillermankeep.CommitsShow", spec := "commitsShow", inPlace := ["internal/bytealg.CountString", "internal/bytealg.IndexByteString", "internal/bytealg.IndexString", "internal/bytealg.abigen_runtime_cmpstring", "slices.overlaps[tillerman/api.Pair]"], unfollowed := true, recurses := true, named := ["internal/strconv.uint64pow10", "math/bits.deBruijn32tab", "math/bits.deBruijn64tab", "tillerman/say.words", "unicode/utf8.first", "unicode/utf8.acceptRanges", "internal/bytealg.MaxLen"], apart := false, laid := [("math/bits.deBruijn32tab", laid_math_bits_deBruijn32tab), ("math/bits.deBruijn64tab", laid_math_bits_deBruijn64tab), ("internal/strconv.uint64pow10", laid_internal_strconv_uint64pow10), ("unicode/utf8.acceptRanges", laid_unicode_utf8_acceptRanges), ("tillerman/say.words", laid_tillerman_say_words), ("unicode/utf8.first", laid_unicode_utf8_first)], narrowed := true }
def CommitsShowUptoSaid : Prop := commitsShowUptoRow.holds Tryd.pinned (OpenSpec.upto commitsShowSpec)

/-- 'tillermankeep.OthersStay', WHERE WHAT IT READS IS OF BULK AT MOST 1048576: true; the input reads as it did. -/
def othersStayUptoRow : OpenClaim := { program := "ytjbnfigpflambabdoor", sum := "72c16eee09cf75774c969487f4ffc92b9cf884b92b56aebe12e4ba76b6ae513a", func := "tillerman/tillermankeep.OthersStay", spec := "othersStay", inPlace := ["internal/bytealg.CountString", "internal/bytealg.IndexByteString", "internal/bytealg.IndexString", "internal/bytealg.abigen_runtime_cmpstring", "slices.overlaps[tillerman/api.Pair]"], unfollowed := true, recurses := true, named := ["internal/strconv.uint64pow10", "math/bits.deBruijn32tab", "math/bits.deBruijn64tab", "tillerman/say.words", "unicode/utf8.first", "unicode/utf8.acceptRanges", "internal/bytealg.MaxLen"], apart := false, laid := [("math/bits.deBruijn32tab", laid_math_bits_deBruijn32tab), ("math/bits.deBruijn64tab", laid_math_bits_deBruijn64tab), ("internal/strconv.uint64pow10", laid_internal_strconv_uint64pow10), ("unicode/utf8.acceptRanges", laid_unicode_utf8_acceptRanges), ("tillerman/say.words", laid_tillerman_say_words), ("unicode/utf8.first", laid_unicode_utf8_first)], narrowed := true }
def OthersStayUptoSaid : Prop := othersStayUptoRow.holds Tryd.pinned (OpenSpec.upto othersStaySpec)

/-- 'tillermankeep.UndoneGone', WHERE WHAT IT READS IS OF BULK AT MOST 1048576: true; the input reads as it did. -/
def undoneGoneUptoRow : OpenClaim := { program := "ytjbnfigpflambabdoor", sum := "72c16eee09cf75774c969487f4ffc92b9cf884b92b56aebe12e4ba76b6ae513a", func := "tillerman/tillermankeep.UndoneGone", spec := "undoneGone", inPlace := ["internal/bytealg.CountString", "internal/bytealg.IndexByteString", "internal/bytealg.IndexString", "internal/bytealg.abigen_runtime_cmpstring", "slices.overlaps[tillerman/api.Pair]"], unfollowed := true, recurses := true, named := ["internal/strconv.uint64pow10", "math/bits.deBruijn32tab", "math/bits.deBruijn64tab", "tillerman/say.words", "unicode/utf8.first", "unicode/utf8.acceptRanges", "internal/bytealg.MaxLen"], apart := false, laid := [("math/bits.deBruijn32tab", laid_math_bits_deBruijn32tab), ("math/bits.deBruijn64tab", laid_math_bits_deBruijn64tab), ("internal/strconv.uint64pow10", laid_internal_strconv_uint64pow10), ("unicode/utf8.acceptRanges", laid_unicode_utf8_acceptRanges), ("tillerman/say.words", laid_tillerman_say_words), ("unicode/utf8.first", laid_unicode_utf8_first)], narrowed := true }
def UndoneGoneUptoSaid : Prop := undoneGoneUptoRow.holds Tryd.pinned (OpenSpec.upto undoneGoneSpec)

/-- 'tillermankeep.PrepsRun', WHERE WHAT IT READS IS OF BULK AT MOST 1048576: true; the input reads as it did. -/
def prepsRunUptoRow : OpenClaim := { program := "ytjbnfigpflambabdoor", sum := "72c16eee09cf75774c969487f4ffc92b9cf884b92b56aebe12e4ba76b6ae513a", func := "tillerman/tillermankeep.PrepsRun", spec := "prepsRun", inPlace := ["internal/bytealg.CountString", "internal/bytealg.IndexByteString", "internal/bytealg.IndexString", "internal/bytealg.abigen_runtime_cmpstring", "slices.overlaps[tillerman/api.Pair]"], unfollowed := true, recurses := true, named := ["internal/strconv.uint64pow10", "math/bits.deBruijn32tab", "math/bits.deBruijn64tab", "tillerman/say.words", "unicode/utf8.first", "unicode/utf8.acceptRanges", "internal/bytealg.MaxLen"], apart := false, laid := [("math/bits.deBruijn32tab", laid_math_bits_deBruijn32tab), ("math/bits.deBruijn64tab", laid_math_bits_deBruijn64tab), ("internal/strconv.uint64pow10", laid_internal_strconv_uint64pow10), ("unicode/utf8.acceptRanges", laid_unicode_utf8_acceptRanges), ("tillerman/say.words", laid_tillerman_say_words), ("unicode/utf8.first", laid_unicode_utf8_first)], narrowed := true }
def PrepsRunUptoSaid : Prop := prepsRunUptoRow.holds Tryd.pinned (OpenSpec.upto prepsRunSpec)

end Rows
end Go.Proofs.YtjbnfigpflambabDoor
