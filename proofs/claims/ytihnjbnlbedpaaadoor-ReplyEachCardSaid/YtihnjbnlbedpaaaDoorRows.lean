/-
  NARROWER THAN 'FOR EVERY INPUT', by the rows' own cells (each row's printed sentence says how): KeysMatchesReference: laid · KeysAnnounced: laid · KeysAlways: laid · KeysForged: laid · KeysLast: laid · KeysPub: laid · ReplyMessages: laid · ReplyHonest: laid · ReplyEach: laid.
  DERIVED. THE GIVEN ROWS OF THIS SEAT. 9 by the template 'for every input the law returns true; each argument reads behind the call as it read before'; 0 by the template 'total and deterministic' (their statements: YtihnjbnlbedpaaaDoorTotals.lean).
  GIVEN WITH THE SEED: the statements are not yours to turn. If you find one false, say at which input.
  Laid BY PROGRAM, IN A SANDBOX (cutbox-rows.mjs): the forced cells as the released guide's own fill.sh prints them over the translation f6d3ce735cf6b8e9… (all of the seat's roots in one cut). By AI agents, Wed Nov 11 2026. No macro, syntax, notation, axiom, sorry.
-/
import Derived.Test.YtihnjbnlbedpaaaDoorChecked
import GoSem.Claim
import GoSem.ClaimJoined
import GoSem.ClaimMapViews
import Derived.JoinedTies
import Derived.KernelRfl
namespace Go.Proofs.YtihnjbnlbedpaaaDoor
/- THE CELL 'sum', in the pinned program and in every row, IS THE sha256 OF THE DUMP (.gsa) THAT YtihnjbnlbedpaaaDoorProg.lean LOADS. Nothing in Lean hashes anything: it is a label: what it is worth is what the hold of that sum in a sandbox is worth. -/
noncomputable def Tryd.pinned : Pinned := { name := "ytihnjbnlbedpaaadoor", sum := "f6d3ce735cf6b8e9fa84fd12dc083ceb38b85f88fdd1d4b07cd7b927941b2c26", checked := Tryd.checked }
namespace Rows
def none {H : Type} : Left H := { results := [], args := [] }

/- WHAT THE LISTED PACKAGE-LEVEL VARIABLES READ AS WHEN THE CALL BEGINS. Each datum BY PROGRAM (the guide's laid-datum.mjs) off the statement by which the dump's own 'gosem.cut.vars' lays the variable. In a bare row this is a premise. The card (YtihnjbnlbedpaaaDoorCards.lean) ties it to the program's text. -/
def laid_math_bits_deBruijn32tab {H : Type} : DataW H := .agg [.lit (.int .u8 0), .lit (.int .u8 1), .lit (.int .u8 28), .lit (.int .u8 2), .lit (.int .u8 29), .lit (.int .u8 14), .lit (.int .u8 24), .lit (.int .u8 3), .lit (.int .u8 30), .lit (.int .u8 22), .lit (.int .u8 20), .lit (.int .u8 15), .lit (.int .u8 25), .lit (.int .u8 17), .lit (.int .u8 4), .lit (.int .u8 8), .lit (.int .u8 31), .lit (.int .u8 27), .lit (.int .u8 13), .lit (.int .u8 23), .lit (.int .u8 21), .lit (.int .u8 19), .lit (.int .u8 16), .lit (.int .u8 7), .lit (.int .u8 26), .lit (.int .u8 12), .lit (.int .u8 18), .lit (.int .u8 6), .lit (.int .u8 11), .lit (.int .u8 5), .lit (.int .u8 10), .lit (.int .u8 9)]
def laid_math_bits_deBruijn64tab {H : Type} : DataW H := .agg [.lit (.int .u8 0), .lit (.int .u8 1), .lit (.int .u8 56), .lit (.int .u8 2), .lit (.int .u8 57), .lit (.int .u8 49), .lit (.int .u8 28), .lit (.int .u8 3), .lit (.int .u8 61), .lit (.int .u8 58), .lit (.int .u8 42), .lit (.int .u8 50), .lit (.int .u8 38), .lit (.int .u8 29), .lit (.int .u8 17), .lit (.int .u8 4), .lit (.int .u8 62), .lit (.int .u8 47), .lit (.int .u8 59), .lit (.int .u8 36), .lit (.int .u8 45), .lit (.int .u8 43), .lit (.int .u8 51), .lit (.int .u8 22), .lit (.int .u8 53), .lit (.int .u8 39), .lit (.int .u8 33), .lit (.int .u8 30), .lit (.int .u8 24), .lit (.int .u8 18), .lit (.int .u8 12), .lit (.int .u8 5), .lit (.int .u8 63), .lit (.int .u8 55), .lit (.int .u8 48), .lit (.int .u8 27), .lit (.int .u8 60), .lit (.int .u8 41), .lit (.int .u8 37), .lit (.int .u8 16), .lit (.int .u8 46), .lit (.int .u8 35), .lit (.int .u8 44), .lit (.int .u8 21), .lit (.int .u8 52), .lit (.int .u8 32), .lit (.int .u8 23), .lit (.int .u8 11), .lit (.int .u8 54), .lit (.int .u8 26), .lit (.int .u8 40), .lit (.int .u8 15), .lit (.int .u8 34), .lit (.int .u8 20), .lit (.int .u8 31), .lit (.int .u8 10), .lit (.int .u8 25), .lit (.int .u8 14), .lit (.int .u8 19), .lit (.int .u8 9), .lit (.int .u8 13), .lit (.int .u8 8), .lit (.int .u8 7), .lit (.int .u8 6)]
def laid_internal_strconv_uint64pow10 {H : Type} : DataW H := .agg [.lit (.int .u64 1), .lit (.int .u64 10), .lit (.int .u64 100), .lit (.int .u64 1000), .lit (.int .u64 10000), .lit (.int .u64 100000), .lit (.int .u64 1000000), .lit (.int .u64 10000000), .lit (.int .u64 100000000), .lit (.int .u64 1000000000), .lit (.int .u64 10000000000), .lit (.int .u64 100000000000), .lit (.int .u64 1000000000000), .lit (.int .u64 10000000000000), .lit (.int .u64 100000000000000), .lit (.int .u64 1000000000000000), .lit (.int .u64 10000000000000000), .lit (.int .u64 100000000000000000), .lit (.int .u64 1000000000000000000), .lit (.int .u64 10000000000000000000)]

/-- 'regulatorlaw22.KeysMatchesReference': WHATEVER THE INPUT: true; the input reads as it did. -/
def keysMatchesReferenceSpec : ChangeSpec := { name := "keysMatchesReference", fn := fun _ => fun
  | [d1, d2, d3, d4, d5, d6, d7] => { results := [.lit (.bool true)], args := [d1, d2, d3, d4, d5, d6, d7] }
  | _ => none }
def keysMatchesReferenceRow : OpenClaim := { program := "ytihnjbnlbedpaaadoor", sum := "f6d3ce735cf6b8e9fa84fd12dc083ceb38b85f88fdd1d4b07cd7b927941b2c26", func := "regulator/regulatorlaw22.KeysMatchesReference", spec := "keysMatchesReference", inPlace := ["slices.overlaps[regulator/api.KeyWin]"], unfollowed := true, recurses := true, named := ["internal/strconv.uint64pow10", "math/bits.deBruijn32tab", "math/bits.deBruijn64tab"], apart := false, laid := [("math/bits.deBruijn32tab", laid_math_bits_deBruijn32tab), ("math/bits.deBruijn64tab", laid_math_bits_deBruijn64tab), ("internal/strconv.uint64pow10", laid_internal_strconv_uint64pow10)] }
def KeysMatchesReferenceSaid : Prop := keysMatchesReferenceRow.holds Tryd.pinned (OpenSpec.ofChange keysMatchesReferenceSpec)

/-- ITS FALSE NEIGHBOUR: 'it returns false'. Refute it at one input. -/
def keysMatchesReferenceWrong : ChangeSpec := { name := "keysMatchesReference", fn := fun _ => fun
  | [d1, d2, d3, d4, d5, d6, d7] => { results := [.lit (.bool false)], args := [d1, d2, d3, d4, d5, d6, d7] }
  | _ => none }
def KeysMatchesReferenceWrongFalsely : Prop := keysMatchesReferenceRow.holds Tryd.pinned (OpenSpec.ofChange keysMatchesReferenceWrong)

/-- 'regulatorlaw22.KeysAnnounced': WHATEVER THE INPUT: true; the input reads as it did. -/
def keysAnnouncedSpec : ChangeSpec := { name := "keysAnnounced", fn := fun _ => fun
  | [d1, d2, d3, d4, d5, d6, d7] => { results := [.lit (.bool true)], args := [d1, d2, d3, d4, d5, d6, d7] }
  | _ => none }
def keysAnnouncedRow : OpenClaim := { program := "ytihnjbnlbedpaaadoor", sum := "f6d3ce735cf6b8e9fa84fd12dc083ceb38b85f88fdd1d4b07cd7b927941b2c26", func := "regulator/regulatorlaw22.KeysAnnounced", spec := "keysAnnounced", inPlace := ["slices.overlaps[regulator/api.KeyWin]"], unfollowed := true, recurses := true, named := ["internal/strconv.uint64pow10", "math/bits.deBruijn32tab", "math/bits.deBruijn64tab"], apart := false, laid := [("math/bits.deBruijn32tab", laid_math_bits_deBruijn32tab), ("math/bits.deBruijn64tab", laid_math_bits_deBruijn64tab), ("internal/strconv.uint64pow10", laid_internal_strconv_uint64pow10)] }
def KeysAnnouncedSaid : Prop := keysAnnouncedRow.holds Tryd.pinned (OpenSpec.ofChange keysAnnouncedSpec)

/-- ITS FALSE NEIGHBOUR: 'it returns false'. Refute it at one input. -/
def keysAnnouncedWrong : ChangeSpec := { name := "keysAnnounced", fn := fun _ => fun
  | [d1, d2, d3, d4, d5, d6, d7] => { results := [.lit (.bool false)], args := [d1, d2, d3, d4, d5, d6, d7] }
  | _ => none }
def KeysAnnouncedWrongFalsely : Prop := keysAnnouncedRow.holds Tryd.pinned (OpenSpec.ofChange keysAnnouncedWrong)

/-- 'regulatorlaw22.KeysAlways': WHATEVER THE INPUT: true; the input reads as it did. -/
def keysAlwaysSpec : ChangeSpec := { name := "keysAlways", fn := fun _ => fun
  | [d1, d2, d3] => { results := [.lit (.bool true)], args := [d1, d2, d3] }
  | _ => none }
def keysAlwaysRow : OpenClaim := { program := "ytihnjbnlbedpaaadoor", sum := "f6d3ce735cf6b8e9fa84fd12dc083ceb38b85f88fdd1d4b07cd7b927941b2c26", func := "regulator/regulatorlaw22.KeysAlways", spec := "keysAlways", inPlace := ["slices.overlaps[regulator/api.KeyWin]"], unfollowed := true, recurses := true, named := ["internal/strconv.uint64pow10", "math/bits.deBruijn32tab", "math/bits.deBruijn64tab"], apart := false, laid := [("math/bits.deBruijn32tab", laid_math_bits_deBruijn32tab), ("math/bits.deBruijn64tab", laid_math_bits_deBruijn64tab), ("internal/strconv.uint64pow10", laid_internal_strconv_uint64pow10)] }
def KeysAlwaysSaid : Prop := keysAlwaysRow.holds Tryd.pinned (OpenSpec.ofChange keysAlwaysSpec)

/-- ITS FALSE NEIGHBOUR: 'it returns false'. Refute it at one input. -/
def keysAlwaysWrong : ChangeSpec := { name := "keysAlways", fn := fun _ => fun
  | [d1, d2, d3] => { results := [.lit (.bool false)], args := [d1, d2, d3] }
  | _ => none }
def KeysAlwaysWrongFalsely : Prop := keysAlwaysRow.holds Tryd.pinned (OpenSpec.ofChange keysAlwaysWrong)

/-- 'regulatorlaw22.KeysForged': WHATEVER THE INPUT: true; the input reads as it did. -/
def keysForgedSpec : ChangeSpec := { name := "keysForged", fn := fun _ => fun
  | [d1, d2, d3] => { results := [.lit (.bool true)], args := [d1, d2, d3] }
  | _ => none }
def keysForgedRow : OpenClaim := { program := "ytihnjbnlbedpaaadoor", sum := "f6d3ce735cf6b8e9fa84fd12dc083ceb38b85f88fdd1d4b07cd7b927941b2c26", func := "regulator/regulatorlaw22.KeysForged", spec := "keysForged", inPlace := ["slices.overlaps[regulator/api.KeyWin]"], unfollowed := true, recurses := true, named := ["internal/strconv.uint64pow10", "math/bits.deBruijn32tab", "math/bits.deBruijn64tab"], apart := false, laid := [("math/bits.deBruijn32tab", laid_math_bits_deBruijn32tab), ("math/bits.deBruijn64tab", laid_math_bits_deBruijn64tab), ("internal/strconv.uint64pow10", laid_internal_strconv_uint64pow10)] }
def KeysForgedSaid : Prop := keysForgedRow.holds Tryd.pinned (OpenSpec.ofChange keysForgedSpec)

/-- ITS FALSE NEIGHBOUR: 'it returns false'. Refute it at one input. -/
def keysForgedWrong : ChangeSpec := { name := "keysForged", fn := fun _ => fun
  | [d1, d2, d3] => { results := [.lit (.bool false)], args := [d1, d2, d3] }
  | _ => none }
def KeysForgedWrongFalsely : Prop := keysForgedRow.holds Tryd.pinned (OpenSpec.ofChange keysForgedWrong)

/-- 'regulatorlaw22.KeysLast': WHATEVER THE INPUT: true; the input reads as it did. -/
def keysLastSpec : ChangeSpec := { name := "keysLast", fn := fun _ => fun
  | [d1, d2] => { results := [.lit (.bool true)], args := [d1, d2] }
  | _ => none }
def keysLastRow : OpenClaim := { program := "ytihnjbnlbedpaaadoor", sum := "f6d3ce735cf6b8e9fa84fd12dc083ceb38b85f88fdd1d4b07cd7b927941b2c26", func := "regulator/regulatorlaw22.KeysLast", spec := "keysLast", inPlace := ["slices.overlaps[regulator/api.KeyWin]"], unfollowed := true, recurses := true, named := ["internal/strconv.uint64pow10", "math/bits.deBruijn32tab", "math/bits.deBruijn64tab"], apart := false, laid := [("math/bits.deBruijn32tab", laid_math_bits_deBruijn32tab), ("math/bits.deBruijn64tab", laid_math_bits_deBruijn64tab), ("internal/strconv.uint64pow10", laid_internal_strconv_uint64pow10)] }
def KeysLastSaid : Prop := keysLastRow.holds Tryd.pinned (OpenSpec.ofChange keysLastSpec)

/-- ITS FALSE NEIGHBOUR: 'it returns false'. Refute it at one input. -/
def keysLastWrong : ChangeSpec := { name := "keysLast", fn := fun _ => fun
  | [d1, d2] => { results := [.lit (.bool false)], args := [d1, d2] }
  | _ => none }
def KeysLastWrongFalsely : Prop := keysLastRow.holds Tryd.pinned (OpenSpec.ofChange keysLastWrong)

/-- 'regulatorlaw22.KeysPub': WHATEVER THE INPUT: true; the input reads as it did. -/
def keysPubSpec : ChangeSpec := { name := "keysPub", fn := fun _ => fun
  | [d1, d2, d3, d4] => { results := [.lit (.bool true)], args := [d1, d2, d3, d4] }
  | _ => none }
def keysPubRow : OpenClaim := { program := "ytihnjbnlbedpaaadoor", sum := "f6d3ce735cf6b8e9fa84fd12dc083ceb38b85f88fdd1d4b07cd7b927941b2c26", func := "regulator/regulatorlaw22.KeysPub", spec := "keysPub", inPlace := ["slices.overlaps[regulator/api.KeyWin]"], unfollowed := true, recurses := true, named := ["internal/strconv.uint64pow10", "math/bits.deBruijn32tab", "math/bits.deBruijn64tab"], apart := false, laid := [("math/bits.deBruijn32tab", laid_math_bits_deBruijn32tab), ("math/bits.deBruijn64tab", laid_math_bits_deBruijn64tab), ("internal/strconv.uint64pow10", laid_internal_strconv_uint64pow10)] }
def KeysPubSaid : Prop := keysPubRow.holds Tryd.pinned (OpenSpec.ofChange keysPubSpec)

/-- ITS FALSE NEIGHBOUR: 'it returns false'. Refute it at one input. -/
def keysPubWrong : ChangeSpec := { name := "keysPub", fn := fun _ => fun
  | [d1, d2, d3, d4] => { results := [.lit (.bool false)], args := [d1, d2, d3, d4] }
  | _ => none }
def KeysPubWrongFalsely : Prop := keysPubRow.holds Tryd.pinned (OpenSpec.ofChange keysPubWrong)

/-- 'regulatorlaw23.ReplyMessages': WHATEVER THE INPUT: true; the input reads as it did. -/
def replyMessagesSpec : ChangeSpec := { name := "replyMessages", fn := fun _ => fun
  | [d1, d2] => { results := [.lit (.bool true)], args := [d1, d2] }
  | _ => none }
def replyMessagesRow : OpenClaim := { program := "ytihnjbnlbedpaaadoor", sum := "f6d3ce735cf6b8e9fa84fd12dc083ceb38b85f88fdd1d4b07cd7b927941b2c26", func := "regulator/regulatorlaw23.ReplyMessages", spec := "replyMessages", unfollowed := true, recurses := true, named := ["internal/strconv.uint64pow10", "math/bits.deBruijn32tab", "math/bits.deBruijn64tab"], apart := false, laid := [("math/bits.deBruijn32tab", laid_math_bits_deBruijn32tab), ("math/bits.deBruijn64tab", laid_math_bits_deBruijn64tab), ("internal/strconv.uint64pow10", laid_internal_strconv_uint64pow10)] }
def ReplyMessagesSaid : Prop := replyMessagesRow.holds Tryd.pinned (OpenSpec.ofChange replyMessagesSpec)

/-- ITS FALSE NEIGHBOUR: 'it returns false'. Refute it at one input. -/
def replyMessagesWrong : ChangeSpec := { name := "replyMessages", fn := fun _ => fun
  | [d1, d2] => { results := [.lit (.bool false)], args := [d1, d2] }
  | _ => none }
def ReplyMessagesWrongFalsely : Prop := replyMessagesRow.holds Tryd.pinned (OpenSpec.ofChange replyMessagesWrong)

/-- 'regulatorlaw23.ReplyHonest': WHATEVER THE INPUT: true; the input reads as it did. -/
def replyHonestSpec : ChangeSpec := { name := "replyHonest", fn := fun _ => fun
  | [d1, d2, d3, d4, d5] => { results := [.lit (.bool true)], args := [d1, d2, d3, d4, d5] }
  | _ => none }
def replyHonestRow : OpenClaim := { program := "ytihnjbnlbedpaaadoor", sum := "f6d3ce735cf6b8e9fa84fd12dc083ceb38b85f88fdd1d4b07cd7b927941b2c26", func := "regulator/regulatorlaw23.ReplyHonest", spec := "replyHonest", unfollowed := true, recurses := true, named := ["internal/strconv.uint64pow10", "math/bits.deBruijn32tab", "math/bits.deBruijn64tab"], apart := false, laid := [("math/bits.deBruijn32tab", laid_math_bits_deBruijn32tab), ("math/bits.deBruijn64tab", laid_math_bits_deBruijn64tab), ("internal/strconv.uint64pow10", laid_internal_strconv_uint64pow10)] }
def ReplyHonestSaid : Prop := replyHonestRow.holds Tryd.pinned (OpenSpec.ofChange replyHonestSpec)

/-- ITS FALSE NEIGHBOUR: 'it returns false'. Refute it at one input. -/
def replyHonestWrong : ChangeSpec := { name := "replyHonest", fn := fun _ => fun
  | [d1, d2, d3, d4, d5] => { results := [.lit (.bool false)], args := [d1, d2, d3, d4, d5] }
  | _ => none }
def ReplyHonestWrongFalsely : Prop := replyHonestRow.holds Tryd.pinned (OpenSpec.ofChange replyHonestWrong)

/-- 'regulatorlaw23.ReplyEach': WHATEVER THE INPUT: true; the input reads as it did. -/
def replyEachSpec : ChangeSpec := { name := "replyEach", fn := fun _ => fun
  | [d1, d2, d3, d4, d5] => { results := [.lit (.bool true)], args := [d1, d2, d3, d4, d5] }
  | _ => none }
def replyEachRow : OpenClaim := { program := "ytihnjbnlbedpaaadoor", sum := "f6d3ce735cf6b8e9fa84fd12dc083ceb38b85f88fdd1d4b07cd7b927941b2c26", func := "regulator/regulatorlaw23.ReplyEach", spec := "replyEach", unfollowed := true, recurses := true, named := ["internal/strconv.uint64pow10", "math/bits.deBruijn32tab", "math/bits.deBruijn64tab"], apart := false, laid := [("math/bits.deBruijn32tab", laid_math_bits_deBruijn32tab), ("math/bits.deBruijn64tab", laid_math_bits_deBruijn64tab), ("internal/strconv.uint64pow10", laid_internal_strconv_uint64pow10)] }
def ReplyEachSaid : Prop := replyEachRow.holds Tryd.pinned (OpenSpec.ofChange replyEachSpec)

/-- ITS FALSE NEIGHBOUR: 'it returns false'. Refute it at one input. -/
def replyEachWrong : ChangeSpec := { name := "replyEach", fn := fun _ => fun
  | [d1, d2, d3, d4, d5] => { results := [.lit (.bool false)], args := [d1, d2, d3, d4, d5] }
  | _ => none }
def ReplyEachWrongFalsely : Prop := replyEachRow.holds Tryd.pinned (OpenSpec.ofChange replyEachWrong)

/- THE SECOND FORM. 'bulk': how many values and letters a reading holds, each counted each time it is reached (what is shared counts as often as it is met; a slice's spare places count too). A statement '..UptoSaid' is the law's where the arguments, and the package variables that the reading takes, are together of bulk at most 1048576: NARROWER than '..Said'. Prove '..Said' where nothing that the law and all that it calls make is longer than what came in: it says more and counts as full. Else prove '..UptoSaid'. A law counts once. -/
mutual
def uptoBulk {H : Type} : DataW H → Nat
  | .lit (.string bytes) => bytes.length + 1
  | .lit _ => 1
  | .nil => 1
  | .ptr d => uptoBulk d + 1
  | .slice elems spare => uptoBulkAll elems + uptoBulkAll spare + 1
  | .agg parts => uptoBulkAll parts + 1
  | .iface _ d => uptoBulk d + 1
  | .map entries => uptoBulkEntries entries + 1
  | .held _ => 1
def uptoBulkAll {H : Type} : List (DataW H) → Nat
  | [] => 0
  | d :: r => uptoBulk d + uptoBulkAll r
def uptoBulkEntries {H : Type} : List (Lit × DataW H) → Nat
  | [] => 0
  | x :: r => uptoBulkEntry x + uptoBulkEntries r
def uptoBulkEntry {H : Type} : Lit × DataW H → Nat
  | (.string bytes, d) => bytes.length + uptoBulk d + 1
  | (_, d) => uptoBulk d + 1
 end
def uptoSmall : (H : Type) → List (DataW H) → Bool := fun _ ds => decide (uptoBulkAll ds ≤ 1048576)
def OpenSpec.upto (s : _root_.Go.ChangeSpec) : _root_.Go.OpenSpec := { _root_.Go.OpenSpec.ofChange s with cond := some uptoSmall }

/-- 'regulatorlaw22.KeysMatchesReference', WHERE WHAT IT READS IS OF BULK AT MOST 1048576: true; the input reads as it did. -/
def keysMatchesReferenceUptoRow : OpenClaim := { program := "ytihnjbnlbedpaaadoor", sum := "f6d3ce735cf6b8e9fa84fd12dc083ceb38b85f88fdd1d4b07cd7b927941b2c26", func := "regulator/regulatorlaw22.KeysMatchesReference", spec := "keysMatchesReference", inPlace := ["slices.overlaps[regulator/api.KeyWin]"], unfollowed := true, recurses := true, named := ["internal/strconv.uint64pow10", "math/bits.deBruijn32tab", "math/bits.deBruijn64tab"], apart := false, laid := [("math/bits.deBruijn32tab", laid_math_bits_deBruijn32tab), ("math/bits.deBruijn64tab", laid_math_bits_deBruijn64tab), ("internal/strconv.uint64pow10", laid_internal_strconv_uint64pow10)], narrowed := true }
def KeysMatchesReferenceUptoSaid : Prop := keysMatchesReferenceUptoRow.holds Tryd.pinned (OpenSpec.upto keysMatchesReferenceSpec)

/-- 'regulatorlaw22.KeysAnnounced', WHERE WHAT IT READS IS OF BULK AT MOST 1048576: true; the input reads as it did. -/
def keysAnnouncedUptoRow : OpenClaim := { program := "ytihnjbnlbedpaaadoor", sum := "f6d3ce735cf6b8e9fa84fd12dc083ceb38b85f88fdd1d4b07cd7b927941b2c26", func := "regulator/regulatorlaw22.KeysAnnounced", spec := "keysAnnounced", inPlace := ["slices.overlaps[regulator/api.KeyWin]"], unfollowed := true, recurses := true, named := ["internal/strconv.uint64pow10", "math/bits.deBruijn32tab", "math/bits.deBruijn64tab"], apart := false, laid := [("math/bits.deBruijn32tab", laid_math_bits_deBruijn32tab), ("math/bits.deBruijn64tab", laid_math_bits_deBruijn64tab), ("internal/strconv.uint64pow10", laid_internal_strconv_uint64pow10)], narrowed := true }
def KeysAnnouncedUptoSaid : Prop := keysAnnouncedUptoRow.holds Tryd.pinned (OpenSpec.upto keysAnnouncedSpec)

/-- 'regulatorlaw22.KeysAlways', WHERE WHAT IT READS IS OF BULK AT MOST 1048576: true; the input reads as it did. -/
def keysAlwaysUptoRow : OpenClaim := { program := "ytihnjbnlbedpaaadoor", sum := "f6d3ce735cf6b8e9fa84fd12dc083ceb38b85f88fdd1d4b07cd7b927941b2c26", func := "regulator/regulatorlaw22.KeysAlways", spec := "keysAlways", inPlace := ["slices.overlaps[regulator/api.KeyWin]"], unfollowed := true, recurses := true, named := ["internal/strconv.uint64pow10", "math/bits.deBruijn32tab", "math/bits.deBruijn64tab"], apart := false, laid := [("math/bits.deBruijn32tab", laid_math_bits_deBruijn32tab), ("math/bits.deBruijn64tab", laid_math_bits_deBruijn64tab), ("internal/strconv.uint64pow10", laid_internal_strconv_uint64pow10)], narrowed := true }
def KeysAlwaysUptoSaid : Prop := keysAlwaysUptoRow.holds Tryd.pinned (OpenSpec.upto keysAlwaysSpec)

/-- 'regulatorlaw22.KeysForged', WHERE WHAT IT READS IS OF BULK AT MOST 1048576: true; the input reads as it did. -/
def keysForgedUptoRow : OpenClaim := { program := "ytihnjbnlbedpaaadoor", sum := "f6d3ce735cf6b8e9fa84fd12dc083ceb38b85f88fdd1d4b07cd7b927941b2c26", func := "regulator/regulatorlaw22.KeysForged", spec := "keysForged", inPlace := ["slices.overlaps[regulator/api.KeyWin]"], unfollowed := true, recurses := true, named := ["internal/strconv.uint64pow10", "math/bits.deBruijn32tab", "math/bits.deBruijn64tab"], apart := false, laid := [("math/bits.deBruijn32tab", laid_math_bits_deBruijn32tab), ("math/bits.deBruijn64tab", laid_math_bits_deBruijn64tab), ("internal/strconv.uint64pow10", laid_internal_strconv_uint64pow10)], narrowed := true }
def KeysForgedUptoSaid : Prop := keysForgedUptoRow.holds Tryd.pinned (OpenSpec.upto keysForgedSpec)

/-- 'regulatorlaw22.KeysLast', WHERE WHAT IT READS IS OF BULK AT MOST 1048576: true; the input reads as it did. -/
def keysLastUptoRow : OpenClaim := { program := "ytihnjbnlbedpaaadoor", sum := "f6d3ce735cf6b8e9fa84fd12dc083ceb38b85f88fdd1d4b07cd7b927941b2c26", func := "regulator/regulatorlaw22.KeysLast", spec := "keysLast", inPlace := ["slices.overlaps[regulator/api.KeyWin]"], unfollowed := true, recurses := true, named := ["internal/strconv.uint64pow10", "math/bits.deBruijn32tab", "math/bits.deBruijn64tab"], apart := false, laid := [("math/bits.deBruijn32tab", laid_math_bits_deBruijn32tab), ("math/bits.deBruijn64tab", laid_math_bits_deBruijn64tab), ("internal/strconv.uint64pow10", laid_internal_strconv_uint64pow10)], narrowed := true }
def KeysLastUptoSaid : Prop := keysLastUptoRow.holds Tryd.pinned (OpenSpec.upto keysLastSpec)

/-- 'regulatorlaw22.KeysPub', WHERE WHAT IT READS IS OF BULK AT MOST 1048576: true; the input reads as it did. -/
def keysPubUptoRow : OpenClaim := { program := "ytihnjbnlbedpaaadoor", sum := "f6d3ce735cf6b8e9fa84fd12dc083ceb38b85f88fdd1d4b07cd7b927941b2c26", func := "regulator/regulatorlaw22.KeysPub", spec := "keysPub", inPlace := ["slices.overlaps[regulator/api.KeyWin]"], unfollowed := true, recurses := true, named := ["internal/strconv.uint64pow10", "math/bits.deBruijn32tab", "math/bits.deBruijn64tab"], apart := false, laid := [("math/bits.deBruijn32tab", laid_math_bits_deBruijn32tab), ("math/bits.deBruijn64tab", laid_math_bits_deBruijn64tab), ("internal/strconv.uint64pow10", laid_internal_strconv_uint64pow10)], narrowed := true }
def KeysPubUptoSaid : Prop := keysPubUptoRow.holds Tryd.pinned (OpenSpec.upto keysPubSpec)

/-- 'regulatorlaw23.ReplyMessages', WHERE WHAT IT READS IS OF BULK AT MOST 1048576: true; the input reads as it did. -/
def replyMessagesUptoRow : OpenClaim := { program := "ytihnjbnlbedpaaadoor", sum := "f6d3ce735cf6b8e9fa84fd12dc083ceb38b85f88fdd1d4b07cd7b927941b2c26", func := "regulator/regulatorlaw23.ReplyMessages", spec := "replyMessages", unfollowed := true, recurses := true, named := ["internal/strconv.uint64pow10", "math/bits.deBruijn32tab", "math/bits.deBruijn64tab"], apart := false, laid := [("math/bits.deBruijn32tab", laid_math_bits_deBruijn32tab), ("math/bits.deBruijn64tab", laid_math_bits_deBruijn64tab), ("internal/strconv.uint64pow10", laid_internal_strconv_uint64pow10)], narrowed := true }
def ReplyMessagesUptoSaid : Prop := replyMessagesUptoRow.holds Tryd.pinned (OpenSpec.upto replyMessagesSpec)

/-- 'regulatorlaw23.ReplyHonest', WHERE WHAT IT READS IS OF BULK AT MOST 1048576: true; the input reads as it did. -/
def replyHonestUptoRow : OpenClaim := { program := "ytihnjbnlbedpaaadoor", sum := "f6d3ce735cf6b8e9fa84fd12dc083ceb38b85f88fdd1d4b07cd7b927941b2c26", func := "regulator/regulatorlaw23.ReplyHonest", spec := "replyHonest", unfollowed := true, recurses := true, named := ["internal/strconv.uint64pow10", "math/bits.deBruijn32tab", "math/bits.deBruijn64tab"], apart := false, laid := [("math/bits.deBruijn32tab", laid_math_bits_deBruijn32tab), ("math/bits.deBruijn64tab", laid_math_bits_deBruijn64tab), ("internal/strconv.uint64pow10", laid_internal_strconv_uint64pow10)], narrowed := true }
def ReplyHonestUptoSaid : Prop := replyHonestUptoRow.holds Tryd.pinned (OpenSpec.upto replyHonestSpec)

/-- 'regulatorlaw23.ReplyEach', WHERE WHAT IT READS IS OF BULK AT MOST 1048576: true; the input reads as it did. -/
def replyEachUptoRow : OpenClaim := { program := "ytihnjbnlbedpaaadoor", sum := "f6d3ce735cf6b8e9fa84fd12dc083ceb38b85f88fdd1d4b07cd7b927941b2c26", func := "regulator/regulatorlaw23.ReplyEach", spec := "replyEach", unfollowed := true, recurses := true, named := ["internal/strconv.uint64pow10", "math/bits.deBruijn32tab", "math/bits.deBruijn64tab"], apart := false, laid := [("math/bits.deBruijn32tab", laid_math_bits_deBruijn32tab), ("math/bits.deBruijn64tab", laid_math_bits_deBruijn64tab), ("internal/strconv.uint64pow10", laid_internal_strconv_uint64pow10)], narrowed := true }
def ReplyEachUptoSaid : Prop := replyEachUptoRow.holds Tryd.pinned (OpenSpec.upto replyEachSpec)

end Rows
end Go.Proofs.YtihnjbnlbedpaaaDoor
