/-
  NARROWER THAN 'FOR EVERY INPUT', by the rows' own cells (each row's printed sentence says how): ReplyMatchesReference: laid · ReplySigned: laid · ReplyKeys: laid · ReplySent: laid · SiteMatchesReference: laid · SitePeers: laid · SiteLonger: laid · SiteOthers: laid · SiteRate: laid · SiteKeys: laid.
  DERIVED. THE GIVEN ROWS OF THIS SEAT. 10 by the template 'for every input the law returns true; each argument reads behind the call as it read before'; 0 by the template 'total and deterministic' (their statements: YtihnjbnlbedpaaaGreatDoorTotals.lean).
  GIVEN WITH THE SEED: the statements are not yours to turn. If you find one false, say at which input.
  Laid BY PROGRAM, IN A SANDBOX (cutbox-rows.mjs): the forced cells as the released guide's own fill.sh prints them over the translation 6c87e2977dbbd102… (all of the seat's roots in one cut). By AI agents, Wed Nov 11 2026. No macro, syntax, notation, axiom, sorry.
-/
import Derived.Test.YtihnjbnlbedpaaaGreatDoorChecked
import GoSem.Claim
import GoSem.ClaimJoined
import GoSem.ClaimMapViews
import Derived.JoinedTies
import Derived.KernelRfl
namespace Go.Proofs.YtihnjbnlbedpaaaGreatDoor
/- THE CELL 'sum', in the pinned program and in every row, IS THE sha256 OF THE DUMP (.gsa) THAT YtihnjbnlbedpaaaGreatDoorProg.lean LOADS. Nothing in Lean hashes anything: it is a label: what it is worth is what the hold of that sum in a sandbox is worth. -/
noncomputable def Tryz.pinned : Pinned := { name := "ytihnjbnlbedpaaagreatdoor", sum := "6c87e2977dbbd10244b42051d67d433ae8c8447c2dac1cb97bf2d3e2973d55b8", checked := Tryz.checked }
namespace Rows
def none {H : Type} : Left H := { results := [], args := [] }

/- WHAT THE LISTED PACKAGE-LEVEL VARIABLES READ AS WHEN THE CALL BEGINS. Each datum BY PROGRAM (the guide's laid-datum.mjs) off the statement by which the dump's own 'gosem.cut.vars' lays the variable. In a bare row this is a premise. The card (YtihnjbnlbedpaaaGreatDoorCards.lean) ties it to the program's text. -/
def laid_math_bits_deBruijn32tab {H : Type} : DataW H := .agg [.lit (.int .u8 0), .lit (.int .u8 1), .lit (.int .u8 28), .lit (.int .u8 2), .lit (.int .u8 29), .lit (.int .u8 14), .lit (.int .u8 24), .lit (.int .u8 3), .lit (.int .u8 30), .lit (.int .u8 22), .lit (.int .u8 20), .lit (.int .u8 15), .lit (.int .u8 25), .lit (.int .u8 17), .lit (.int .u8 4), .lit (.int .u8 8), .lit (.int .u8 31), .lit (.int .u8 27), .lit (.int .u8 13), .lit (.int .u8 23), .lit (.int .u8 21), .lit (.int .u8 19), .lit (.int .u8 16), .lit (.int .u8 7), .lit (.int .u8 26), .lit (.int .u8 12), .lit (.int .u8 18), .lit (.int .u8 6), .lit (.int .u8 11), .lit (.int .u8 5), .lit (.int .u8 10), .lit (.int .u8 9)]
def laid_math_bits_deBruijn64tab {H : Type} : DataW H := .agg [.lit (.int .u8 0), .lit (.int .u8 1), .lit (.int .u8 56), .lit (.int .u8 2), .lit (.int .u8 57), .lit (.int .u8 49), .lit (.int .u8 28), .lit (.int .u8 3), .lit (.int .u8 61), .lit (.int .u8 58), .lit (.int .u8 42), .lit (.int .u8 50), .lit (.int .u8 38), .lit (.int .u8 29), .lit (.int .u8 17), .lit (.int .u8 4), .lit (.int .u8 62), .lit (.int .u8 47), .lit (.int .u8 59), .lit (.int .u8 36), .lit (.int .u8 45), .lit (.int .u8 43), .lit (.int .u8 51), .lit (.int .u8 22), .lit (.int .u8 53), .lit (.int .u8 39), .lit (.int .u8 33), .lit (.int .u8 30), .lit (.int .u8 24), .lit (.int .u8 18), .lit (.int .u8 12), .lit (.int .u8 5), .lit (.int .u8 63), .lit (.int .u8 55), .lit (.int .u8 48), .lit (.int .u8 27), .lit (.int .u8 60), .lit (.int .u8 41), .lit (.int .u8 37), .lit (.int .u8 16), .lit (.int .u8 46), .lit (.int .u8 35), .lit (.int .u8 44), .lit (.int .u8 21), .lit (.int .u8 52), .lit (.int .u8 32), .lit (.int .u8 23), .lit (.int .u8 11), .lit (.int .u8 54), .lit (.int .u8 26), .lit (.int .u8 40), .lit (.int .u8 15), .lit (.int .u8 34), .lit (.int .u8 20), .lit (.int .u8 31), .lit (.int .u8 10), .lit (.int .u8 25), .lit (.int .u8 14), .lit (.int .u8 19), .lit (.int .u8 9), .lit (.int .u8 13), .lit (.int .u8 8), .lit (.int .u8 7), .lit (.int .u8 6)]
def laid_internal_strconv_uint64pow10 {H : Type} : DataW H := .agg [.lit (.int .u64 1), .lit (.int .u64 10), .lit (.int .u64 100), .lit (.int .u64 1000), .lit (.int .u64 10000), .lit (.int .u64 100000), .lit (.int .u64 1000000), .lit (.int .u64 10000000), .lit (.int .u64 100000000), .lit (.int .u64 1000000000), .lit (.int .u64 10000000000), .lit (.int .u64 100000000000), .lit (.int .u64 1000000000000), .lit (.int .u64 10000000000000), .lit (.int .u64 100000000000000), .lit (.int .u64 1000000000000000), .lit (.int .u64 10000000000000000), .lit (.int .u64 100000000000000000), .lit (.int .u64 1000000000000000000), .lit (.int .u64 10000000000000000000)]

/-- 'regulatorlaw23.ReplyMatchesReference': WHATEVER THE INPUT: true; the input reads as it did. -/
def replyMatchesReferenceSpec : ChangeSpec := { name := "replyMatchesReference", fn := fun _ => fun
  | [d1, d2, d3, d4, d5, d6, d7, d8, d9, d10] => { results := [.lit (.bool true)], args := [d1, d2, d3, d4, d5, d6, d7, d8, d9, d10] }
  | _ => none }
def replyMatchesReferenceRow : OpenClaim := { program := "ytihnjbnlbedpaaagreatdoor", sum := "6c87e2977dbbd10244b42051d67d433ae8c8447c2dac1cb97bf2d3e2973d55b8", func := "regulator/regulatorlaw23.ReplyMatchesReference", spec := "replyMatchesReference", unfollowed := true, recurses := true, named := ["internal/strconv.uint64pow10", "math/bits.deBruijn32tab", "math/bits.deBruijn64tab"], plainKeys := false, apart := false, laid := [("math/bits.deBruijn32tab", laid_math_bits_deBruijn32tab), ("math/bits.deBruijn64tab", laid_math_bits_deBruijn64tab), ("internal/strconv.uint64pow10", laid_internal_strconv_uint64pow10)] }
def ReplyMatchesReferenceSaid : Prop := replyMatchesReferenceRow.holds Tryz.pinned (OpenSpec.ofChange replyMatchesReferenceSpec)

/-- ITS FALSE NEIGHBOUR: 'it returns false'. Refute it at one input. -/
def replyMatchesReferenceWrong : ChangeSpec := { name := "replyMatchesReference", fn := fun _ => fun
  | [d1, d2, d3, d4, d5, d6, d7, d8, d9, d10] => { results := [.lit (.bool false)], args := [d1, d2, d3, d4, d5, d6, d7, d8, d9, d10] }
  | _ => none }
def ReplyMatchesReferenceWrongFalsely : Prop := replyMatchesReferenceRow.holds Tryz.pinned (OpenSpec.ofChange replyMatchesReferenceWrong)

/-- 'regulatorlaw23.ReplySigned': WHATEVER THE INPUT: true; the input reads as it did. -/
def replySignedSpec : ChangeSpec := { name := "replySigned", fn := fun _ => fun
  | [d1, d2, d3, d4, d5, d6] => { results := [.lit (.bool true)], args := [d1, d2, d3, d4, d5, d6] }
  | _ => none }
def replySignedRow : OpenClaim := { program := "ytihnjbnlbedpaaagreatdoor", sum := "6c87e2977dbbd10244b42051d67d433ae8c8447c2dac1cb97bf2d3e2973d55b8", func := "regulator/regulatorlaw23.ReplySigned", spec := "replySigned", unfollowed := true, recurses := true, named := ["internal/strconv.uint64pow10", "math/bits.deBruijn32tab", "math/bits.deBruijn64tab"], plainKeys := false, apart := false, laid := [("math/bits.deBruijn32tab", laid_math_bits_deBruijn32tab), ("math/bits.deBruijn64tab", laid_math_bits_deBruijn64tab), ("internal/strconv.uint64pow10", laid_internal_strconv_uint64pow10)] }
def ReplySignedSaid : Prop := replySignedRow.holds Tryz.pinned (OpenSpec.ofChange replySignedSpec)

/-- ITS FALSE NEIGHBOUR: 'it returns false'. Refute it at one input. -/
def replySignedWrong : ChangeSpec := { name := "replySigned", fn := fun _ => fun
  | [d1, d2, d3, d4, d5, d6] => { results := [.lit (.bool false)], args := [d1, d2, d3, d4, d5, d6] }
  | _ => none }
def ReplySignedWrongFalsely : Prop := replySignedRow.holds Tryz.pinned (OpenSpec.ofChange replySignedWrong)

/-- 'regulatorlaw23.ReplyKeys': WHATEVER THE INPUT: true; the input reads as it did. -/
def replyKeysSpec : ChangeSpec := { name := "replyKeys", fn := fun _ => fun
  | [d1, d2] => { results := [.lit (.bool true)], args := [d1, d2] }
  | _ => none }
def replyKeysRow : OpenClaim := { program := "ytihnjbnlbedpaaagreatdoor", sum := "6c87e2977dbbd10244b42051d67d433ae8c8447c2dac1cb97bf2d3e2973d55b8", func := "regulator/regulatorlaw23.ReplyKeys", spec := "replyKeys", unfollowed := true, recurses := true, named := ["internal/strconv.uint64pow10", "math/bits.deBruijn32tab", "math/bits.deBruijn64tab"], plainKeys := false, apart := false, laid := [("math/bits.deBruijn32tab", laid_math_bits_deBruijn32tab), ("math/bits.deBruijn64tab", laid_math_bits_deBruijn64tab), ("internal/strconv.uint64pow10", laid_internal_strconv_uint64pow10)] }
def ReplyKeysSaid : Prop := replyKeysRow.holds Tryz.pinned (OpenSpec.ofChange replyKeysSpec)

/-- ITS FALSE NEIGHBOUR: 'it returns false'. Refute it at one input. -/
def replyKeysWrong : ChangeSpec := { name := "replyKeys", fn := fun _ => fun
  | [d1, d2] => { results := [.lit (.bool false)], args := [d1, d2] }
  | _ => none }
def ReplyKeysWrongFalsely : Prop := replyKeysRow.holds Tryz.pinned (OpenSpec.ofChange replyKeysWrong)

/-- 'regulatorlaw23.ReplySent': WHATEVER THE INPUT: true; the input reads as it did. -/
def replySentSpec : ChangeSpec := { name := "replySent", fn := fun _ => fun
  | [d1, d2, d3, d4, d5, d6, d7] => { results := [.lit (.bool true)], args := [d1, d2, d3, d4, d5, d6, d7] }
  | _ => none }
def replySentRow : OpenClaim := { program := "ytihnjbnlbedpaaagreatdoor", sum := "6c87e2977dbbd10244b42051d67d433ae8c8447c2dac1cb97bf2d3e2973d55b8", func := "regulator/regulatorlaw23.ReplySent", spec := "replySent", unfollowed := true, recurses := true, named := ["internal/strconv.uint64pow10", "math/bits.deBruijn32tab", "math/bits.deBruijn64tab"], plainKeys := false, apart := false, laid := [("math/bits.deBruijn32tab", laid_math_bits_deBruijn32tab), ("math/bits.deBruijn64tab", laid_math_bits_deBruijn64tab), ("internal/strconv.uint64pow10", laid_internal_strconv_uint64pow10)] }
def ReplySentSaid : Prop := replySentRow.holds Tryz.pinned (OpenSpec.ofChange replySentSpec)

/-- ITS FALSE NEIGHBOUR: 'it returns false'. Refute it at one input. -/
def replySentWrong : ChangeSpec := { name := "replySent", fn := fun _ => fun
  | [d1, d2, d3, d4, d5, d6, d7] => { results := [.lit (.bool false)], args := [d1, d2, d3, d4, d5, d6, d7] }
  | _ => none }
def ReplySentWrongFalsely : Prop := replySentRow.holds Tryz.pinned (OpenSpec.ofChange replySentWrong)

/-- 'regulatorlaw28.SiteMatchesReference': WHATEVER THE INPUT: true; the input reads as it did. -/
def siteMatchesReferenceSpec : ChangeSpec := { name := "siteMatchesReference", fn := fun _ => fun
  | [d1, d2, d3] => { results := [.lit (.bool true)], args := [d1, d2, d3] }
  | _ => none }
def siteMatchesReferenceRow : OpenClaim := { program := "ytihnjbnlbedpaaagreatdoor", sum := "6c87e2977dbbd10244b42051d67d433ae8c8447c2dac1cb97bf2d3e2973d55b8", func := "regulator/regulatorlaw28.SiteMatchesReference", spec := "siteMatchesReference", unfollowed := true, recurses := true, named := ["math/bits.divideError", "math/bits.overflowError", "internal/strconv.uint64pow10", "math/bits.deBruijn32tab", "math/bits.deBruijn64tab"], plainKeys := false, apart := false, laid := [("math/bits.deBruijn32tab", laid_math_bits_deBruijn32tab), ("math/bits.deBruijn64tab", laid_math_bits_deBruijn64tab), ("internal/strconv.uint64pow10", laid_internal_strconv_uint64pow10)] }
def SiteMatchesReferenceSaid : Prop := siteMatchesReferenceRow.holds Tryz.pinned (OpenSpec.ofChange siteMatchesReferenceSpec)

/-- ITS FALSE NEIGHBOUR: 'it returns false'. Refute it at one input. -/
def siteMatchesReferenceWrong : ChangeSpec := { name := "siteMatchesReference", fn := fun _ => fun
  | [d1, d2, d3] => { results := [.lit (.bool false)], args := [d1, d2, d3] }
  | _ => none }
def SiteMatchesReferenceWrongFalsely : Prop := siteMatchesReferenceRow.holds Tryz.pinned (OpenSpec.ofChange siteMatchesReferenceWrong)

/-- 'regulatorlaw28.SitePeers': WHATEVER THE INPUT: true; the input reads as it did. -/
def sitePeersSpec : ChangeSpec := { name := "sitePeers", fn := fun _ => fun
  | [d1, d2, d3, d4] => { results := [.lit (.bool true)], args := [d1, d2, d3, d4] }
  | _ => none }
def sitePeersRow : OpenClaim := { program := "ytihnjbnlbedpaaagreatdoor", sum := "6c87e2977dbbd10244b42051d67d433ae8c8447c2dac1cb97bf2d3e2973d55b8", func := "regulator/regulatorlaw28.SitePeers", spec := "sitePeers", unfollowed := true, recurses := true, named := ["math/bits.divideError", "math/bits.overflowError", "internal/strconv.uint64pow10", "math/bits.deBruijn32tab", "math/bits.deBruijn64tab"], plainKeys := false, apart := false, laid := [("math/bits.deBruijn32tab", laid_math_bits_deBruijn32tab), ("math/bits.deBruijn64tab", laid_math_bits_deBruijn64tab), ("internal/strconv.uint64pow10", laid_internal_strconv_uint64pow10)] }
def SitePeersSaid : Prop := sitePeersRow.holds Tryz.pinned (OpenSpec.ofChange sitePeersSpec)

/-- ITS FALSE NEIGHBOUR: 'it returns false'. Refute it at one input. -/
def sitePeersWrong : ChangeSpec := { name := "sitePeers", fn := fun _ => fun
  | [d1, d2, d3, d4] => { results := [.lit (.bool false)], args := [d1, d2, d3, d4] }
  | _ => none }
def SitePeersWrongFalsely : Prop := sitePeersRow.holds Tryz.pinned (OpenSpec.ofChange sitePeersWrong)

/-- 'regulatorlaw28.SiteLonger': WHATEVER THE INPUT: true; the input reads as it did. -/
def siteLongerSpec : ChangeSpec := { name := "siteLonger", fn := fun _ => fun
  | [d1, d2, d3, d4, d5] => { results := [.lit (.bool true)], args := [d1, d2, d3, d4, d5] }
  | _ => none }
def siteLongerRow : OpenClaim := { program := "ytihnjbnlbedpaaagreatdoor", sum := "6c87e2977dbbd10244b42051d67d433ae8c8447c2dac1cb97bf2d3e2973d55b8", func := "regulator/regulatorlaw28.SiteLonger", spec := "siteLonger", unfollowed := true, recurses := true, named := ["math/bits.divideError", "math/bits.overflowError", "internal/strconv.uint64pow10", "math/bits.deBruijn32tab", "math/bits.deBruijn64tab"], plainKeys := false, apart := false, laid := [("math/bits.deBruijn32tab", laid_math_bits_deBruijn32tab), ("math/bits.deBruijn64tab", laid_math_bits_deBruijn64tab), ("internal/strconv.uint64pow10", laid_internal_strconv_uint64pow10)] }
def SiteLongerSaid : Prop := siteLongerRow.holds Tryz.pinned (OpenSpec.ofChange siteLongerSpec)

/-- ITS FALSE NEIGHBOUR: 'it returns false'. Refute it at one input. -/
def siteLongerWrong : ChangeSpec := { name := "siteLonger", fn := fun _ => fun
  | [d1, d2, d3, d4, d5] => { results := [.lit (.bool false)], args := [d1, d2, d3, d4, d5] }
  | _ => none }
def SiteLongerWrongFalsely : Prop := siteLongerRow.holds Tryz.pinned (OpenSpec.ofChange siteLongerWrong)

/-- 'regulatorlaw28.SiteOthers': WHATEVER THE INPUT: true; the input reads as it did. -/
def siteOthersSpec : ChangeSpec := { name := "siteOthers", fn := fun _ => fun
  | [d1, d2, d3, d4] => { results := [.lit (.bool true)], args := [d1, d2, d3, d4] }
  | _ => none }
def siteOthersRow : OpenClaim := { program := "ytihnjbnlbedpaaagreatdoor", sum := "6c87e2977dbbd10244b42051d67d433ae8c8447c2dac1cb97bf2d3e2973d55b8", func := "regulator/regulatorlaw28.SiteOthers", spec := "siteOthers", unfollowed := true, recurses := true, named := ["math/bits.divideError", "math/bits.overflowError", "internal/strconv.uint64pow10", "math/bits.deBruijn32tab", "math/bits.deBruijn64tab"], plainKeys := false, apart := false, laid := [("math/bits.deBruijn32tab", laid_math_bits_deBruijn32tab), ("math/bits.deBruijn64tab", laid_math_bits_deBruijn64tab), ("internal/strconv.uint64pow10", laid_internal_strconv_uint64pow10)] }
def SiteOthersSaid : Prop := siteOthersRow.holds Tryz.pinned (OpenSpec.ofChange siteOthersSpec)

/-- ITS FALSE NEIGHBOUR: 'it returns false'. Refute it at one input. -/
def siteOthersWrong : ChangeSpec := { name := "siteOthers", fn := fun _ => fun
  | [d1, d2, d3, d4] => { results := [.lit (.bool false)], args := [d1, d2, d3, d4] }
  | _ => none }
def SiteOthersWrongFalsely : Prop := siteOthersRow.holds Tryz.pinned (OpenSpec.ofChange siteOthersWrong)

/-- 'regulatorlaw28.SiteRate': WHATEVER THE INPUT: true; the input reads as it did. -/
def siteRateSpec : ChangeSpec := { name := "siteRate", fn := fun _ => fun
  | [d1, d2, d3, d4] => { results := [.lit (.bool true)], args := [d1, d2, d3, d4] }
  | _ => none }
def siteRateRow : OpenClaim := { program := "ytihnjbnlbedpaaagreatdoor", sum := "6c87e2977dbbd10244b42051d67d433ae8c8447c2dac1cb97bf2d3e2973d55b8", func := "regulator/regulatorlaw28.SiteRate", spec := "siteRate", unfollowed := true, recurses := true, named := ["math/bits.divideError", "math/bits.overflowError", "internal/strconv.uint64pow10", "math/bits.deBruijn32tab", "math/bits.deBruijn64tab"], plainKeys := false, apart := false, laid := [("math/bits.deBruijn32tab", laid_math_bits_deBruijn32tab), ("math/bits.deBruijn64tab", laid_math_bits_deBruijn64tab), ("internal/strconv.uint64pow10", laid_internal_strconv_uint64pow10)] }
def SiteRateSaid : Prop := siteRateRow.holds Tryz.pinned (OpenSpec.ofChange siteRateSpec)

/-- ITS FALSE NEIGHBOUR: 'it returns false'. Refute it at one input. -/
def siteRateWrong : ChangeSpec := { name := "siteRate", fn := fun _ => fun
  | [d1, d2, d3, d4] => { results := [.lit (.bool false)], args := [d1, d2, d3, d4] }
  | _ => none }
def SiteRateWrongFalsely : Prop := siteRateRow.holds Tryz.pinned (OpenSpec.ofChange siteRateWrong)

/-- 'regulatorlaw28.SiteKeys': WHATEVER THE INPUT: true; the input reads as it did. -/
def siteKeysSpec : ChangeSpec := { name := "siteKeys", fn := fun _ => fun
  | [d1, d2, d3] => { results := [.lit (.bool true)], args := [d1, d2, d3] }
  | _ => none }
def siteKeysRow : OpenClaim := { program := "ytihnjbnlbedpaaagreatdoor", sum := "6c87e2977dbbd10244b42051d67d433ae8c8447c2dac1cb97bf2d3e2973d55b8", func := "regulator/regulatorlaw28.SiteKeys", spec := "siteKeys", unfollowed := true, recurses := true, named := ["math/bits.divideError", "math/bits.overflowError", "internal/strconv.uint64pow10", "math/bits.deBruijn32tab", "math/bits.deBruijn64tab"], plainKeys := false, apart := false, laid := [("math/bits.deBruijn32tab", laid_math_bits_deBruijn32tab), ("math/bits.deBruijn64tab", laid_math_bits_deBruijn64tab), ("internal/strconv.uint64pow10", laid_internal_strconv_uint64pow10)] }
def SiteKeysSaid : Prop := siteKeysRow.holds Tryz.pinned (OpenSpec.ofChange siteKeysSpec)

/-- ITS FALSE NEIGHBOUR: 'it returns false'. Refute it at one input. -/
def siteKeysWrong : ChangeSpec := { name := "siteKeys", fn := fun _ => fun
  | [d1, d2, d3] => { results := [.lit (.bool false)], args := [d1, d2, d3] }
  | _ => none }
def SiteKeysWrongFalsely : Prop := siteKeysRow.holds Tryz.pinned (OpenSpec.ofChange siteKeysWrong)

/- THE SECOND FORM. 'bulk': how many values and letters a reading holds, each counted each time it is reached (what is shared counts as often as it is met; a slice's spare places count too). A statement '..UptoSaid' is the law's where the arguments, and the package variables that the reading takes, are together of bulk at most 1048576: NARROWER than '..Said'. Prove '..Said' where nothing that the law and all that it calls make is longer than what came in: it says more and counts as full. Else prove '..UptoSaid'. A law counts once. -/
mutual
def uptoBulk {H : Type} : DataW H → Nat
  | .lit (.string bytes) => bytes.length + 1
  | .lit _ => 1
  | .nil => 1
  | .ptr d => uptoBulk d + 1
  | .slice elems spare => uptoBulkAll elems + uptoBulkAll spare + 1
  | .agg parts => uptoBulkAll parts + 1
  | .iface _ d => uptoBulk d + 1
  | .map entries => uptoBulkEntries entries + 1
  | .held _ => 1
def uptoBulkAll {H : Type} : List (DataW H) → Nat
  | [] => 0
  | d :: r => uptoBulk d + uptoBulkAll r
def uptoBulkEntries {H : Type} : List (Lit × DataW H) → Nat
  | [] => 0
  | x :: r => uptoBulkEntry x + uptoBulkEntries r
def uptoBulkEntry {H : Type} : Lit × DataW H → Nat
  | (.string bytes, d) => bytes.length + uptoBulk d + 1
  | (_, d) => uptoBulk d + 1
 end
def uptoSmall : (H : Type) → List (DataW H) → Bool := fun _ ds => decide (uptoBulkAll ds ≤ 1048576)
def OpenSpec.upto (s : _root_.Go.ChangeSpec) : _root_.Go.OpenSpec := { _root_.Go.OpenSpec.ofChange s with cond := some uptoSmall }

/-- 'regulatorlaw23.ReplyMatchesReference', WHERE WHAT IT READS IS OF BULK AT MOST 1048576: true; the input reads as it did. -/
def replyMatchesReferenceUptoRow : OpenClaim := { program := "ytihnjbnlbedpaaagreatdoor", sum := "6c87e2977dbbd10244b42051d67d433ae8c8447c2dac1cb97bf2d3e2973d55b8", func := "regulator/regulatorlaw23.ReplyMatchesReference", spec := "replyMatchesReference", unfollowed := true, recurses := true, named := ["internal/strconv.uint64pow10", "math/bits.deBruijn32tab", "math/bits.deBruijn64tab"], plainKeys := false, apart := false, laid := [("math/bits.deBruijn32tab", laid_math_bits_deBruijn32tab), ("math/bits.deBruijn64tab", laid_math_bits_deBruijn64tab), ("internal/strconv.uint64pow10", laid_internal_strconv_uint64pow10)], narrowed := true }
def ReplyMatchesReferenceUptoSaid : Prop := replyMatchesReferenceUptoRow.holds Tryz.pinned (OpenSpec.upto replyMatchesReferenceSpec)

/-- 'regulatorlaw23.ReplySigned', WHERE WHAT IT READS IS OF BULK AT MOST 1048576: true; the input reads as it did. -/
def replySignedUptoRow : OpenClaim := { program := "ytihnjbnlbedpaaagreatdoor", sum := "6c87e2977dbbd10244b42051d67d433ae8c8447c2dac1cb97bf2d3e2973d55b8", func := "regulator/regulatorlaw23.ReplySigned", spec := "replySigned", unfollowed := true, recurses := true, named := ["internal/strconv.uint64pow10", "math/bits.deBruijn32tab", "math/bits.deBruijn64tab"], plainKeys := false, apart := false, laid := [("math/bits.deBruijn32tab", laid_math_bits_deBruijn32tab), ("math/bits.deBruijn64tab", laid_math_bits_deBruijn64tab), ("internal/strconv.uint64pow10", laid_internal_strconv_uint64pow10)], narrowed := true }
def ReplySignedUptoSaid : Prop := replySignedUptoRow.holds Tryz.pinned (OpenSpec.upto replySignedSpec)

/-- 'regulatorlaw23.ReplyKeys', WHERE WHAT IT READS IS OF BULK AT MOST 1048576: true; the input reads as it did. -/
def replyKeysUptoRow : OpenClaim := { program := "ytihnjbnlbedpaaagreatdoor", sum := "6c87e2977dbbd10244b42051d67d433ae8c8447c2dac1cb97bf2d3e2973d55b8", func := "regulator/regulatorlaw23.ReplyKeys", spec := "replyKeys", unfollowed := true, recurses := true, named := ["internal/strconv.uint64pow10", "math/bits.deBruijn32tab", "math/bits.deBruijn64tab"], plainKeys := false, apart := false, laid := [("math/bits.deBruijn32tab", laid_math_bits_deBruijn32tab), ("math/bits.deBruijn64tab", laid_math_bits_deBruijn64tab), ("internal/strconv.uint64pow10", laid_internal_strconv_uint64pow10)], narrowed := true }
def ReplyKeysUptoSaid : Prop := replyKeysUptoRow.holds Tryz.pinned (OpenSpec.upto replyKeysSpec)

/-- 'regulatorlaw23.ReplySent', WHERE WHAT IT READS IS OF BULK AT MOST 1048576: true; the input reads as it did. -/
def replySentUptoRow : OpenClaim := { program := "ytihnjbnlbedpaaagreatdoor", sum := "6c87e2977dbbd10244b42051d67d433ae8c8447c2dac1cb97bf2d3e2973d55b8", func := "regulator/regulatorlaw23.ReplySent", spec := "replySent", unfollowed := true, recurses := true, named := ["internal/strconv.uint64pow10", "math/bits.deBruijn32tab", "math/bits.deBruijn64tab"], plainKeys := false, apart := false, laid := [("math/bits.deBruijn32tab", laid_math_bits_deBruijn32tab), ("math/bits.deBruijn64tab", laid_math_bits_deBruijn64tab), ("internal/strconv.uint64pow10", laid_internal_strconv_uint64pow10)], narrowed := true }
def ReplySentUptoSaid : Prop := replySentUptoRow.holds Tryz.pinned (OpenSpec.upto replySentSpec)

/-- 'regulatorlaw28.SiteMatchesReference', WHERE WHAT IT READS IS OF BULK AT MOST 1048576: true; the input reads as it did. -/
def siteMatchesReferenceUptoRow : OpenClaim := { program := "ytihnjbnlbedpaaagreatdoor", sum := "6c87e2977dbbd10244b42051d67d433ae8c8447c2dac1cb97bf2d3e2973d55b8", func := "regulator/regulatorlaw28.SiteMatchesReference", spec := "siteMatchesReference", unfollowed := true, recurses := true, named := ["math/bits.divideError", "math/bits.overflowError", "internal/strconv.uint64pow10", "math/bits.deBruijn32tab", "math/bits.deBruijn64tab"], plainKeys := false, apart := false, laid := [("math/bits.deBruijn32tab", laid_math_bits_deBruijn32tab), ("math/bits.deBruijn64tab", laid_math_bits_deBruijn64tab), ("internal/strconv.uint64pow10", laid_internal_strconv_uint64pow10)], narrowed := true }
def SiteMatchesReferenceUptoSaid : Prop := siteMatchesReferenceUptoRow.holds Tryz.pinned (OpenSpec.upto siteMatchesReferenceSpec)

/-- 'regulatorlaw28.SitePeers', WHERE WHAT IT READS IS OF BULK AT MOST 1048576: true; the input reads as it did. -/
def sitePeersUptoRow : OpenClaim := { program := "ytihnjbnlbedpaaagreatdoor", sum := "6c87e2977dbbd10244b42051d67d433ae8c8447c2dac1cb97bf2d3e2973d55b8", func := "regulator/regulatorlaw28.SitePeers", spec := "sitePeers", unfollowed := true, recurses := true, named := ["math/bits.divideError", "math/bits.overflowError", "internal/strconv.uint64pow10", "math/bits.deBruijn32tab", "math/bits.deBruijn64tab"], plainKeys := false, apart := false, laid := [("math/bits.deBruijn32tab", laid_math_bits_deBruijn32tab), ("math/bits.deBruijn64tab", laid_math_bits_deBruijn64tab), ("internal/strconv.uint64pow10", laid_internal_strconv_uint64pow10)], narrowed := true }
def SitePeersUptoSaid : Prop := sitePeersUptoRow.holds Tryz.pinned (OpenSpec.upto sitePeersSpec)

/-- 'regulatorlaw28.SiteLonger', WHERE WHAT IT READS IS OF BULK AT MOST 1048576: true; the input reads as it did. -/
def siteLongerUptoRow : OpenClaim := { program := "ytihnjbnlbedpaaagreatdoor", sum := "6c87e2977dbbd10244b42051d67d433ae8c8447c2dac1cb97bf2d3e2973d55b8", func := "regulator/regulatorlaw28.SiteLonger", spec := "siteLonger", unfollowed := true, recurses := true, named := ["math/bits.divideError", "math/bits.overflowError", "internal/strconv.uint64pow10", "math/bits.deBruijn32tab", "math/bits.deBruijn64tab"], plainKeys := false, apart := false, laid := [("math/bits.deBruijn32tab", laid_math_bits_deBruijn32tab), ("math/bits.deBruijn64tab", laid_math_bits_deBruijn64tab), ("internal/strconv.uint64pow10", laid_internal_strconv_uint64pow10)], narrowed := true }
def SiteLongerUptoSaid : Prop := siteLongerUptoRow.holds Tryz.pinned (OpenSpec.upto siteLongerSpec)

/-- 'regulatorlaw28.SiteOthers', WHERE WHAT IT READS IS OF BULK AT MOST 1048576: true; the input reads as it did. -/
def siteOthersUptoRow : OpenClaim := { program := "ytihnjbnlbedpaaagreatdoor", sum := "6c87e2977dbbd10244b42051d67d433ae8c8447c2dac1cb97bf2d3e2973d55b8", func := "regulator/regulatorlaw28.SiteOthers", spec := "siteOthers", unfollowed := true, recurses := true, named := ["math/bits.divideError", "math/bits.overflowError", "internal/strconv.uint64pow10", "math/bits.deBruijn32tab", "math/bits.deBruijn64tab"], plainKeys := false, apart := false, laid := [("math/bits.deBruijn32tab", laid_math_bits_deBruijn32tab), ("math/bits.deBruijn64tab", laid_math_bits_deBruijn64tab), ("internal/strconv.uint64pow10", laid_internal_strconv_uint64pow10)], narrowed := true }
def SiteOthersUptoSaid : Prop := siteOthersUptoRow.holds Tryz.pinned (OpenSpec.upto siteOthersSpec)

/-- 'regulatorlaw28.SiteRate', WHERE WHAT IT READS IS OF BULK AT MOST 1048576: true; the input reads as it did. -/
def siteRateUptoRow : OpenClaim := { program := "ytihnjbnlbedpaaagreatdoor", sum := "6c87e2977dbbd10244b42051d67d433ae8c8447c2dac1cb97bf2d3e2973d55b8", func := "regulator/regulatorlaw28.SiteRate", spec := "siteRate", unfollowed := true, recurses := true, named := ["math/bits.divideError", "math/bits.overflowError", "internal/strconv.uint64pow10", "math/bits.deBruijn32tab", "math/bits.deBruijn64tab"], plainKeys := false, apart := false, laid := [("math/bits.deBruijn32tab", laid_math_bits_deBruijn32tab), ("math/bits.deBruijn64tab", laid_math_bits_deBruijn64tab), ("internal/strconv.uint64pow10", laid_internal_strconv_uint64pow10)], narrowed := true }
def SiteRateUptoSaid : Prop := siteRateUptoRow.holds Tryz.pinned (OpenSpec.upto siteRateSpec)

/-- 'regulatorlaw28.SiteKeys', WHERE WHAT IT READS IS OF BULK AT MOST 1048576: true; the input reads as it did. -/
def siteKeysUptoRow : OpenClaim := { program := "ytihnjbnlbedpaaagreatdoor", sum := "6c87e2977dbbd10244b42051d67d433ae8c8447c2dac1cb97bf2d3e2973d55b8", func := "regulator/regulatorlaw28.SiteKeys", spec := "siteKeys", unfollowed := true, recurses := true, named := ["math/bits.divideError", "math/bits.overflowError", "internal/strconv.uint64pow10", "math/bits.deBruijn32tab", "math/bits.deBruijn64tab"], plainKeys := false, apart := false, laid := [("math/bits.deBruijn32tab", laid_math_bits_deBruijn32tab), ("math/bits.deBruijn64tab", laid_math_bits_deBruijn64tab), ("internal/strconv.uint64pow10", laid_internal_strconv_uint64pow10)], narrowed := true }
def SiteKeysUptoSaid : Prop := siteKeysUptoRow.holds Tryz.pinned (OpenSpec.upto siteKeysSpec)

end Rows
end Go.Proofs.YtihnjbnlbedpaaaGreatDoor
