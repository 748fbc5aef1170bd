/-
  No cell of these rows narrows 'for every input' (looked for: loops, veiled, ifaces, maps, wideKeys, modest, calm, conditions, laid).
  DERIVED. THE GIVEN ROWS OF THIS SEAT. 12 by the template 'for every input the law returns true; each argument reads behind the call as it read before'; 0 by the template 'total and deterministic' (their statements: YtkfpolhglndbkaaTotals.lean).
  GIVEN WITH THE SEED: the statements are not yours to turn. If you find one false, say at which input.
  Laid BY PROGRAM, IN A SANDBOX (cutbox-rows.mjs): the forced cells as the released guide's own fill.sh prints them over the translation e890ab2c3c51dd2d… (all of the seat's roots in one cut). By AI agents, Wed Nov 11 2026. No macro, syntax, notation, axiom, sorry.
-/
import Derived.Test.YtkfpolhglndbkaaChecked
import GoSem.Claim
import GoSem.ClaimJoined
import GoSem.ClaimMapViews
import Derived.JoinedTies
import Derived.KernelRfl
namespace Go.Proofs.Ytkfpolhglndbkaa
/- THE CELL 'sum', in the pinned program and in every row, IS THE sha256 OF THE DUMP (.gsa) THAT YtkfpolhglndbkaaProg.lean LOADS. Nothing in Lean hashes anything: it is a label: what it is worth is what the hold of that sum in a sandbox is worth. -/
noncomputable def Try.pinned : Pinned := { name := "ytkfpolhglndbkaa", sum := "e890ab2c3c51dd2d9595fcbf0d1b4f9e1a0c054b461da007a6983f9b0ad34be4", checked := Try.checked }
namespace Rows
def none {H : Type} : Left H := { results := [], args := [] }

/-- 'hassocklaw03.FnvHashes': WHATEVER THE INPUT: true; the input reads as it did. -/
def fnvHashesSpec : ChangeSpec := { name := "fnvHashes", fn := fun _ => fun
  | [d1, d2] => { results := [.lit (.bool true)], args := [d1, d2] }
  | _ => none }
def fnvHashesRow : OpenClaim := { program := "ytkfpolhglndbkaa", sum := "e890ab2c3c51dd2d9595fcbf0d1b4f9e1a0c054b461da007a6983f9b0ad34be4", func := "hassock/hassocklaw03.FnvHashes", spec := "fnvHashes", plainKeys := false, apart := false }
def FnvHashesSaid : Prop := fnvHashesRow.holds Try.pinned (OpenSpec.ofChange fnvHashesSpec)

/-- ITS FALSE NEIGHBOUR: 'it returns false'. Refute it at one input. -/
def fnvHashesWrong : ChangeSpec := { name := "fnvHashes", fn := fun _ => fun
  | [d1, d2] => { results := [.lit (.bool false)], args := [d1, d2] }
  | _ => none }
def FnvHashesWrongFalsely : Prop := fnvHashesRow.holds Try.pinned (OpenSpec.ofChange fnvHashesWrong)

/-- 'hassocklaw03.FnvHomes': WHATEVER THE INPUT: true; the input reads as it did. -/
def fnvHomesSpec : ChangeSpec := { name := "fnvHomes", fn := fun _ => fun
  | [d1, d2, d3] => { results := [.lit (.bool true)], args := [d1, d2, d3] }
  | _ => none }
def fnvHomesRow : OpenClaim := { program := "ytkfpolhglndbkaa", sum := "e890ab2c3c51dd2d9595fcbf0d1b4f9e1a0c054b461da007a6983f9b0ad34be4", func := "hassock/hassocklaw03.FnvHomes", spec := "fnvHomes", plainKeys := false, apart := false }
def FnvHomesSaid : Prop := fnvHomesRow.holds Try.pinned (OpenSpec.ofChange fnvHomesSpec)

/-- ITS FALSE NEIGHBOUR: 'it returns false'. Refute it at one input. -/
def fnvHomesWrong : ChangeSpec := { name := "fnvHomes", fn := fun _ => fun
  | [d1, d2, d3] => { results := [.lit (.bool false)], args := [d1, d2, d3] }
  | _ => none }
def FnvHomesWrongFalsely : Prop := fnvHomesRow.holds Try.pinned (OpenSpec.ofChange fnvHomesWrong)

/-- 'hassocklaw01.CrcSums': WHATEVER THE INPUT: true; the input reads as it did. -/
def crcSumsSpec : ChangeSpec := { name := "crcSums", fn := fun _ => fun
  | [d1, d2] => { results := [.lit (.bool true)], args := [d1, d2] }
  | _ => none }
def crcSumsRow : OpenClaim := { program := "ytkfpolhglndbkaa", sum := "e890ab2c3c51dd2d9595fcbf0d1b4f9e1a0c054b461da007a6983f9b0ad34be4", func := "hassock/hassocklaw01.CrcSums", spec := "crcSums", plainKeys := false, apart := false }
def CrcSumsSaid : Prop := crcSumsRow.holds Try.pinned (OpenSpec.ofChange crcSumsSpec)

/-- ITS FALSE NEIGHBOUR: 'it returns false'. Refute it at one input. -/
def crcSumsWrong : ChangeSpec := { name := "crcSums", fn := fun _ => fun
  | [d1, d2] => { results := [.lit (.bool false)], args := [d1, d2] }
  | _ => none }
def CrcSumsWrongFalsely : Prop := crcSumsRow.holds Try.pinned (OpenSpec.ofChange crcSumsWrong)

/-- 'hassocklaw01.CrcRows': WHATEVER THE INPUT: true; the input reads as it did. -/
def crcRowsSpec : ChangeSpec := { name := "crcRows", fn := fun _ => fun
  | [d] => { results := [.lit (.bool true)], args := [d] }
  | _ => none }
def crcRowsRow : OpenClaim := { program := "ytkfpolhglndbkaa", sum := "e890ab2c3c51dd2d9595fcbf0d1b4f9e1a0c054b461da007a6983f9b0ad34be4", func := "hassock/hassocklaw01.CrcRows", spec := "crcRows", plainKeys := false, apart := false }
def CrcRowsSaid : Prop := crcRowsRow.holds Try.pinned (OpenSpec.ofChange crcRowsSpec)

/-- ITS FALSE NEIGHBOUR: 'it returns false'. Refute it at one input. -/
def crcRowsWrong : ChangeSpec := { name := "crcRows", fn := fun _ => fun
  | [d] => { results := [.lit (.bool false)], args := [d] }
  | _ => none }
def CrcRowsWrongFalsely : Prop := crcRowsRow.holds Try.pinned (OpenSpec.ofChange crcRowsWrong)

/-- 'hassocklaw01.CrcTurns': WHATEVER THE INPUT: true; the input reads as it did. -/
def crcTurnsSpec : ChangeSpec := { name := "crcTurns", fn := fun _ => fun
  | [d1, d2, d3] => { results := [.lit (.bool true)], args := [d1, d2, d3] }
  | _ => none }
def crcTurnsRow : OpenClaim := { program := "ytkfpolhglndbkaa", sum := "e890ab2c3c51dd2d9595fcbf0d1b4f9e1a0c054b461da007a6983f9b0ad34be4", func := "hassock/hassocklaw01.CrcTurns", spec := "crcTurns", plainKeys := false, apart := false }
def CrcTurnsSaid : Prop := crcTurnsRow.holds Try.pinned (OpenSpec.ofChange crcTurnsSpec)

/-- ITS FALSE NEIGHBOUR: 'it returns false'. Refute it at one input. -/
def crcTurnsWrong : ChangeSpec := { name := "crcTurns", fn := fun _ => fun
  | [d1, d2, d3] => { results := [.lit (.bool false)], args := [d1, d2, d3] }
  | _ => none }
def CrcTurnsWrongFalsely : Prop := crcTurnsRow.holds Try.pinned (OpenSpec.ofChange crcTurnsWrong)

/-- 'hassocklaw12.RightsStay': WHATEVER THE INPUT: true; the input reads as it did. -/
def rightsStaySpec : ChangeSpec := { name := "rightsStay", fn := fun _ => fun
  | [d1, d2, d3, d4, d5] => { results := [.lit (.bool true)], args := [d1, d2, d3, d4, d5] }
  | _ => none }
def rightsStayRow : OpenClaim := { program := "ytkfpolhglndbkaa", sum := "e890ab2c3c51dd2d9595fcbf0d1b4f9e1a0c054b461da007a6983f9b0ad34be4", func := "hassock/hassocklaw12.RightsStay", spec := "rightsStay", plainKeys := false, apart := false }
def RightsStaySaid : Prop := rightsStayRow.holds Try.pinned (OpenSpec.ofChange rightsStaySpec)

/-- ITS FALSE NEIGHBOUR: 'it returns false'. Refute it at one input. -/
def rightsStayWrong : ChangeSpec := { name := "rightsStay", fn := fun _ => fun
  | [d1, d2, d3, d4, d5] => { results := [.lit (.bool false)], args := [d1, d2, d3, d4, d5] }
  | _ => none }
def RightsStayWrongFalsely : Prop := rightsStayRow.holds Try.pinned (OpenSpec.ofChange rightsStayWrong)

/-- 'hassocklaw13.QuotaGrows': WHATEVER THE INPUT: true; the input reads as it did. -/
def quotaGrowsSpec : ChangeSpec := { name := "quotaGrows", fn := fun _ => fun
  | [d1, d2, d3, d4] => { results := [.lit (.bool true)], args := [d1, d2, d3, d4] }
  | _ => none }
def quotaGrowsRow : OpenClaim := { program := "ytkfpolhglndbkaa", sum := "e890ab2c3c51dd2d9595fcbf0d1b4f9e1a0c054b461da007a6983f9b0ad34be4", func := "hassock/hassocklaw13.QuotaGrows", spec := "quotaGrows", unfollowed := true, recurses := true, plainKeys := false, apart := false }
def QuotaGrowsSaid : Prop := quotaGrowsRow.holds Try.pinned (OpenSpec.ofChange quotaGrowsSpec)

/-- ITS FALSE NEIGHBOUR: 'it returns false'. Refute it at one input. -/
def quotaGrowsWrong : ChangeSpec := { name := "quotaGrows", fn := fun _ => fun
  | [d1, d2, d3, d4] => { results := [.lit (.bool false)], args := [d1, d2, d3, d4] }
  | _ => none }
def QuotaGrowsWrongFalsely : Prop := quotaGrowsRow.holds Try.pinned (OpenSpec.ofChange quotaGrowsWrong)

/-- 'hassocklaw02.PackPuts': WHATEVER THE INPUT: true; the input reads as it did. -/
def packPutsSpec : ChangeSpec := { name := "packPuts", fn := fun _ => fun
  | [d1, d2, d3, d4] => { results := [.lit (.bool true)], args := [d1, d2, d3, d4] }
  | _ => none }
def packPutsRow : OpenClaim := { program := "ytkfpolhglndbkaa", sum := "e890ab2c3c51dd2d9595fcbf0d1b4f9e1a0c054b461da007a6983f9b0ad34be4", func := "hassock/hassocklaw02.PackPuts", spec := "packPuts", plainKeys := false, apart := false }
def PackPutsSaid : Prop := packPutsRow.holds Try.pinned (OpenSpec.ofChange packPutsSpec)

/-- ITS FALSE NEIGHBOUR: 'it returns false'. Refute it at one input. -/
def packPutsWrong : ChangeSpec := { name := "packPuts", fn := fun _ => fun
  | [d1, d2, d3, d4] => { results := [.lit (.bool false)], args := [d1, d2, d3, d4] }
  | _ => none }
def PackPutsWrongFalsely : Prop := packPutsRow.holds Try.pinned (OpenSpec.ofChange packPutsWrong)

/-- 'hassocklaw02.PackReads': WHATEVER THE INPUT: true; the input reads as it did. -/
def packReadsSpec : ChangeSpec := { name := "packReads", fn := fun _ => fun
  | [d1, d2] => { results := [.lit (.bool true)], args := [d1, d2] }
  | _ => none }
def packReadsRow : OpenClaim := { program := "ytkfpolhglndbkaa", sum := "e890ab2c3c51dd2d9595fcbf0d1b4f9e1a0c054b461da007a6983f9b0ad34be4", func := "hassock/hassocklaw02.PackReads", spec := "packReads", plainKeys := false, apart := false }
def PackReadsSaid : Prop := packReadsRow.holds Try.pinned (OpenSpec.ofChange packReadsSpec)

/-- ITS FALSE NEIGHBOUR: 'it returns false'. Refute it at one input. -/
def packReadsWrong : ChangeSpec := { name := "packReads", fn := fun _ => fun
  | [d1, d2] => { results := [.lit (.bool false)], args := [d1, d2] }
  | _ => none }
def PackReadsWrongFalsely : Prop := packReadsRow.holds Try.pinned (OpenSpec.ofChange packReadsWrong)

/-- 'hassocklaw02.PackBack': WHATEVER THE INPUT: true; the input reads as it did. -/
def packBackSpec : ChangeSpec := { name := "packBack", fn := fun _ => fun
  | [d1, d2, d3] => { results := [.lit (.bool true)], args := [d1, d2, d3] }
  | _ => none }
def packBackRow : OpenClaim := { program := "ytkfpolhglndbkaa", sum := "e890ab2c3c51dd2d9595fcbf0d1b4f9e1a0c054b461da007a6983f9b0ad34be4", func := "hassock/hassocklaw02.PackBack", spec := "packBack", plainKeys := false, apart := false }
def PackBackSaid : Prop := packBackRow.holds Try.pinned (OpenSpec.ofChange packBackSpec)

/-- ITS FALSE NEIGHBOUR: 'it returns false'. Refute it at one input. -/
def packBackWrong : ChangeSpec := { name := "packBack", fn := fun _ => fun
  | [d1, d2, d3] => { results := [.lit (.bool false)], args := [d1, d2, d3] }
  | _ => none }
def PackBackWrongFalsely : Prop := packBackRow.holds Try.pinned (OpenSpec.ofChange packBackWrong)

/-- 'hassocklaw10.ExpirySorts': WHATEVER THE INPUT: true; the input reads as it did. -/
def expirySortsSpec : ChangeSpec := { name := "expirySorts", fn := fun _ => fun
  | [d] => { results := [.lit (.bool true)], args := [d] }
  | _ => none }
def expirySortsRow : OpenClaim := { program := "ytkfpolhglndbkaa", sum := "e890ab2c3c51dd2d9595fcbf0d1b4f9e1a0c054b461da007a6983f9b0ad34be4", func := "hassock/hassocklaw10.ExpirySorts", spec := "expirySorts", inPlace := ["internal/bytealg.abigen_runtime_cmpstring"], plainKeys := false, apart := false }
def ExpirySortsSaid : Prop := expirySortsRow.holds Try.pinned (OpenSpec.ofChange expirySortsSpec)

/-- ITS FALSE NEIGHBOUR: 'it returns false'. Refute it at one input. -/
def expirySortsWrong : ChangeSpec := { name := "expirySorts", fn := fun _ => fun
  | [d] => { results := [.lit (.bool false)], args := [d] }
  | _ => none }
def ExpirySortsWrongFalsely : Prop := expirySortsRow.holds Try.pinned (OpenSpec.ofChange expirySortsWrong)

/-- 'hassocklaw10.ExpiryPlays': WHATEVER THE INPUT: true; the input reads as it did. -/
def expiryPlaysSpec : ChangeSpec := { name := "expiryPlays", fn := fun _ => fun
  | [d] => { results := [.lit (.bool true)], args := [d] }
  | _ => none }
def expiryPlaysRow : OpenClaim := { program := "ytkfpolhglndbkaa", sum := "e890ab2c3c51dd2d9595fcbf0d1b4f9e1a0c054b461da007a6983f9b0ad34be4", func := "hassock/hassocklaw10.ExpiryPlays", spec := "expiryPlays", inPlace := ["internal/bytealg.abigen_runtime_cmpstring"], plainKeys := false, apart := false }
def ExpiryPlaysSaid : Prop := expiryPlaysRow.holds Try.pinned (OpenSpec.ofChange expiryPlaysSpec)

/-- ITS FALSE NEIGHBOUR: 'it returns false'. Refute it at one input. -/
def expiryPlaysWrong : ChangeSpec := { name := "expiryPlays", fn := fun _ => fun
  | [d] => { results := [.lit (.bool false)], args := [d] }
  | _ => none }
def ExpiryPlaysWrongFalsely : Prop := expiryPlaysRow.holds Try.pinned (OpenSpec.ofChange expiryPlaysWrong)

/- THE SECOND FORM. 'bulk': how many values and letters a reading holds, each counted each time it is reached (what is shared counts as often as it is met; a slice's spare places count too). A statement '..UptoSaid' is the law's where the arguments, and the package variables that the reading takes, are together of bulk at most 1048576: NARROWER than '..Said'. Prove '..Said' where nothing that the law and all that it calls make is longer than what came in: it says more and counts as full. Else prove '..UptoSaid'. A law counts once. -/
mutual
def uptoBulk {H : Type} : DataW H → Nat
  | .lit (.string bytes) => bytes.length + 1
  | .lit _ => 1
  | .nil => 1
  | .ptr d => uptoBulk d + 1
  | .slice elems spare => uptoBulkAll elems + uptoBulkAll spare + 1
  | .agg parts => uptoBulkAll parts + 1
  | .iface _ d => uptoBulk d + 1
  | .map entries => uptoBulkEntries entries + 1
  | .held _ => 1
def uptoBulkAll {H : Type} : List (DataW H) → Nat
  | [] => 0
  | d :: r => uptoBulk d + uptoBulkAll r
def uptoBulkEntries {H : Type} : List (Lit × DataW H) → Nat
  | [] => 0
  | x :: r => uptoBulkEntry x + uptoBulkEntries r
def uptoBulkEntry {H : Type} : Lit × DataW H → Nat
  | (.string bytes, d) => bytes.length + uptoBulk d + 1
  | (_, d) => uptoBulk d + 1
 end
def uptoSmall : (H : Type) → List (DataW H) → Bool := fun _ ds => decide (uptoBulkAll ds ≤ 1048576)
def OpenSpec.upto (s : _root_.Go.ChangeSpec) : _root_.Go.OpenSpec := { _root_.Go.OpenSpec.ofChange s with cond := some uptoSmall }

/-- 'hassocklaw03.FnvHashes', WHERE WHAT IT READS IS OF BULK AT MOST 1048576: true; the input reads as it did. -/
def fnvHashesUptoRow : OpenClaim := { program := "ytkfpolhglndbkaa", sum := "e890ab2c3c51dd2d9595fcbf0d1b4f9e1a0c054b461da007a6983f9b0ad34be4", func := "hassock/hassocklaw03.FnvHashes", spec := "fnvHashes", plainKeys := false, apart := false, narrowed := true }
def FnvHashesUptoSaid : Prop := fnvHashesUptoRow.holds Try.pinned (OpenSpec.upto fnvHashesSpec)

/-- 'hassocklaw03.FnvHomes', WHERE WHAT IT READS IS OF BULK AT MOST 1048576: true; the input reads as it did. -/
def fnvHomesUptoRow : OpenClaim := { program := "ytkfpolhglndbkaa", sum := "e890ab2c3c51dd2d9595fcbf0d1b4f9e1a0c054b461da007a6983f9b0ad34be4", func := "hassock/hassocklaw03.FnvHomes", spec := "fnvHomes", plainKeys := false, apart := false, narrowed := true }
def FnvHomesUptoSaid : Prop := fnvHomesUptoRow.holds Try.pinned (OpenSpec.upto fnvHomesSpec)

/-- 'hassocklaw01.CrcSums', WHERE WHAT IT READS IS OF BULK AT MOST 1048576: true; the input reads as it did. -/
def crcSumsUptoRow : OpenClaim := { program := "ytkfpolhglndbkaa", sum := "e890ab2c3c51dd2d9595fcbf0d1b4f9e1a0c054b461da007a6983f9b0ad34be4", func := "hassock/hassocklaw01.CrcSums", spec := "crcSums", plainKeys := false, apart := false, narrowed := true }
def CrcSumsUptoSaid : Prop := crcSumsUptoRow.holds Try.pinned (OpenSpec.upto crcSumsSpec)

/-- 'hassocklaw01.CrcRows', WHERE WHAT IT READS IS OF BULK AT MOST 1048576: true; the input reads as it did. -/
def crcRowsUptoRow : OpenClaim := { program := "ytkfpolhglndbkaa", sum := "e890ab2c3c51dd2d9595fcbf0d1b4f9e1a0c054b461da007a6983f9b0ad34be4", func := "hassock/hassocklaw01.CrcRows", spec := "crcRows", plainKeys := false, apart := false, narrowed := true }
def CrcRowsUptoSaid : Prop := crcRowsUptoRow.holds Try.pinned (OpenSpec.upto crcRowsSpec)

/-- 'hassocklaw01.CrcTurns', WHERE WHAT IT READS IS OF BULK AT MOST 1048576: true; the input reads as it did. -/
def crcTurnsUptoRow : OpenClaim := { program := "ytkfpolhglndbkaa", sum := "e890ab2c3c51dd2d9595fcbf0d1b4f9e1a0c054b461da007a6983f9b0ad34be4", func := "hassock/hassocklaw01.CrcTurns", spec := "crcTurns", plainKeys := false, apart := false, narrowed := true }
def CrcTurnsUptoSaid : Prop := crcTurnsUptoRow.holds Try.pinned (OpenSpec.upto crcTurnsSpec)

/-- 'hassocklaw12.RightsStay', WHERE WHAT IT READS IS OF BULK AT MOST 1048576: true; the input reads as it did. -/
def rightsStayUptoRow : OpenClaim := { program := "ytkfpolhglndbkaa", sum := "e890ab2c3c51dd2d9595fcbf0d1b4f9e1a0c054b461da007a6983f9b0ad34be4", func := "hassock/hassocklaw12.RightsStay", spec := "rightsStay", plainKeys := false, apart := false, narrowed := true }
def RightsStayUptoSaid : Prop := rightsStayUptoRow.holds Try.pinned (OpenSpec.upto rightsStaySpec)

/-- 'hassocklaw13.QuotaGrows', WHERE WHAT IT READS IS OF BULK AT MOST 1048576: true; the input reads as it did. -/
def quotaGrowsUptoRow : OpenClaim := { program := "ytkfpolhglndbkaa", sum := "e890ab2c3c51dd2d9595fcbf0d1b4f9e1a0c054b461da007a6983f9b0ad34be4", func := "hassock/hassocklaw13.QuotaGrows", spec := "quotaGrows", unfollowed := true, recurses := true, plainKeys := false, apart := false, narrowed := true }
def QuotaGrowsUptoSaid : Prop := quotaGrowsUptoRow.holds Try.pinned (OpenSpec.upto quotaGrowsSpec)

/-- 'hassocklaw02.PackPuts', WHERE WHAT IT READS IS OF BULK AT MOST 1048576: true; the input reads as it did. -/
def packPutsUptoRow : OpenClaim := { program := "ytkfpolhglndbkaa", sum := "e890ab2c3c51dd2d9595fcbf0d1b4f9e1a0c054b461da007a6983f9b0ad34be4", func := "hassock/hassocklaw02.PackPuts", spec := "packPuts", plainKeys := false, apart := false, narrowed := true }
def PackPutsUptoSaid : Prop := packPutsUptoRow.holds Try.pinned (OpenSpec.upto packPutsSpec)

/-- 'hassocklaw02.PackReads', WHERE WHAT IT READS IS OF BULK AT MOST 1048576: true; the input reads as it did. -/
def packReadsUptoRow : OpenClaim := { program := "ytkfpolhglndbkaa", sum := "e890ab2c3c51dd2d9595fcbf0d1b4f9e1a0c054b461da007a6983f9b0ad34be4", func := "hassock/hassocklaw02.PackReads", spec := "packReads", plainKeys := false, apart := false, narrowed := true }
def PackReadsUptoSaid : Prop := packReadsUptoRow.holds Try.pinned (OpenSpec.upto packReadsSpec)

/-- 'hassocklaw02.PackBack', WHERE WHAT IT READS IS OF BULK AT MOST 1048576: true; the input reads as it did. -/
def packBackUptoRow : OpenClaim := { program := "ytkfpolhglndbkaa", sum := "e890ab2c3c51dd2d9595fcbf0d1b4f9e1a0c054b461da007a6983f9b0ad34be4", func := "hassock/hassocklaw02.PackBack", spec := "packBack", plainKeys := false, apart := false, narrowed := true }
def PackBackUptoSaid : Prop := packBackUptoRow.holds Try.pinned (OpenSpec.upto packBackSpec)

/-- 'hassocklaw10.ExpirySorts', WHERE WHAT IT READS IS OF BULK AT MOST 1048576: true; the input reads as it did. -/
def expirySortsUptoRow : OpenClaim := { program := "ytkfpolhglndbkaa", sum := "e890ab2c3c51dd2d9595fcbf0d1b4f9e1a0c054b461da007a6983f9b0ad34be4", func := "hassock/hassocklaw10.ExpirySorts", spec := "expirySorts", inPlace := ["internal/bytealg.abigen_runtime_cmpstring"], plainKeys := false, apart := false, narrowed := true }
def ExpirySortsUptoSaid : Prop := expirySortsUptoRow.holds Try.pinned (OpenSpec.upto expirySortsSpec)

/-- 'hassocklaw10.ExpiryPlays', WHERE WHAT IT READS IS OF BULK AT MOST 1048576: true; the input reads as it did. -/
def expiryPlaysUptoRow : OpenClaim := { program := "ytkfpolhglndbkaa", sum := "e890ab2c3c51dd2d9595fcbf0d1b4f9e1a0c054b461da007a6983f9b0ad34be4", func := "hassock/hassocklaw10.ExpiryPlays", spec := "expiryPlays", inPlace := ["internal/bytealg.abigen_runtime_cmpstring"], plainKeys := false, apart := false, narrowed := true }
def ExpiryPlaysUptoSaid : Prop := expiryPlaysUptoRow.holds Try.pinned (OpenSpec.upto expiryPlaysSpec)

end Rows
end Go.Proofs.Ytkfpolhglndbkaa
