/-
  No cell of these rows narrows 'for every input' (looked for: loops, veiled, ifaces, maps, wideKeys, modest, calm, conditions, laid).
  DERIVED. THE GIVEN ROWS OF THIS SEAT. 9 by the template 'for every input the law returns true; each argument reads behind the call as it read before'; 0 by the template 'total and deterministic' (their statements: YtnpalplnpfgibaaTotals.lean).
  GIVEN WITH THE SEED: the statements are not yours to turn. If you find one false, say at which input.
  Laid BY PROGRAM, IN A SANDBOX (cutbox-rows.mjs): the forced cells as the released guide's own fill.sh prints them over the translation 64a786ef5383a85f… (all of the seat's roots in one cut). By AI agents, Wed Nov 11 2026. No macro, syntax, notation, axiom, sorry.
-/
import Derived.Test.YtnpalplnpfgibaaChecked
import GoSem.Claim
import GoSem.ClaimJoined
import GoSem.ClaimMapViews
import Derived.JoinedTies
import Derived.KernelRfl
namespace Go.Proofs.Ytnpalplnpfgibaa
/- THE CELL 'sum', in the pinned program and in every row, IS THE sha256 OF THE DUMP (.gsa) THAT YtnpalplnpfgibaaProg.lean LOADS. Nothing in Lean hashes anything: it is a label: what it is worth is what the hold of that sum in a sandbox is worth. -/
noncomputable def Try.pinned : Pinned := { name := "ytnpalplnpfgibaa", sum := "64a786ef5383a85f648cf48c846bac595db02388ae2d113c32d76bd5a8936574", checked := Try.checked }
namespace Rows
def none {H : Type} : Left H := { results := [], args := [] }

/-- 'hassocklaw10.ExpirySorts': WHATEVER THE INPUT: true; the input reads as it did. -/
def expirySortsSpec : ChangeSpec := { name := "expirySorts", fn := fun _ => fun
  | [d] => { results := [.lit (.bool true)], args := [d] }
  | _ => none }
def expirySortsRow : OpenClaim := { program := "ytnpalplnpfgibaa", sum := "64a786ef5383a85f648cf48c846bac595db02388ae2d113c32d76bd5a8936574", func := "hassock/hassocklaw10.ExpirySorts", spec := "expirySorts", inPlace := ["internal/bytealg.abigen_runtime_cmpstring"], plainKeys := false, apart := false }
def ExpirySortsSaid : Prop := expirySortsRow.holds Try.pinned (OpenSpec.ofChange expirySortsSpec)

/-- ITS FALSE NEIGHBOUR: 'it returns false'. Refute it at one input. -/
def expirySortsWrong : ChangeSpec := { name := "expirySorts", fn := fun _ => fun
  | [d] => { results := [.lit (.bool false)], args := [d] }
  | _ => none }
def ExpirySortsWrongFalsely : Prop := expirySortsRow.holds Try.pinned (OpenSpec.ofChange expirySortsWrong)

/-- 'hassocklaw10.ExpiryPlays': WHATEVER THE INPUT: true; the input reads as it did. -/
def expiryPlaysSpec : ChangeSpec := { name := "expiryPlays", fn := fun _ => fun
  | [d] => { results := [.lit (.bool true)], args := [d] }
  | _ => none }
def expiryPlaysRow : OpenClaim := { program := "ytnpalplnpfgibaa", sum := "64a786ef5383a85f648cf48c846bac595db02388ae2d113c32d76bd5a8936574", func := "hassock/hassocklaw10.ExpiryPlays", spec := "expiryPlays", inPlace := ["internal/bytealg.abigen_runtime_cmpstring"], plainKeys := false, apart := false }
def ExpiryPlaysSaid : Prop := expiryPlaysRow.holds Try.pinned (OpenSpec.ofChange expiryPlaysSpec)

/-- ITS FALSE NEIGHBOUR: 'it returns false'. Refute it at one input. -/
def expiryPlaysWrong : ChangeSpec := { name := "expiryPlays", fn := fun _ => fun
  | [d] => { results := [.lit (.bool false)], args := [d] }
  | _ => none }
def ExpiryPlaysWrongFalsely : Prop := expiryPlaysRow.holds Try.pinned (OpenSpec.ofChange expiryPlaysWrong)

/-- 'hassocklaw04.DiskKeeps': WHATEVER THE INPUT: true; the input reads as it did. -/
def diskKeepsSpec : ChangeSpec := { name := "diskKeeps", fn := fun _ => fun
  | [d1, d2, d3, d4, d5] => { results := [.lit (.bool true)], args := [d1, d2, d3, d4, d5] }
  | _ => none }
def diskKeepsRow : OpenClaim := { program := "ytnpalplnpfgibaa", sum := "64a786ef5383a85f648cf48c846bac595db02388ae2d113c32d76bd5a8936574", func := "hassock/hassocklaw04.DiskKeeps", spec := "diskKeeps", plainKeys := false, apart := false }
def DiskKeepsSaid : Prop := diskKeepsRow.holds Try.pinned (OpenSpec.ofChange diskKeepsSpec)

/-- ITS FALSE NEIGHBOUR: 'it returns false'. Refute it at one input. -/
def diskKeepsWrong : ChangeSpec := { name := "diskKeeps", fn := fun _ => fun
  | [d1, d2, d3, d4, d5] => { results := [.lit (.bool false)], args := [d1, d2, d3, d4, d5] }
  | _ => none }
def DiskKeepsWrongFalsely : Prop := diskKeepsRow.holds Try.pinned (OpenSpec.ofChange diskKeepsWrong)

/-- 'hassocklaw12.RightsPlays': WHATEVER THE INPUT: true; the input reads as it did. -/
def rightsPlaysSpec : ChangeSpec := { name := "rightsPlays", fn := fun _ => fun
  | [d1, d2, d3] => { results := [.lit (.bool true)], args := [d1, d2, d3] }
  | _ => none }
def rightsPlaysRow : OpenClaim := { program := "ytnpalplnpfgibaa", sum := "64a786ef5383a85f648cf48c846bac595db02388ae2d113c32d76bd5a8936574", func := "hassock/hassocklaw12.RightsPlays", spec := "rightsPlays", unfollowed := true, recurses := true, plainKeys := false, apart := false }
def RightsPlaysSaid : Prop := rightsPlaysRow.holds Try.pinned (OpenSpec.ofChange rightsPlaysSpec)

/-- ITS FALSE NEIGHBOUR: 'it returns false'. Refute it at one input. -/
def rightsPlaysWrong : ChangeSpec := { name := "rightsPlays", fn := fun _ => fun
  | [d1, d2, d3] => { results := [.lit (.bool false)], args := [d1, d2, d3] }
  | _ => none }
def RightsPlaysWrongFalsely : Prop := rightsPlaysRow.holds Try.pinned (OpenSpec.ofChange rightsPlaysWrong)

/-- 'hassocklaw11.FoldPages': WHATEVER THE INPUT: true; the input reads as it did. -/
def foldPagesSpec : ChangeSpec := { name := "foldPages", fn := fun _ => fun
  | [d1, d2, d3, d4] => { results := [.lit (.bool true)], args := [d1, d2, d3, d4] }
  | _ => none }
def foldPagesRow : OpenClaim := { program := "ytnpalplnpfgibaa", sum := "64a786ef5383a85f648cf48c846bac595db02388ae2d113c32d76bd5a8936574", func := "hassock/hassocklaw11.FoldPages", spec := "foldPages", unfollowed := true, recurses := true, plainKeys := false, apart := false }
def FoldPagesSaid : Prop := foldPagesRow.holds Try.pinned (OpenSpec.ofChange foldPagesSpec)

/-- ITS FALSE NEIGHBOUR: 'it returns false'. Refute it at one input. -/
def foldPagesWrong : ChangeSpec := { name := "foldPages", fn := fun _ => fun
  | [d1, d2, d3, d4] => { results := [.lit (.bool false)], args := [d1, d2, d3, d4] }
  | _ => none }
def FoldPagesWrongFalsely : Prop := foldPagesRow.holds Try.pinned (OpenSpec.ofChange foldPagesWrong)

/-- 'hassocklaw11.FoldAll': WHATEVER THE INPUT: true; the input reads as it did. -/
def foldAllSpec : ChangeSpec := { name := "foldAll", fn := fun _ => fun
  | [d1, d2] => { results := [.lit (.bool true)], args := [d1, d2] }
  | _ => none }
def foldAllRow : OpenClaim := { program := "ytnpalplnpfgibaa", sum := "64a786ef5383a85f648cf48c846bac595db02388ae2d113c32d76bd5a8936574", func := "hassock/hassocklaw11.FoldAll", spec := "foldAll", unfollowed := true, recurses := true, plainKeys := false, apart := false }
def FoldAllSaid : Prop := foldAllRow.holds Try.pinned (OpenSpec.ofChange foldAllSpec)

/-- ITS FALSE NEIGHBOUR: 'it returns false'. Refute it at one input. -/
def foldAllWrong : ChangeSpec := { name := "foldAll", fn := fun _ => fun
  | [d1, d2] => { results := [.lit (.bool false)], args := [d1, d2] }
  | _ => none }
def FoldAllWrongFalsely : Prop := foldAllRow.holds Try.pinned (OpenSpec.ofChange foldAllWrong)

/-- 'hassocklaw04.DiskPlays': WHATEVER THE INPUT: true; the input reads as it did. -/
def diskPlaysSpec : ChangeSpec := { name := "diskPlays", fn := fun _ => fun
  | [d1, d2] => { results := [.lit (.bool true)], args := [d1, d2] }
  | _ => none }
def diskPlaysRow : OpenClaim := { program := "ytnpalplnpfgibaa", sum := "64a786ef5383a85f648cf48c846bac595db02388ae2d113c32d76bd5a8936574", func := "hassock/hassocklaw04.DiskPlays", spec := "diskPlays", unfollowed := true, recurses := true, plainKeys := false, apart := false }
def DiskPlaysSaid : Prop := diskPlaysRow.holds Try.pinned (OpenSpec.ofChange diskPlaysSpec)

/-- ITS FALSE NEIGHBOUR: 'it returns false'. Refute it at one input. -/
def diskPlaysWrong : ChangeSpec := { name := "diskPlays", fn := fun _ => fun
  | [d1, d2] => { results := [.lit (.bool false)], args := [d1, d2] }
  | _ => none }
def DiskPlaysWrongFalsely : Prop := diskPlaysRow.holds Try.pinned (OpenSpec.ofChange diskPlaysWrong)

/-- 'hassocklaw14.LoadPlays': WHATEVER THE INPUT: true; the input reads as it did. -/
def loadPlaysSpec : ChangeSpec := { name := "loadPlays", fn := fun _ => fun
  | [d] => { results := [.lit (.bool true)], args := [d] }
  | _ => none }
def loadPlaysRow : OpenClaim := { program := "ytnpalplnpfgibaa", sum := "64a786ef5383a85f648cf48c846bac595db02388ae2d113c32d76bd5a8936574", func := "hassock/hassocklaw14.LoadPlays", spec := "loadPlays", unfollowed := true, recurses := true, plainKeys := false, apart := false }
def LoadPlaysSaid : Prop := loadPlaysRow.holds Try.pinned (OpenSpec.ofChange loadPlaysSpec)

/-- ITS FALSE NEIGHBOUR: 'it returns false'. Refute it at one input. -/
def loadPlaysWrong : ChangeSpec := { name := "loadPlays", fn := fun _ => fun
  | [d] => { results := [.lit (.bool false)], args := [d] }
  | _ => none }
def LoadPlaysWrongFalsely : Prop := loadPlaysRow.holds Try.pinned (OpenSpec.ofChange loadPlaysWrong)

/-- 'hassocklaw14.LoadSums': WHATEVER THE INPUT: true; the input reads as it did. -/
def loadSumsSpec : ChangeSpec := { name := "loadSums", fn := fun _ => fun
  | [d1, d2] => { results := [.lit (.bool true)], args := [d1, d2] }
  | _ => none }
def loadSumsRow : OpenClaim := { program := "ytnpalplnpfgibaa", sum := "64a786ef5383a85f648cf48c846bac595db02388ae2d113c32d76bd5a8936574", func := "hassock/hassocklaw14.LoadSums", spec := "loadSums", unfollowed := true, recurses := true, plainKeys := false, apart := false }
def LoadSumsSaid : Prop := loadSumsRow.holds Try.pinned (OpenSpec.ofChange loadSumsSpec)

/-- ITS FALSE NEIGHBOUR: 'it returns false'. Refute it at one input. -/
def loadSumsWrong : ChangeSpec := { name := "loadSums", fn := fun _ => fun
  | [d1, d2] => { results := [.lit (.bool false)], args := [d1, d2] }
  | _ => none }
def LoadSumsWrongFalsely : Prop := loadSumsRow.holds Try.pinned (OpenSpec.ofChange loadSumsWrong)

/- THE SECOND FORM. 'bulk': how many values and letters a reading holds, each counted each time it is reached (what is shared counts as often as it is met; a slice's spare places count too). A statement '..UptoSaid' is the law's where the arguments, and the package variables that the reading takes, are together of bulk at most 1048576: NARROWER than '..Said'. Prove '..Said' where nothing that the law and all that it calls make is longer than what came in: it says more and counts as full. Else prove '..UptoSaid'. A law counts once. -/
mutual
def uptoBulk {H : Type} : DataW H → Nat
  | .lit (.string bytes) => bytes.length + 1
  | .lit _ => 1
  | .nil => 1
  | .ptr d => uptoBulk d + 1
  | .slice elems spare => uptoBulkAll elems + uptoBulkAll spare + 1
  | .agg parts => uptoBulkAll parts + 1
  | .iface _ d => uptoBulk d + 1
  | .map entries => uptoBulkEntries entries + 1
  | .held _ => 1
def uptoBulkAll {H : Type} : List (DataW H) → Nat
  | [] => 0
  | d :: r => uptoBulk d + uptoBulkAll r
def uptoBulkEntries {H : Type} : List (Lit × DataW H) → Nat
  | [] => 0
  | x :: r => uptoBulkEntry x + uptoBulkEntries r
def uptoBulkEntry {H : Type} : Lit × DataW H → Nat
  | (.string bytes, d) => bytes.length + uptoBulk d + 1
  | (_, d) => uptoBulk d + 1
 end
def uptoSmall : (H : Type) → List (DataW H) → Bool := fun _ ds => decide (uptoBulkAll ds ≤ 1048576)
def OpenSpec.upto (s : _root_.Go.ChangeSpec) : _root_.Go.OpenSpec := { _root_.Go.OpenSpec.ofChange s with cond := some uptoSmall }

/-- 'hassocklaw10.ExpirySorts', WHERE WHAT IT READS IS OF BULK AT MOST 1048576: true; the input reads as it did. -/
def expirySortsUptoRow : OpenClaim := { program := "ytnpalplnpfgibaa", sum := "64a786ef5383a85f648cf48c846bac595db02388ae2d113c32d76bd5a8936574", func := "hassock/hassocklaw10.ExpirySorts", spec := "expirySorts", inPlace := ["internal/bytealg.abigen_runtime_cmpstring"], plainKeys := false, apart := false, narrowed := true }
def ExpirySortsUptoSaid : Prop := expirySortsUptoRow.holds Try.pinned (OpenSpec.upto expirySortsSpec)

/-- 'hassocklaw10.ExpiryPlays', WHERE WHAT IT READS IS OF BULK AT MOST 1048576: true; the input reads as it did. -/
def expiryPlaysUptoRow : OpenClaim := { program := "ytnpalplnpfgibaa", sum := "64a786ef5383a85f648cf48c846bac595db02388ae2d113c32d76bd5a8936574", func := "hassock/hassocklaw10.ExpiryPlays", spec := "expiryPlays", inPlace := ["internal/bytealg.abigen_runtime_cmpstring"], plainKeys := false, apart := false, narrowed := true }
def ExpiryPlaysUptoSaid : Prop := expiryPlaysUptoRow.holds Try.pinned (OpenSpec.upto expiryPlaysSpec)

/-- 'hassocklaw04.DiskKeeps', WHERE WHAT IT READS IS OF BULK AT MOST 1048576: true; the input reads as it did. -/
def diskKeepsUptoRow : OpenClaim := { program := "ytnpalplnpfgibaa", sum := "64a786ef5383a85f648cf48c846bac595db02388ae2d113c32d76bd5a8936574", func := "hassock/hassocklaw04.DiskKeeps", spec := "diskKeeps", plainKeys := false, apart := false, narrowed := true }
def DiskKeepsUptoSaid : Prop := diskKeepsUptoRow.holds Try.pinned (OpenSpec.upto diskKeepsSpec)

/-- 'hassocklaw12.RightsPlays', WHERE WHAT IT READS IS OF BULK AT MOST 1048576: true; the input reads as it did. -/
def rightsPlaysUptoRow : OpenClaim := { program := "ytnpalplnpfgibaa", sum := "64a786ef5383a85f648cf48c846bac595db02388ae2d113c32d76bd5a8936574", func := "hassock/hassocklaw12.RightsPlays", spec := "rightsPlays", unfollowed := true, recurses := true, plainKeys := false, apart := false, narrowed := true }
def RightsPlaysUptoSaid : Prop := rightsPlaysUptoRow.holds Try.pinned (OpenSpec.upto rightsPlaysSpec)

/-- 'hassocklaw11.FoldPages', WHERE WHAT IT READS IS OF BULK AT MOST 1048576: true; the input reads as it did. -/
def foldPagesUptoRow : OpenClaim := { program := "ytnpalplnpfgibaa", sum := "64a786ef5383a85f648cf48c846bac595db02388ae2d113c32d76bd5a8936574", func := "hassock/hassocklaw11.FoldPages", spec := "foldPages", unfollowed := true, recurses := true, plainKeys := false, apart := false, narrowed := true }
def FoldPagesUptoSaid : Prop := foldPagesUptoRow.holds Try.pinned (OpenSpec.upto foldPagesSpec)

/-- 'hassocklaw11.FoldAll', WHERE WHAT IT READS IS OF BULK AT MOST 1048576: true; the input reads as it did. -/
def foldAllUptoRow : OpenClaim := { program := "ytnpalplnpfgibaa", sum := "64a786ef5383a85f648cf48c846bac595db02388ae2d113c32d76bd5a8936574", func := "hassock/hassocklaw11.FoldAll", spec := "foldAll", unfollowed := true, recurses := true, plainKeys := false, apart := false, narrowed := true }
def FoldAllUptoSaid : Prop := foldAllUptoRow.holds Try.pinned (OpenSpec.upto foldAllSpec)

/-- 'hassocklaw04.DiskPlays', WHERE WHAT IT READS IS OF BULK AT MOST 1048576: true; the input reads as it did. -/
def diskPlaysUptoRow : OpenClaim := { program := "ytnpalplnpfgibaa", sum := "64a786ef5383a85f648cf48c846bac595db02388ae2d113c32d76bd5a8936574", func := "hassock/hassocklaw04.DiskPlays", spec := "diskPlays", unfollowed := true, recurses := true, plainKeys := false, apart := false, narrowed := true }
def DiskPlaysUptoSaid : Prop := diskPlaysUptoRow.holds Try.pinned (OpenSpec.upto diskPlaysSpec)

/-- 'hassocklaw14.LoadPlays', WHERE WHAT IT READS IS OF BULK AT MOST 1048576: true; the input reads as it did. -/
def loadPlaysUptoRow : OpenClaim := { program := "ytnpalplnpfgibaa", sum := "64a786ef5383a85f648cf48c846bac595db02388ae2d113c32d76bd5a8936574", func := "hassock/hassocklaw14.LoadPlays", spec := "loadPlays", unfollowed := true, recurses := true, plainKeys := false, apart := false, narrowed := true }
def LoadPlaysUptoSaid : Prop := loadPlaysUptoRow.holds Try.pinned (OpenSpec.upto loadPlaysSpec)

/-- 'hassocklaw14.LoadSums', WHERE WHAT IT READS IS OF BULK AT MOST 1048576: true; the input reads as it did. -/
def loadSumsUptoRow : OpenClaim := { program := "ytnpalplnpfgibaa", sum := "64a786ef5383a85f648cf48c846bac595db02388ae2d113c32d76bd5a8936574", func := "hassock/hassocklaw14.LoadSums", spec := "loadSums", unfollowed := true, recurses := true, plainKeys := false, apart := false, narrowed := true }
def LoadSumsUptoSaid : Prop := loadSumsUptoRow.holds Try.pinned (OpenSpec.upto loadSumsSpec)

end Rows
end Go.Proofs.Ytnpalplnpfgibaa
