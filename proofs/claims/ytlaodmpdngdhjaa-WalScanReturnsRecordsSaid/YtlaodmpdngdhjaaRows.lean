/-
  No cell of these rows narrows 'for every input' (looked for: loops, veiled, ifaces, maps, wideKeys, modest, calm, conditions, laid).
  DERIVED. THE GIVEN ROWS OF THIS SEAT. 16 by the template 'for every input the law returns true; each argument reads behind the call as it read before'; 0 by the template 'total and deterministic' (their statements: YtlaodmpdngdhjaaTotals.lean).
  GIVEN WITH THE SEED: the statements are not yours to turn. If you find one false, say at which input.
  Laid BY PROGRAM, IN A SANDBOX (cutbox-rows.mjs): the forced cells as the released guide's own fill.sh prints them over the translation 2f24e662b576fc46… (all of the seat's roots in one cut). By AI agents, Wed Nov 11 2026. No macro, syntax, notation, axiom, sorry.
-/
import Derived.Test.YtlaodmpdngdhjaaChecked
import GoSem.Claim
import GoSem.ClaimJoined
import GoSem.ClaimMapViews
import Derived.JoinedTies
import Derived.KernelRfl
namespace Go.Proofs.Ytlaodmpdngdhjaa
/- THE CELL 'sum', in the pinned program and in every row, IS THE sha256 OF THE DUMP (.gsa) THAT YtlaodmpdngdhjaaProg.lean LOADS. Nothing in Lean hashes anything: it is a label: what it is worth is what the hold of that sum in a sandbox is worth. -/
noncomputable def Try.pinned : Pinned := { name := "ytlaodmpdngdhjaa", sum := "2f24e662b576fc46e5e47c0673eac4d8e68774343f2d7fcd461c0e43eecd9b88", checked := Try.checked }
namespace Rows
def none {H : Type} : Left H := { results := [], args := [] }

/-- 'certpathlaw22.WalResetsOrNot': WHATEVER THE INPUT: true; the input reads as it did. -/
def walResetsOrNotSpec : ChangeSpec := { name := "walResetsOrNot", fn := fun _ => fun
  | [d1, d2, d3, d4, d5] => { results := [.lit (.bool true)], args := [d1, d2, d3, d4, d5] }
  | _ => none }
def walResetsOrNotRow : OpenClaim := { program := "ytlaodmpdngdhjaa", sum := "2f24e662b576fc46e5e47c0673eac4d8e68774343f2d7fcd461c0e43eecd9b88", func := "certpath/certpathlaw22.WalResetsOrNot", spec := "walResetsOrNot", inPlace := ["maps.clone"], unfollowed := true, recurses := true, apart := false }
def WalResetsOrNotSaid : Prop := walResetsOrNotRow.holds Try.pinned (OpenSpec.ofChange walResetsOrNotSpec)

/-- ITS FALSE NEIGHBOUR: 'it returns false'. Refute it at one input. -/
def walResetsOrNotWrong : ChangeSpec := { name := "walResetsOrNot", fn := fun _ => fun
  | [d1, d2, d3, d4, d5] => { results := [.lit (.bool false)], args := [d1, d2, d3, d4, d5] }
  | _ => none }
def WalResetsOrNotWrongFalsely : Prop := walResetsOrNotRow.holds Try.pinned (OpenSpec.ofChange walResetsOrNotWrong)

/-- 'certpathlaw21.DiskTornAppend': WHATEVER THE INPUT: true; the input reads as it did. -/
def diskTornAppendSpec : ChangeSpec := { name := "diskTornAppend", fn := fun _ => fun
  | [d1, d2, d3, d4] => { results := [.lit (.bool true)], args := [d1, d2, d3, d4] }
  | _ => none }
def diskTornAppendRow : OpenClaim := { program := "ytlaodmpdngdhjaa", sum := "2f24e662b576fc46e5e47c0673eac4d8e68774343f2d7fcd461c0e43eecd9b88", func := "certpath/certpathlaw21.DiskTornAppend", spec := "diskTornAppend", inPlace := ["maps.clone"], unfollowed := true, recurses := true, apart := false }
def DiskTornAppendSaid : Prop := diskTornAppendRow.holds Try.pinned (OpenSpec.ofChange diskTornAppendSpec)

/-- ITS FALSE NEIGHBOUR: 'it returns false'. Refute it at one input. -/
def diskTornAppendWrong : ChangeSpec := { name := "diskTornAppend", fn := fun _ => fun
  | [d1, d2, d3, d4] => { results := [.lit (.bool false)], args := [d1, d2, d3, d4] }
  | _ => none }
def DiskTornAppendWrongFalsely : Prop := diskTornAppendRow.holds Try.pinned (OpenSpec.ofChange diskTornAppendWrong)

/-- 'certpathlaw21.DiskFollows': WHATEVER THE INPUT: true; the input reads as it did. -/
def diskFollowsSpec : ChangeSpec := { name := "diskFollows", fn := fun _ => fun
  | [d1, d2] => { results := [.lit (.bool true)], args := [d1, d2] }
  | _ => none }
def diskFollowsRow : OpenClaim := { program := "ytlaodmpdngdhjaa", sum := "2f24e662b576fc46e5e47c0673eac4d8e68774343f2d7fcd461c0e43eecd9b88", func := "certpath/certpathlaw21.DiskFollows", spec := "diskFollows", inPlace := ["maps.clone"], unfollowed := true, recurses := true, apart := false }
def DiskFollowsSaid : Prop := diskFollowsRow.holds Try.pinned (OpenSpec.ofChange diskFollowsSpec)

/-- ITS FALSE NEIGHBOUR: 'it returns false'. Refute it at one input. -/
def diskFollowsWrong : ChangeSpec := { name := "diskFollows", fn := fun _ => fun
  | [d1, d2] => { results := [.lit (.bool false)], args := [d1, d2] }
  | _ => none }
def DiskFollowsWrongFalsely : Prop := diskFollowsRow.holds Try.pinned (OpenSpec.ofChange diskFollowsWrong)

/-- 'certpathlaw21.DiskSmall': WHATEVER THE INPUT: true; the input reads as it did. -/
def diskSmallSpec : ChangeSpec := { name := "diskSmall", fn := fun _ => fun
  | [d1, d2] => { results := [.lit (.bool true)], args := [d1, d2] }
  | _ => none }
def diskSmallRow : OpenClaim := { program := "ytlaodmpdngdhjaa", sum := "2f24e662b576fc46e5e47c0673eac4d8e68774343f2d7fcd461c0e43eecd9b88", func := "certpath/certpathlaw21.DiskSmall", spec := "diskSmall", inPlace := ["maps.clone"], unfollowed := true, recurses := true, apart := false }
def DiskSmallSaid : Prop := diskSmallRow.holds Try.pinned (OpenSpec.ofChange diskSmallSpec)

/-- ITS FALSE NEIGHBOUR: 'it returns false'. Refute it at one input. -/
def diskSmallWrong : ChangeSpec := { name := "diskSmall", fn := fun _ => fun
  | [d1, d2] => { results := [.lit (.bool false)], args := [d1, d2] }
  | _ => none }
def DiskSmallWrongFalsely : Prop := diskSmallRow.holds Try.pinned (OpenSpec.ofChange diskSmallWrong)

/-- 'certpathlaw21.DiskSyncKeeps': WHATEVER THE INPUT: true; the input reads as it did. -/
def diskSyncKeepsSpec : ChangeSpec := { name := "diskSyncKeeps", fn := fun _ => fun
  | [d1, d2] => { results := [.lit (.bool true)], args := [d1, d2] }
  | _ => none }
def diskSyncKeepsRow : OpenClaim := { program := "ytlaodmpdngdhjaa", sum := "2f24e662b576fc46e5e47c0673eac4d8e68774343f2d7fcd461c0e43eecd9b88", func := "certpath/certpathlaw21.DiskSyncKeeps", spec := "diskSyncKeeps", inPlace := ["maps.clone"], unfollowed := true, recurses := true, apart := false }
def DiskSyncKeepsSaid : Prop := diskSyncKeepsRow.holds Try.pinned (OpenSpec.ofChange diskSyncKeepsSpec)

/-- ITS FALSE NEIGHBOUR: 'it returns false'. Refute it at one input. -/
def diskSyncKeepsWrong : ChangeSpec := { name := "diskSyncKeeps", fn := fun _ => fun
  | [d1, d2] => { results := [.lit (.bool false)], args := [d1, d2] }
  | _ => none }
def DiskSyncKeepsWrongFalsely : Prop := diskSyncKeepsRow.holds Try.pinned (OpenSpec.ofChange diskSyncKeepsWrong)

/-- 'certpathlaw21.DiskFuse': WHATEVER THE INPUT: true; the input reads as it did. -/
def diskFuseSpec : ChangeSpec := { name := "diskFuse", fn := fun _ => fun
  | [d1, d2] => { results := [.lit (.bool true)], args := [d1, d2] }
  | _ => none }
def diskFuseRow : OpenClaim := { program := "ytlaodmpdngdhjaa", sum := "2f24e662b576fc46e5e47c0673eac4d8e68774343f2d7fcd461c0e43eecd9b88", func := "certpath/certpathlaw21.DiskFuse", spec := "diskFuse", inPlace := ["maps.clone"], unfollowed := true, recurses := true, apart := false }
def DiskFuseSaid : Prop := diskFuseRow.holds Try.pinned (OpenSpec.ofChange diskFuseSpec)

/-- ITS FALSE NEIGHBOUR: 'it returns false'. Refute it at one input. -/
def diskFuseWrong : ChangeSpec := { name := "diskFuse", fn := fun _ => fun
  | [d1, d2] => { results := [.lit (.bool false)], args := [d1, d2] }
  | _ => none }
def DiskFuseWrongFalsely : Prop := diskFuseRow.holds Try.pinned (OpenSpec.ofChange diskFuseWrong)

/-- 'certpathlaw21.DiskCrashPrefix': WHATEVER THE INPUT: true; the input reads as it did. -/
def diskCrashPrefixSpec : ChangeSpec := { name := "diskCrashPrefix", fn := fun _ => fun
  | [d1, d2] => { results := [.lit (.bool true)], args := [d1, d2] }
  | _ => none }
def diskCrashPrefixRow : OpenClaim := { program := "ytlaodmpdngdhjaa", sum := "2f24e662b576fc46e5e47c0673eac4d8e68774343f2d7fcd461c0e43eecd9b88", func := "certpath/certpathlaw21.DiskCrashPrefix", spec := "diskCrashPrefix", inPlace := ["maps.clone"], unfollowed := true, recurses := true, apart := false }
def DiskCrashPrefixSaid : Prop := diskCrashPrefixRow.holds Try.pinned (OpenSpec.ofChange diskCrashPrefixSpec)

/-- ITS FALSE NEIGHBOUR: 'it returns false'. Refute it at one input. -/
def diskCrashPrefixWrong : ChangeSpec := { name := "diskCrashPrefix", fn := fun _ => fun
  | [d1, d2] => { results := [.lit (.bool false)], args := [d1, d2] }
  | _ => none }
def DiskCrashPrefixWrongFalsely : Prop := diskCrashPrefixRow.holds Try.pinned (OpenSpec.ofChange diskCrashPrefixWrong)

/-- 'certpathlaw21.DiskCopies': WHATEVER THE INPUT: true; the input reads as it did. -/
def diskCopiesSpec : ChangeSpec := { name := "diskCopies", fn := fun _ => fun
  | [d1, d2] => { results := [.lit (.bool true)], args := [d1, d2] }
  | _ => none }
def diskCopiesRow : OpenClaim := { program := "ytlaodmpdngdhjaa", sum := "2f24e662b576fc46e5e47c0673eac4d8e68774343f2d7fcd461c0e43eecd9b88", func := "certpath/certpathlaw21.DiskCopies", spec := "diskCopies", inPlace := ["maps.clone"], unfollowed := true, recurses := true, apart := false }
def DiskCopiesSaid : Prop := diskCopiesRow.holds Try.pinned (OpenSpec.ofChange diskCopiesSpec)

/-- ITS FALSE NEIGHBOUR: 'it returns false'. Refute it at one input. -/
def diskCopiesWrong : ChangeSpec := { name := "diskCopies", fn := fun _ => fun
  | [d1, d2] => { results := [.lit (.bool false)], args := [d1, d2] }
  | _ => none }
def DiskCopiesWrongFalsely : Prop := diskCopiesRow.holds Try.pinned (OpenSpec.ofChange diskCopiesWrong)

/-- 'certpathlaw21.DiskNone': WHATEVER THE INPUT: true; the input reads as it did. -/
def diskNoneSpec : ChangeSpec := { name := "diskNone", fn := fun _ => fun
  | [d1, d2, d3, d4] => { results := [.lit (.bool true)], args := [d1, d2, d3, d4] }
  | _ => none }
def diskNoneRow : OpenClaim := { program := "ytlaodmpdngdhjaa", sum := "2f24e662b576fc46e5e47c0673eac4d8e68774343f2d7fcd461c0e43eecd9b88", func := "certpath/certpathlaw21.DiskNone", spec := "diskNone", inPlace := ["maps.clone"], unfollowed := true, recurses := true, apart := false }
def DiskNoneSaid : Prop := diskNoneRow.holds Try.pinned (OpenSpec.ofChange diskNoneSpec)

/-- ITS FALSE NEIGHBOUR: 'it returns false'. Refute it at one input. -/
def diskNoneWrong : ChangeSpec := { name := "diskNone", fn := fun _ => fun
  | [d1, d2, d3, d4] => { results := [.lit (.bool false)], args := [d1, d2, d3, d4] }
  | _ => none }
def DiskNoneWrongFalsely : Prop := diskNoneRow.holds Try.pinned (OpenSpec.ofChange diskNoneWrong)

/-- 'certpathlaw22.WalScansBytes': WHATEVER THE INPUT: true; the input reads as it did. -/
def walScansBytesSpec : ChangeSpec := { name := "walScansBytes", fn := fun _ => fun
  | [d] => { results := [.lit (.bool true)], args := [d] }
  | _ => none }
def walScansBytesRow : OpenClaim := { program := "ytlaodmpdngdhjaa", sum := "2f24e662b576fc46e5e47c0673eac4d8e68774343f2d7fcd461c0e43eecd9b88", func := "certpath/certpathlaw22.WalScansBytes", spec := "walScansBytes", inPlace := ["maps.clone"], unfollowed := true, recurses := true, apart := false }
def WalScansBytesSaid : Prop := walScansBytesRow.holds Try.pinned (OpenSpec.ofChange walScansBytesSpec)

/-- ITS FALSE NEIGHBOUR: 'it returns false'. Refute it at one input. -/
def walScansBytesWrong : ChangeSpec := { name := "walScansBytes", fn := fun _ => fun
  | [d] => { results := [.lit (.bool false)], args := [d] }
  | _ => none }
def WalScansBytesWrongFalsely : Prop := walScansBytesRow.holds Try.pinned (OpenSpec.ofChange walScansBytesWrong)

/-- 'certpathlaw22.WalScansLogs': WHATEVER THE INPUT: true; the input reads as it did. -/
def walScansLogsSpec : ChangeSpec := { name := "walScansLogs", fn := fun _ => fun
  | [d1, d2, d3, d4, d5] => { results := [.lit (.bool true)], args := [d1, d2, d3, d4, d5] }
  | _ => none }
def walScansLogsRow : OpenClaim := { program := "ytlaodmpdngdhjaa", sum := "2f24e662b576fc46e5e47c0673eac4d8e68774343f2d7fcd461c0e43eecd9b88", func := "certpath/certpathlaw22.WalScansLogs", spec := "walScansLogs", inPlace := ["maps.clone"], unfollowed := true, recurses := true, apart := false }
def WalScansLogsSaid : Prop := walScansLogsRow.holds Try.pinned (OpenSpec.ofChange walScansLogsSpec)

/-- ITS FALSE NEIGHBOUR: 'it returns false'. Refute it at one input. -/
def walScansLogsWrong : ChangeSpec := { name := "walScansLogs", fn := fun _ => fun
  | [d1, d2, d3, d4, d5] => { results := [.lit (.bool false)], args := [d1, d2, d3, d4, d5] }
  | _ => none }
def WalScansLogsWrongFalsely : Prop := walScansLogsRow.holds Try.pinned (OpenSpec.ofChange walScansLogsWrong)

/-- 'certpathlaw22.WalFrames': WHATEVER THE INPUT: true; the input reads as it did. -/
def walFramesSpec : ChangeSpec := { name := "walFrames", fn := fun _ => fun
  | [d1, d2, d3] => { results := [.lit (.bool true)], args := [d1, d2, d3] }
  | _ => none }
def walFramesRow : OpenClaim := { program := "ytlaodmpdngdhjaa", sum := "2f24e662b576fc46e5e47c0673eac4d8e68774343f2d7fcd461c0e43eecd9b88", func := "certpath/certpathlaw22.WalFrames", spec := "walFrames", inPlace := ["maps.clone"], unfollowed := true, recurses := true, apart := false }
def WalFramesSaid : Prop := walFramesRow.holds Try.pinned (OpenSpec.ofChange walFramesSpec)

/-- ITS FALSE NEIGHBOUR: 'it returns false'. Refute it at one input. -/
def walFramesWrong : ChangeSpec := { name := "walFrames", fn := fun _ => fun
  | [d1, d2, d3] => { results := [.lit (.bool false)], args := [d1, d2, d3] }
  | _ => none }
def WalFramesWrongFalsely : Prop := walFramesRow.holds Try.pinned (OpenSpec.ofChange walFramesWrong)

/-- 'certpathlaw22.WalScanReturnsRecords': WHATEVER THE INPUT: true; the input reads as it did. -/
def walScanReturnsRecordsSpec : ChangeSpec := { name := "walScanReturnsRecords", fn := fun _ => fun
  | [d1, d2] => { results := [.lit (.bool true)], args := [d1, d2] }
  | _ => none }
def walScanReturnsRecordsRow : OpenClaim := { program := "ytlaodmpdngdhjaa", sum := "2f24e662b576fc46e5e47c0673eac4d8e68774343f2d7fcd461c0e43eecd9b88", func := "certpath/certpathlaw22.WalScanReturnsRecords", spec := "walScanReturnsRecords", inPlace := ["maps.clone"], unfollowed := true, recurses := true, apart := false }
def WalScanReturnsRecordsSaid : Prop := walScanReturnsRecordsRow.holds Try.pinned (OpenSpec.ofChange walScanReturnsRecordsSpec)

/-- ITS FALSE NEIGHBOUR: 'it returns false'. Refute it at one input. -/
def walScanReturnsRecordsWrong : ChangeSpec := { name := "walScanReturnsRecords", fn := fun _ => fun
  | [d1, d2] => { results := [.lit (.bool false)], args := [d1, d2] }
  | _ => none }
def WalScanReturnsRecordsWrongFalsely : Prop := walScanReturnsRecordsRow.holds Try.pinned (OpenSpec.ofChange walScanReturnsRecordsWrong)

/-- 'certpathlaw22.WalNone': WHATEVER THE INPUT: true; the input reads as it did. -/
def walNoneSpec : ChangeSpec := { name := "walNone", fn := fun _ => fun
  | [d] => { results := [.lit (.bool true)], args := [d] }
  | _ => none }
def walNoneRow : OpenClaim := { program := "ytlaodmpdngdhjaa", sum := "2f24e662b576fc46e5e47c0673eac4d8e68774343f2d7fcd461c0e43eecd9b88", func := "certpath/certpathlaw22.WalNone", spec := "walNone", inPlace := ["maps.clone"], unfollowed := true, recurses := true, apart := false }
def WalNoneSaid : Prop := walNoneRow.holds Try.pinned (OpenSpec.ofChange walNoneSpec)

/-- ITS FALSE NEIGHBOUR: 'it returns false'. Refute it at one input. -/
def walNoneWrong : ChangeSpec := { name := "walNone", fn := fun _ => fun
  | [d] => { results := [.lit (.bool false)], args := [d] }
  | _ => none }
def WalNoneWrongFalsely : Prop := walNoneRow.holds Try.pinned (OpenSpec.ofChange walNoneWrong)

/-- 'certpathlaw22.WalRecovers': WHATEVER THE INPUT: true; the input reads as it did. -/
def walRecoversSpec : ChangeSpec := { name := "walRecovers", fn := fun _ => fun
  | [d1, d2, d3, d4] => { results := [.lit (.bool true)], args := [d1, d2, d3, d4] }
  | _ => none }
def walRecoversRow : OpenClaim := { program := "ytlaodmpdngdhjaa", sum := "2f24e662b576fc46e5e47c0673eac4d8e68774343f2d7fcd461c0e43eecd9b88", func := "certpath/certpathlaw22.WalRecovers", spec := "walRecovers", inPlace := ["maps.clone"], unfollowed := true, recurses := true, apart := false }
def WalRecoversSaid : Prop := walRecoversRow.holds Try.pinned (OpenSpec.ofChange walRecoversSpec)

/-- ITS FALSE NEIGHBOUR: 'it returns false'. Refute it at one input. -/
def walRecoversWrong : ChangeSpec := { name := "walRecovers", fn := fun _ => fun
  | [d1, d2, d3, d4] => { results := [.lit (.bool false)], args := [d1, d2, d3, d4] }
  | _ => none }
def WalRecoversWrongFalsely : Prop := walRecoversRow.holds Try.pinned (OpenSpec.ofChange walRecoversWrong)

/-- 'certpathlaw22.WalOpensFiles': WHATEVER THE INPUT: true; the input reads as it did. -/
def walOpensFilesSpec : ChangeSpec := { name := "walOpensFiles", fn := fun _ => fun
  | [d1, d2, d3, d4, d5, d6, d7] => { results := [.lit (.bool true)], args := [d1, d2, d3, d4, d5, d6, d7] }
  | _ => none }
def walOpensFilesRow : OpenClaim := { program := "ytlaodmpdngdhjaa", sum := "2f24e662b576fc46e5e47c0673eac4d8e68774343f2d7fcd461c0e43eecd9b88", func := "certpath/certpathlaw22.WalOpensFiles", spec := "walOpensFiles", inPlace := ["maps.clone"], unfollowed := true, recurses := true, apart := false }
def WalOpensFilesSaid : Prop := walOpensFilesRow.holds Try.pinned (OpenSpec.ofChange walOpensFilesSpec)

/-- ITS FALSE NEIGHBOUR: 'it returns false'. Refute it at one input. -/
def walOpensFilesWrong : ChangeSpec := { name := "walOpensFiles", fn := fun _ => fun
  | [d1, d2, d3, d4, d5, d6, d7] => { results := [.lit (.bool false)], args := [d1, d2, d3, d4, d5, d6, d7] }
  | _ => none }
def WalOpensFilesWrongFalsely : Prop := walOpensFilesRow.holds Try.pinned (OpenSpec.ofChange walOpensFilesWrong)

/- THE SECOND FORM. 'bulk': how many values and letters a reading holds, each counted each time it is reached (what is shared counts as often as it is met; a slice's spare places count too). A statement '..UptoSaid' is the law's where the arguments, and the package variables that the reading takes, are together of bulk at most 1048576: NARROWER than '..Said'. Prove '..Said' where nothing that the law and all that it calls make is longer than what came in: it says more and counts as full. Else prove '..UptoSaid'. A law counts once. -/
mutual
def uptoBulk {H : Type} : DataW H → Nat
  | .lit (.string bytes) => bytes.length + 1
  | .lit _ => 1
  | .nil => 1
  | .ptr d => uptoBulk d + 1
  | .slice elems spare => uptoBulkAll elems + uptoBulkAll spare + 1
  | .agg parts => uptoBulkAll parts + 1
  | .iface _ d => uptoBulk d + 1
  | .map entries => uptoBulkEntries entries + 1
  | .held _ => 1
def uptoBulkAll {H : Type} : List (DataW H) → Nat
  | [] => 0
  | d :: r => uptoBulk d + uptoBulkAll r
def uptoBulkEntries {H : Type} : List (Lit × DataW H) → Nat
  | [] => 0
  | x :: r => uptoBulkEntry x + uptoBulkEntries r
def uptoBulkEntry {H : Type} : Lit × DataW H → Nat
  | (.string bytes, d) => bytes.length + uptoBulk d + 1
  | (_, d) => uptoBulk d + 1
 end
def uptoSmall : (H : Type) → List (DataW H) → Bool := fun _ ds => decide (uptoBulkAll ds ≤ 1048576)
def OpenSpec.upto (s : _root_.Go.ChangeSpec) : _root_.Go.OpenSpec := { _root_.Go.OpenSpec.ofChange s with cond := some uptoSmall }

/-- 'certpathlaw22.WalResetsOrNot', WHERE WHAT IT READS IS OF BULK AT MOST 1048576: true; the input reads as it did. -/
def walResetsOrNotUptoRow : OpenClaim := { program := "ytlaodmpdngdhjaa", sum := "2f24e662b576fc46e5e47c0673eac4d8e68774343f2d7fcd461c0e43eecd9b88", func := "certpath/certpathlaw22.WalResetsOrNot", spec := "walResetsOrNot", inPlace := ["maps.clone"], unfollowed := true, recurses := true, apart := false, narrowed := true }
def WalResetsOrNotUptoSaid : Prop := walResetsOrNotUptoRow.holds Try.pinned (OpenSpec.upto walResetsOrNotSpec)

/-- 'certpathlaw21.DiskTornAppend', WHERE WHAT IT READS IS OF BULK AT MOST 1048576: true; the input reads as it did. -/
def diskTornAppendUptoRow : OpenClaim := { program := "ytlaodmpdngdhjaa", sum := "2f24e662b576fc46e5e47c0673eac4d8e68774343f2d7fcd461c0e43eecd9b88", func := "certpath/certpathlaw21.DiskTornAppend", spec := "diskTornAppend", inPlace := ["maps.clone"], unfollowed := true, recurses := true, apart := false, narrowed := true }
def DiskTornAppendUptoSaid : Prop := diskTornAppendUptoRow.holds Try.pinned (OpenSpec.upto diskTornAppendSpec)

/-- 'certpathlaw21.DiskFollows', WHERE WHAT IT READS IS OF BULK AT MOST 1048576: true; the input reads as it did. -/
def diskFollowsUptoRow : OpenClaim := { program := "ytlaodmpdngdhjaa", sum := "2f24e662b576fc46e5e47c0673eac4d8e68774343f2d7fcd461c0e43eecd9b88", func := "certpath/certpathlaw21.DiskFollows", spec := "diskFollows", inPlace := ["maps.clone"], unfollowed := true, recurses := true, apart := false, narrowed := true }
def DiskFollowsUptoSaid : Prop := diskFollowsUptoRow.holds Try.pinned (OpenSpec.upto diskFollowsSpec)

/-- 'certpathlaw21.DiskSmall', WHERE WHAT IT READS IS OF BULK AT MOST 1048576: true; the input reads as it did. -/
def diskSmallUptoRow : OpenClaim := { program := "ytlaodmpdngdhjaa", sum := "2f24e662b576fc46e5e47c0673eac4d8e68774343f2d7fcd461c0e43eecd9b88", func := "certpath/certpathlaw21.DiskSmall", spec := "diskSmall", inPlace := ["maps.clone"], unfollowed := true, recurses := true, apart := false, narrowed := true }
def DiskSmallUptoSaid : Prop := diskSmallUptoRow.holds Try.pinned (OpenSpec.upto diskSmallSpec)

/-- 'certpathlaw21.DiskSyncKeeps', WHERE WHAT IT READS IS OF BULK AT MOST 1048576: true; the input reads as it did. -/
def diskSyncKeepsUptoRow : OpenClaim := { program := "ytlaodmpdngdhjaa", sum := "2f24e662b576fc46e5e47c0673eac4d8e68774343f2d7fcd461c0e43eecd9b88", func := "certpath/certpathlaw21.DiskSyncKeeps", spec := "diskSyncKeeps", inPlace := ["maps.clone"], unfollowed := true, recurses := true, apart := false, narrowed := true }
def DiskSyncKeepsUptoSaid : Prop := diskSyncKeepsUptoRow.holds Try.pinned (OpenSpec.upto diskSyncKeepsSpec)

/-- 'certpathlaw21.DiskFuse', WHERE WHAT IT READS IS OF BULK AT MOST 1048576: true; the input reads as it did. -/
def diskFuseUptoRow : OpenClaim := { program := "ytlaodmpdngdhjaa", sum := "2f24e662b576fc46e5e47c0673eac4d8e68774343f2d7fcd461c0e43eecd9b88", func := "certpath/certpathlaw21.DiskFuse", spec := "diskFuse", inPlace := ["maps.clone"], unfollowed := true, recurses := true, apart := false, narrowed := true }
def DiskFuseUptoSaid : Prop := diskFuseUptoRow.holds Try.pinned (OpenSpec.upto diskFuseSpec)

/-- 'certpathlaw21.DiskCrashPrefix', WHERE WHAT IT READS IS OF BULK AT MOST 1048576: true; the input reads as it did. -/
def diskCrashPrefixUptoRow : OpenClaim := { program := "ytlaodmpdngdhjaa", sum := "2f24e662b576fc46e5e47c0673eac4d8e68774343f2d7fcd461c0e43eecd9b88", func := "certpath/certpathlaw21.DiskCrashPrefix", spec := "diskCrashPrefix", inPlace := ["maps.clone"], unfollowed := true, recurses := true, apart := false, narrowed := true }
def DiskCrashPrefixUptoSaid : Prop := diskCrashPrefixUptoRow.holds Try.pinned (OpenSpec.upto diskCrashPrefixSpec)

/-- 'certpathlaw21.DiskCopies', WHERE WHAT IT READS IS OF BULK AT MOST 1048576: true; the input reads as it did. -/
def diskCopiesUptoRow : OpenClaim := { program := "ytlaodmpdngdhjaa", sum := "2f24e662b576fc46e5e47c0673eac4d8e68774343f2d7fcd461c0e43eecd9b88", func := "certpath/certpathlaw21.DiskCopies", spec := "diskCopies", inPlace := ["maps.clone"], unfollowed := true, recurses := true, apart := false, narrowed := true }
def DiskCopiesUptoSaid : Prop := diskCopiesUptoRow.holds Try.pinned (OpenSpec.upto diskCopiesSpec)

/-- 'certpathlaw21.DiskNone', WHERE WHAT IT READS IS OF BULK AT MOST 1048576: true; the input reads as it did. -/
def diskNoneUptoRow : OpenClaim := { program := "ytlaodmpdngdhjaa", sum := "2f24e662b576fc46e5e47c0673eac4d8e68774343f2d7fcd461c0e43eecd9b88", func := "certpath/certpathlaw21.DiskNone", spec := "diskNone", inPlace := ["maps.clone"], unfollowed := true, recurses := true, apart := false, narrowed := true }
def DiskNoneUptoSaid : Prop := diskNoneUptoRow.holds Try.pinned (OpenSpec.upto diskNoneSpec)

/-- 'certpathlaw22.WalScansBytes', WHERE WHAT IT READS IS OF BULK AT MOST 1048576: true; the input reads as it did. -/
def walScansBytesUptoRow : OpenClaim := { program := "ytlaodmpdngdhjaa", sum := "2f24e662b576fc46e5e47c0673eac4d8e68774343f2d7fcd461c0e43eecd9b88", func := "certpath/certpathlaw22.WalScansBytes", spec := "walScansBytes", inPlace := ["maps.clone"], unfollowed := true, recurses := true, apart := false, narrowed := true }
def WalScansBytesUptoSaid : Prop := walScansBytesUptoRow.holds Try.pinned (OpenSpec.upto walScansBytesSpec)

/-- 'certpathlaw22.WalScansLogs', WHERE WHAT IT READS IS OF BULK AT MOST 1048576: true; the input reads as it did. -/
def walScansLogsUptoRow : OpenClaim := { program := "ytlaodmpdngdhjaa", sum := "2f24e662b576fc46e5e47c0673eac4d8e68774343f2d7fcd461c0e43eecd9b88", func := "certpath/certpathlaw22.WalScansLogs", spec := "walScansLogs", inPlace := ["maps.clone"], unfollowed := true, recurses := true, apart := false, narrowed := true }
def WalScansLogsUptoSaid : Prop := walScansLogsUptoRow.holds Try.pinned (OpenSpec.upto walScansLogsSpec)

/-- 'certpathlaw22.WalFrames', WHERE WHAT IT READS IS OF BULK AT MOST 1048576: true; the input reads as it did. -/
def walFramesUptoRow : OpenClaim := { program := "ytlaodmpdngdhjaa", sum := "2f24e662b576fc46e5e47c0673eac4d8e68774343f2d7fcd461c0e43eecd9b88", func := "certpath/certpathlaw22.WalFrames", spec := "walFrames", inPlace := ["maps.clone"], unfollowed := true, recurses := true, apart := false, narrowed := true }
def WalFramesUptoSaid : Prop := walFramesUptoRow.holds Try.pinned (OpenSpec.upto walFramesSpec)

/-- 'certpathlaw22.WalScanReturnsRecords', WHERE WHAT IT READS IS OF BULK AT MOST 1048576: true; the input reads as it did. -/
def walScanReturnsRecordsUptoRow : OpenClaim := { program := "ytlaodmpdngdhjaa", sum := "2f24e662b576fc46e5e47c0673eac4d8e68774343f2d7fcd461c0e43eecd9b88", func := "certpath/certpathlaw22.WalScanReturnsRecords", spec := "walScanReturnsRecords", inPlace := ["maps.clone"], unfollowed := true, recurses := true, apart := false, narrowed := true }
def WalScanReturnsRecordsUptoSaid : Prop := walScanReturnsRecordsUptoRow.holds Try.pinned (OpenSpec.upto walScanReturnsRecordsSpec)

/-- 'certpathlaw22.WalNone', WHERE WHAT IT READS IS OF BULK AT MOST 1048576: true; the input reads as it did. -/
def walNoneUptoRow : OpenClaim := { program := "ytlaodmpdngdhjaa", sum := "2f24e662b576fc46e5e47c0673eac4d8e68774343f2d7fcd461c0e43eecd9b88", func := "certpath/certpathlaw22.WalNone", spec := "walNone", inPlace := ["maps.clone"], unfollowed := true, recurses := true, apart := false, narrowed := true }
def WalNoneUptoSaid : Prop := walNoneUptoRow.holds Try.pinned (OpenSpec.upto walNoneSpec)

/-- 'certpathlaw22.WalRecovers', WHERE WHAT IT READS IS OF BULK AT MOST 1048576: true; the input reads as it did. -/
def walRecoversUptoRow : OpenClaim := { program := "ytlaodmpdngdhjaa", sum := "2f24e662b576fc46e5e47c0673eac4d8e68774343f2d7fcd461c0e43eecd9b88", func := "certpath/certpathlaw22.WalRecovers", spec := "walRecovers", inPlace := ["maps.clone"], unfollowed := true, recurses := true, apart := false, narrowed := true }
def WalRecoversUptoSaid : Prop := walRecoversUptoRow.holds Try.pinned (OpenSpec.upto walRecoversSpec)

/-- 'certpathlaw22.WalOpensFiles', WHERE WHAT IT READS IS OF BULK AT MOST 1048576: true; the input reads as it did. -/
def walOpensFilesUptoRow : OpenClaim := { program := "ytlaodmpdngdhjaa", sum := "2f24e662b576fc46e5e47c0673eac4d8e68774343f2d7fcd461c0e43eecd9b88", func := "certpath/certpathlaw22.WalOpensFiles", spec := "walOpensFiles", inPlace := ["maps.clone"], unfollowed := true, recurses := true, apart := false, narrowed := true }
def WalOpensFilesUptoSaid : Prop := walOpensFilesUptoRow.holds Try.pinned (OpenSpec.upto walOpensFilesSpec)

end Rows
end Go.Proofs.Ytlaodmpdngdhjaa
