/-
  No cell of these rows narrows 'for every input' (looked for: loops, veiled, ifaces, maps, wideKeys, modest, calm, conditions, laid).
  DERIVED. THE GIVEN ROWS OF THIS SEAT. 20 by the template 'for every input the law returns true; each argument reads behind the call as it read before'; 0 by the template 'total and deterministic' (their statements: YtljlcigbehgohaaTotals.lean).
  GIVEN WITH THE SEED: the statements are not yours to turn. If you find one false, say at which input.
  Laid BY PROGRAM, IN A SANDBOX (cutbox-rows.mjs): the forced cells as the released guide's own fill.sh prints them over the translation a3385f99aa17fd3a… (all of the seat's roots in one cut). By AI agents, Wed Nov 11 2026. No macro, syntax, notation, axiom, sorry.
-/
import Derived.Test.YtljlcigbehgohaaChecked
import GoSem.Claim
import GoSem.ClaimJoined
import GoSem.ClaimMapViews
import Derived.JoinedTies
import Derived.KernelRfl
namespace Go.Proofs.Ytljlcigbehgohaa
/- THE CELL 'sum', in the pinned program and in every row, IS THE sha256 OF THE DUMP (.gsa) THAT YtljlcigbehgohaaProg.lean LOADS. Nothing in Lean hashes anything: it is a label: what it is worth is what the hold of that sum in a sandbox is worth. -/
noncomputable def Try.pinned : Pinned := { name := "ytljlcigbehgohaa", sum := "a3385f99aa17fd3abcc62b9d2ce0428d0dd270f0ca1d3bb9a9178c5e88181b5f", checked := Try.checked }
namespace Rows
def none {H : Type} : Left H := { results := [], args := [] }

/-- 'paxtarlaw04.SourceIsolated': WHATEVER THE INPUT: true; the input reads as it did. -/
def sourceIsolatedSpec : ChangeSpec := { name := "sourceIsolated", fn := fun _ => fun
  | [d1, d2] => { results := [.lit (.bool true)], args := [d1, d2] }
  | _ => none }
def sourceIsolatedRow : OpenClaim := { program := "ytljlcigbehgohaa", sum := "a3385f99aa17fd3abcc62b9d2ce0428d0dd270f0ca1d3bb9a9178c5e88181b5f", func := "paxtar/paxtarlaw04.SourceIsolated", spec := "sourceIsolated", unfollowed := true, recurses := true, apart := false }
def SourceIsolatedSaid : Prop := sourceIsolatedRow.holds Try.pinned (OpenSpec.ofChange sourceIsolatedSpec)

/-- ITS FALSE NEIGHBOUR: 'it returns false'. Refute it at one input. -/
def sourceIsolatedWrong : ChangeSpec := { name := "sourceIsolated", fn := fun _ => fun
  | [d1, d2] => { results := [.lit (.bool false)], args := [d1, d2] }
  | _ => none }
def SourceIsolatedWrongFalsely : Prop := sourceIsolatedRow.holds Try.pinned (OpenSpec.ofChange sourceIsolatedWrong)

/-- 'paxtarlaw04.SourceDeliversPrefix': WHATEVER THE INPUT: true; the input reads as it did. -/
def sourceDeliversPrefixSpec : ChangeSpec := { name := "sourceDeliversPrefix", fn := fun _ => fun
  | [d1, d2, d3] => { results := [.lit (.bool true)], args := [d1, d2, d3] }
  | _ => none }
def sourceDeliversPrefixRow : OpenClaim := { program := "ytljlcigbehgohaa", sum := "a3385f99aa17fd3abcc62b9d2ce0428d0dd270f0ca1d3bb9a9178c5e88181b5f", func := "paxtar/paxtarlaw04.SourceDeliversPrefix", spec := "sourceDeliversPrefix", unfollowed := true, recurses := true, apart := false }
def SourceDeliversPrefixSaid : Prop := sourceDeliversPrefixRow.holds Try.pinned (OpenSpec.ofChange sourceDeliversPrefixSpec)

/-- ITS FALSE NEIGHBOUR: 'it returns false'. Refute it at one input. -/
def sourceDeliversPrefixWrong : ChangeSpec := { name := "sourceDeliversPrefix", fn := fun _ => fun
  | [d1, d2, d3] => { results := [.lit (.bool false)], args := [d1, d2, d3] }
  | _ => none }
def SourceDeliversPrefixWrongFalsely : Prop := sourceDeliversPrefixRow.holds Try.pinned (OpenSpec.ofChange sourceDeliversPrefixWrong)

/-- 'paxtarlaw04.SourceChunkSizes': WHATEVER THE INPUT: true; the input reads as it did. -/
def sourceChunkSizesSpec : ChangeSpec := { name := "sourceChunkSizes", fn := fun _ => fun
  | [d1, d2] => { results := [.lit (.bool true)], args := [d1, d2] }
  | _ => none }
def sourceChunkSizesRow : OpenClaim := { program := "ytljlcigbehgohaa", sum := "a3385f99aa17fd3abcc62b9d2ce0428d0dd270f0ca1d3bb9a9178c5e88181b5f", func := "paxtar/paxtarlaw04.SourceChunkSizes", spec := "sourceChunkSizes", unfollowed := true, recurses := true, apart := false }
def SourceChunkSizesSaid : Prop := sourceChunkSizesRow.holds Try.pinned (OpenSpec.ofChange sourceChunkSizesSpec)

/-- ITS FALSE NEIGHBOUR: 'it returns false'. Refute it at one input. -/
def sourceChunkSizesWrong : ChangeSpec := { name := "sourceChunkSizes", fn := fun _ => fun
  | [d1, d2] => { results := [.lit (.bool false)], args := [d1, d2] }
  | _ => none }
def SourceChunkSizesWrongFalsely : Prop := sourceChunkSizesRow.holds Try.pinned (OpenSpec.ofChange sourceChunkSizesWrong)

/-- 'paxtarlaw04.SourceMatchesReference': WHATEVER THE INPUT: true; the input reads as it did. -/
def sourceMatchesReferenceSpec : ChangeSpec := { name := "sourceMatchesReference", fn := fun _ => fun
  | [d1, d2, d3] => { results := [.lit (.bool true)], args := [d1, d2, d3] }
  | _ => none }
def sourceMatchesReferenceRow : OpenClaim := { program := "ytljlcigbehgohaa", sum := "a3385f99aa17fd3abcc62b9d2ce0428d0dd270f0ca1d3bb9a9178c5e88181b5f", func := "paxtar/paxtarlaw04.SourceMatchesReference", spec := "sourceMatchesReference", unfollowed := true, recurses := true, apart := false }
def SourceMatchesReferenceSaid : Prop := sourceMatchesReferenceRow.holds Try.pinned (OpenSpec.ofChange sourceMatchesReferenceSpec)

/-- ITS FALSE NEIGHBOUR: 'it returns false'. Refute it at one input. -/
def sourceMatchesReferenceWrong : ChangeSpec := { name := "sourceMatchesReference", fn := fun _ => fun
  | [d1, d2, d3] => { results := [.lit (.bool false)], args := [d1, d2, d3] }
  | _ => none }
def SourceMatchesReferenceWrongFalsely : Prop := sourceMatchesReferenceRow.holds Try.pinned (OpenSpec.ofChange sourceMatchesReferenceWrong)

/-- 'paxtarlaw05.SinkMatchesReference': WHATEVER THE INPUT: true; the input reads as it did. -/
def sinkMatchesReferenceSpec : ChangeSpec := { name := "sinkMatchesReference", fn := fun _ => fun
  | [d1, d2, d3] => { results := [.lit (.bool true)], args := [d1, d2, d3] }
  | _ => none }
def sinkMatchesReferenceRow : OpenClaim := { program := "ytljlcigbehgohaa", sum := "a3385f99aa17fd3abcc62b9d2ce0428d0dd270f0ca1d3bb9a9178c5e88181b5f", func := "paxtar/paxtarlaw05.SinkMatchesReference", spec := "sinkMatchesReference", apart := false }
def SinkMatchesReferenceSaid : Prop := sinkMatchesReferenceRow.holds Try.pinned (OpenSpec.ofChange sinkMatchesReferenceSpec)

/-- ITS FALSE NEIGHBOUR: 'it returns false'. Refute it at one input. -/
def sinkMatchesReferenceWrong : ChangeSpec := { name := "sinkMatchesReference", fn := fun _ => fun
  | [d1, d2, d3] => { results := [.lit (.bool false)], args := [d1, d2, d3] }
  | _ => none }
def SinkMatchesReferenceWrongFalsely : Prop := sinkMatchesReferenceRow.holds Try.pinned (OpenSpec.ofChange sinkMatchesReferenceWrong)

/-- 'paxtarlaw05.SinkKeepsPrefix': WHATEVER THE INPUT: true; the input reads as it did. -/
def sinkKeepsPrefixSpec : ChangeSpec := { name := "sinkKeepsPrefix", fn := fun _ => fun
  | [d1, d2] => { results := [.lit (.bool true)], args := [d1, d2] }
  | _ => none }
def sinkKeepsPrefixRow : OpenClaim := { program := "ytljlcigbehgohaa", sum := "a3385f99aa17fd3abcc62b9d2ce0428d0dd270f0ca1d3bb9a9178c5e88181b5f", func := "paxtar/paxtarlaw05.SinkKeepsPrefix", spec := "sinkKeepsPrefix", apart := false }
def SinkKeepsPrefixSaid : Prop := sinkKeepsPrefixRow.holds Try.pinned (OpenSpec.ofChange sinkKeepsPrefixSpec)

/-- ITS FALSE NEIGHBOUR: 'it returns false'. Refute it at one input. -/
def sinkKeepsPrefixWrong : ChangeSpec := { name := "sinkKeepsPrefix", fn := fun _ => fun
  | [d1, d2] => { results := [.lit (.bool false)], args := [d1, d2] }
  | _ => none }
def SinkKeepsPrefixWrongFalsely : Prop := sinkKeepsPrefixRow.holds Try.pinned (OpenSpec.ofChange sinkKeepsPrefixWrong)

/-- 'paxtarlaw05.SinkIsolated': WHATEVER THE INPUT: true; the input reads as it did. -/
def sinkIsolatedSpec : ChangeSpec := { name := "sinkIsolated", fn := fun _ => fun
  | [d1, d2] => { results := [.lit (.bool true)], args := [d1, d2] }
  | _ => none }
def sinkIsolatedRow : OpenClaim := { program := "ytljlcigbehgohaa", sum := "a3385f99aa17fd3abcc62b9d2ce0428d0dd270f0ca1d3bb9a9178c5e88181b5f", func := "paxtar/paxtarlaw05.SinkIsolated", spec := "sinkIsolated", apart := false }
def SinkIsolatedSaid : Prop := sinkIsolatedRow.holds Try.pinned (OpenSpec.ofChange sinkIsolatedSpec)

/-- ITS FALSE NEIGHBOUR: 'it returns false'. Refute it at one input. -/
def sinkIsolatedWrong : ChangeSpec := { name := "sinkIsolated", fn := fun _ => fun
  | [d1, d2] => { results := [.lit (.bool false)], args := [d1, d2] }
  | _ => none }
def SinkIsolatedWrongFalsely : Prop := sinkIsolatedRow.holds Try.pinned (OpenSpec.ofChange sinkIsolatedWrong)

/-- 'paxtarlaw05.SinkWriteAllSplits': WHATEVER THE INPUT: true; the input reads as it did. -/
def sinkWriteAllSplitsSpec : ChangeSpec := { name := "sinkWriteAllSplits", fn := fun _ => fun
  | [d1, d2] => { results := [.lit (.bool true)], args := [d1, d2] }
  | _ => none }
def sinkWriteAllSplitsRow : OpenClaim := { program := "ytljlcigbehgohaa", sum := "a3385f99aa17fd3abcc62b9d2ce0428d0dd270f0ca1d3bb9a9178c5e88181b5f", func := "paxtar/paxtarlaw05.SinkWriteAllSplits", spec := "sinkWriteAllSplits", apart := false }
def SinkWriteAllSplitsSaid : Prop := sinkWriteAllSplitsRow.holds Try.pinned (OpenSpec.ofChange sinkWriteAllSplitsSpec)

/-- ITS FALSE NEIGHBOUR: 'it returns false'. Refute it at one input. -/
def sinkWriteAllSplitsWrong : ChangeSpec := { name := "sinkWriteAllSplits", fn := fun _ => fun
  | [d1, d2] => { results := [.lit (.bool false)], args := [d1, d2] }
  | _ => none }
def SinkWriteAllSplitsWrongFalsely : Prop := sinkWriteAllSplitsRow.holds Try.pinned (OpenSpec.ofChange sinkWriteAllSplitsWrong)

/-- 'paxtarlaw05.SinkChunkSizes': WHATEVER THE INPUT: true; the input reads as it did. -/
def sinkChunkSizesSpec : ChangeSpec := { name := "sinkChunkSizes", fn := fun _ => fun
  | [d1, d2] => { results := [.lit (.bool true)], args := [d1, d2] }
  | _ => none }
def sinkChunkSizesRow : OpenClaim := { program := "ytljlcigbehgohaa", sum := "a3385f99aa17fd3abcc62b9d2ce0428d0dd270f0ca1d3bb9a9178c5e88181b5f", func := "paxtar/paxtarlaw05.SinkChunkSizes", spec := "sinkChunkSizes", apart := false }
def SinkChunkSizesSaid : Prop := sinkChunkSizesRow.holds Try.pinned (OpenSpec.ofChange sinkChunkSizesSpec)

/-- ITS FALSE NEIGHBOUR: 'it returns false'. Refute it at one input. -/
def sinkChunkSizesWrong : ChangeSpec := { name := "sinkChunkSizes", fn := fun _ => fun
  | [d1, d2] => { results := [.lit (.bool false)], args := [d1, d2] }
  | _ => none }
def SinkChunkSizesWrongFalsely : Prop := sinkChunkSizesRow.holds Try.pinned (OpenSpec.ofChange sinkChunkSizesWrong)

/-- 'paxtarlaw11.PayloadBlocksIsLeast': WHATEVER THE INPUT: true; the input reads as it did. -/
def payloadBlocksIsLeastSpec : ChangeSpec := { name := "payloadBlocksIsLeast", fn := fun _ => fun
  | [d] => { results := [.lit (.bool true)], args := [d] }
  | _ => none }
def payloadBlocksIsLeastRow : OpenClaim := { program := "ytljlcigbehgohaa", sum := "a3385f99aa17fd3abcc62b9d2ce0428d0dd270f0ca1d3bb9a9178c5e88181b5f", func := "paxtar/paxtarlaw11.PayloadBlocksIsLeast", spec := "payloadBlocksIsLeast", apart := false }
def PayloadBlocksIsLeastSaid : Prop := payloadBlocksIsLeastRow.holds Try.pinned (OpenSpec.ofChange payloadBlocksIsLeastSpec)

/-- ITS FALSE NEIGHBOUR: 'it returns false'. Refute it at one input. -/
def payloadBlocksIsLeastWrong : ChangeSpec := { name := "payloadBlocksIsLeast", fn := fun _ => fun
  | [d] => { results := [.lit (.bool false)], args := [d] }
  | _ => none }
def PayloadBlocksIsLeastWrongFalsely : Prop := payloadBlocksIsLeastRow.holds Try.pinned (OpenSpec.ofChange payloadBlocksIsLeastWrong)

/-- 'paxtarlaw06.BlockReaderMatchesReference': WHATEVER THE INPUT: true; the input reads as it did. -/
def blockReaderMatchesReferenceSpec : ChangeSpec := { name := "blockReaderMatchesReference", fn := fun _ => fun
  | [d1, d2] => { results := [.lit (.bool true)], args := [d1, d2] }
  | _ => none }
def blockReaderMatchesReferenceRow : OpenClaim := { program := "ytljlcigbehgohaa", sum := "a3385f99aa17fd3abcc62b9d2ce0428d0dd270f0ca1d3bb9a9178c5e88181b5f", func := "paxtar/paxtarlaw06.BlockReaderMatchesReference", spec := "blockReaderMatchesReference", unfollowed := true, recurses := true, apart := false }
def BlockReaderMatchesReferenceSaid : Prop := blockReaderMatchesReferenceRow.holds Try.pinned (OpenSpec.ofChange blockReaderMatchesReferenceSpec)

/-- ITS FALSE NEIGHBOUR: 'it returns false'. Refute it at one input. -/
def blockReaderMatchesReferenceWrong : ChangeSpec := { name := "blockReaderMatchesReference", fn := fun _ => fun
  | [d1, d2] => { results := [.lit (.bool false)], args := [d1, d2] }
  | _ => none }
def BlockReaderMatchesReferenceWrongFalsely : Prop := blockReaderMatchesReferenceRow.holds Try.pinned (OpenSpec.ofChange blockReaderMatchesReferenceWrong)

/-- 'paxtarlaw06.BlockChunkingIrrelevant': WHATEVER THE INPUT: true; the input reads as it did. -/
def blockChunkingIrrelevantSpec : ChangeSpec := { name := "blockChunkingIrrelevant", fn := fun _ => fun
  | [d1, d2, d3] => { results := [.lit (.bool true)], args := [d1, d2, d3] }
  | _ => none }
def blockChunkingIrrelevantRow : OpenClaim := { program := "ytljlcigbehgohaa", sum := "a3385f99aa17fd3abcc62b9d2ce0428d0dd270f0ca1d3bb9a9178c5e88181b5f", func := "paxtar/paxtarlaw06.BlockChunkingIrrelevant", spec := "blockChunkingIrrelevant", unfollowed := true, recurses := true, apart := false }
def BlockChunkingIrrelevantSaid : Prop := blockChunkingIrrelevantRow.holds Try.pinned (OpenSpec.ofChange blockChunkingIrrelevantSpec)

/-- ITS FALSE NEIGHBOUR: 'it returns false'. Refute it at one input. -/
def blockChunkingIrrelevantWrong : ChangeSpec := { name := "blockChunkingIrrelevant", fn := fun _ => fun
  | [d1, d2, d3] => { results := [.lit (.bool false)], args := [d1, d2, d3] }
  | _ => none }
def BlockChunkingIrrelevantWrongFalsely : Prop := blockChunkingIrrelevantRow.holds Try.pinned (OpenSpec.ofChange blockChunkingIrrelevantWrong)

/-- 'paxtarlaw06.BlockErrorsAreSticky': WHATEVER THE INPUT: true; the input reads as it did. -/
def blockErrorsAreStickySpec : ChangeSpec := { name := "blockErrorsAreSticky", fn := fun _ => fun
  | [d1, d2, d3] => { results := [.lit (.bool true)], args := [d1, d2, d3] }
  | _ => none }
def blockErrorsAreStickyRow : OpenClaim := { program := "ytljlcigbehgohaa", sum := "a3385f99aa17fd3abcc62b9d2ce0428d0dd270f0ca1d3bb9a9178c5e88181b5f", func := "paxtar/paxtarlaw06.BlockErrorsAreSticky", spec := "blockErrorsAreSticky", unfollowed := true, recurses := true, apart := false }
def BlockErrorsAreStickySaid : Prop := blockErrorsAreStickyRow.holds Try.pinned (OpenSpec.ofChange blockErrorsAreStickySpec)

/-- ITS FALSE NEIGHBOUR: 'it returns false'. Refute it at one input. -/
def blockErrorsAreStickyWrong : ChangeSpec := { name := "blockErrorsAreSticky", fn := fun _ => fun
  | [d1, d2, d3] => { results := [.lit (.bool false)], args := [d1, d2, d3] }
  | _ => none }
def BlockErrorsAreStickyWrongFalsely : Prop := blockErrorsAreStickyRow.holds Try.pinned (OpenSpec.ofChange blockErrorsAreStickyWrong)

/-- 'paxtarlaw06.BlockWriterMatchesReference': WHATEVER THE INPUT: true; the input reads as it did. -/
def blockWriterMatchesReferenceSpec : ChangeSpec := { name := "blockWriterMatchesReference", fn := fun _ => fun
  | [d1, d2] => { results := [.lit (.bool true)], args := [d1, d2] }
  | _ => none }
def blockWriterMatchesReferenceRow : OpenClaim := { program := "ytljlcigbehgohaa", sum := "a3385f99aa17fd3abcc62b9d2ce0428d0dd270f0ca1d3bb9a9178c5e88181b5f", func := "paxtar/paxtarlaw06.BlockWriterMatchesReference", spec := "blockWriterMatchesReference", unfollowed := true, recurses := true, apart := false }
def BlockWriterMatchesReferenceSaid : Prop := blockWriterMatchesReferenceRow.holds Try.pinned (OpenSpec.ofChange blockWriterMatchesReferenceSpec)

/-- ITS FALSE NEIGHBOUR: 'it returns false'. Refute it at one input. -/
def blockWriterMatchesReferenceWrong : ChangeSpec := { name := "blockWriterMatchesReference", fn := fun _ => fun
  | [d1, d2] => { results := [.lit (.bool false)], args := [d1, d2] }
  | _ => none }
def BlockWriterMatchesReferenceWrongFalsely : Prop := blockWriterMatchesReferenceRow.holds Try.pinned (OpenSpec.ofChange blockWriterMatchesReferenceWrong)

/-- 'paxtarlaw06.BlockNilReceivers': WHATEVER THE INPUT: true; the input reads as it did. -/
def blockNilReceiversSpec : ChangeSpec := { name := "blockNilReceivers", fn := fun _ => fun
  | [d1, d2] => { results := [.lit (.bool true)], args := [d1, d2] }
  | _ => none }
def blockNilReceiversRow : OpenClaim := { program := "ytljlcigbehgohaa", sum := "a3385f99aa17fd3abcc62b9d2ce0428d0dd270f0ca1d3bb9a9178c5e88181b5f", func := "paxtar/paxtarlaw06.BlockNilReceivers", spec := "blockNilReceivers", unfollowed := true, recurses := true, apart := false }
def BlockNilReceiversSaid : Prop := blockNilReceiversRow.holds Try.pinned (OpenSpec.ofChange blockNilReceiversSpec)

/-- ITS FALSE NEIGHBOUR: 'it returns false'. Refute it at one input. -/
def blockNilReceiversWrong : ChangeSpec := { name := "blockNilReceivers", fn := fun _ => fun
  | [d1, d2] => { results := [.lit (.bool false)], args := [d1, d2] }
  | _ => none }
def BlockNilReceiversWrongFalsely : Prop := blockNilReceiversRow.holds Try.pinned (OpenSpec.ofChange blockNilReceiversWrong)

/-- 'paxtarlaw06.BlockPadAligns': WHATEVER THE INPUT: true; the input reads as it did. -/
def blockPadAlignsSpec : ChangeSpec := { name := "blockPadAligns", fn := fun _ => fun
  | [d1, d2] => { results := [.lit (.bool true)], args := [d1, d2] }
  | _ => none }
def blockPadAlignsRow : OpenClaim := { program := "ytljlcigbehgohaa", sum := "a3385f99aa17fd3abcc62b9d2ce0428d0dd270f0ca1d3bb9a9178c5e88181b5f", func := "paxtar/paxtarlaw06.BlockPadAligns", spec := "blockPadAligns", unfollowed := true, recurses := true, apart := false }
def BlockPadAlignsSaid : Prop := blockPadAlignsRow.holds Try.pinned (OpenSpec.ofChange blockPadAlignsSpec)

/-- ITS FALSE NEIGHBOUR: 'it returns false'. Refute it at one input. -/
def blockPadAlignsWrong : ChangeSpec := { name := "blockPadAligns", fn := fun _ => fun
  | [d1, d2] => { results := [.lit (.bool false)], args := [d1, d2] }
  | _ => none }
def BlockPadAlignsWrongFalsely : Prop := blockPadAlignsRow.holds Try.pinned (OpenSpec.ofChange blockPadAlignsWrong)

/-- 'paxtarlaw11.PayloadReadMatchesReference': WHATEVER THE INPUT: true; the input reads as it did. -/
def payloadReadMatchesReferenceSpec : ChangeSpec := { name := "payloadReadMatchesReference", fn := fun _ => fun
  | [d1, d2, d3] => { results := [.lit (.bool true)], args := [d1, d2, d3] }
  | _ => none }
def payloadReadMatchesReferenceRow : OpenClaim := { program := "ytljlcigbehgohaa", sum := "a3385f99aa17fd3abcc62b9d2ce0428d0dd270f0ca1d3bb9a9178c5e88181b5f", func := "paxtar/paxtarlaw11.PayloadReadMatchesReference", spec := "payloadReadMatchesReference", unfollowed := true, recurses := true, apart := false }
def PayloadReadMatchesReferenceSaid : Prop := payloadReadMatchesReferenceRow.holds Try.pinned (OpenSpec.ofChange payloadReadMatchesReferenceSpec)

/-- ITS FALSE NEIGHBOUR: 'it returns false'. Refute it at one input. -/
def payloadReadMatchesReferenceWrong : ChangeSpec := { name := "payloadReadMatchesReference", fn := fun _ => fun
  | [d1, d2, d3] => { results := [.lit (.bool false)], args := [d1, d2, d3] }
  | _ => none }
def PayloadReadMatchesReferenceWrongFalsely : Prop := payloadReadMatchesReferenceRow.holds Try.pinned (OpenSpec.ofChange payloadReadMatchesReferenceWrong)

/-- 'paxtarlaw11.PayloadLargeSize': WHATEVER THE INPUT: true; the input reads as it did. -/
def payloadLargeSizeSpec : ChangeSpec := { name := "payloadLargeSize", fn := fun _ => fun
  | [d1, d2] => { results := [.lit (.bool true)], args := [d1, d2] }
  | _ => none }
def payloadLargeSizeRow : OpenClaim := { program := "ytljlcigbehgohaa", sum := "a3385f99aa17fd3abcc62b9d2ce0428d0dd270f0ca1d3bb9a9178c5e88181b5f", func := "paxtar/paxtarlaw11.PayloadLargeSize", spec := "payloadLargeSize", unfollowed := true, recurses := true, apart := false }
def PayloadLargeSizeSaid : Prop := payloadLargeSizeRow.holds Try.pinned (OpenSpec.ofChange payloadLargeSizeSpec)

/-- ITS FALSE NEIGHBOUR: 'it returns false'. Refute it at one input. -/
def payloadLargeSizeWrong : ChangeSpec := { name := "payloadLargeSize", fn := fun _ => fun
  | [d1, d2] => { results := [.lit (.bool false)], args := [d1, d2] }
  | _ => none }
def PayloadLargeSizeWrongFalsely : Prop := payloadLargeSizeRow.holds Try.pinned (OpenSpec.ofChange payloadLargeSizeWrong)

/-- 'paxtarlaw11.PayloadRoundTrip': WHATEVER THE INPUT: true; the input reads as it did. -/
def payloadRoundTripSpec : ChangeSpec := { name := "payloadRoundTrip", fn := fun _ => fun
  | [d1, d2, d3] => { results := [.lit (.bool true)], args := [d1, d2, d3] }
  | _ => none }
def payloadRoundTripRow : OpenClaim := { program := "ytljlcigbehgohaa", sum := "a3385f99aa17fd3abcc62b9d2ce0428d0dd270f0ca1d3bb9a9178c5e88181b5f", func := "paxtar/paxtarlaw11.PayloadRoundTrip", spec := "payloadRoundTrip", unfollowed := true, recurses := true, apart := false }
def PayloadRoundTripSaid : Prop := payloadRoundTripRow.holds Try.pinned (OpenSpec.ofChange payloadRoundTripSpec)

/-- ITS FALSE NEIGHBOUR: 'it returns false'. Refute it at one input. -/
def payloadRoundTripWrong : ChangeSpec := { name := "payloadRoundTrip", fn := fun _ => fun
  | [d1, d2, d3] => { results := [.lit (.bool false)], args := [d1, d2, d3] }
  | _ => none }
def PayloadRoundTripWrongFalsely : Prop := payloadRoundTripRow.holds Try.pinned (OpenSpec.ofChange payloadRoundTripWrong)

/-- 'paxtarlaw11.PayloadConsecutive': WHATEVER THE INPUT: true; the input reads as it did. -/
def payloadConsecutiveSpec : ChangeSpec := { name := "payloadConsecutive", fn := fun _ => fun
  | [d1, d2] => { results := [.lit (.bool true)], args := [d1, d2] }
  | _ => none }
def payloadConsecutiveRow : OpenClaim := { program := "ytljlcigbehgohaa", sum := "a3385f99aa17fd3abcc62b9d2ce0428d0dd270f0ca1d3bb9a9178c5e88181b5f", func := "paxtar/paxtarlaw11.PayloadConsecutive", spec := "payloadConsecutive", unfollowed := true, recurses := true, apart := false }
def PayloadConsecutiveSaid : Prop := payloadConsecutiveRow.holds Try.pinned (OpenSpec.ofChange payloadConsecutiveSpec)

/-- ITS FALSE NEIGHBOUR: 'it returns false'. Refute it at one input. -/
def payloadConsecutiveWrong : ChangeSpec := { name := "payloadConsecutive", fn := fun _ => fun
  | [d1, d2] => { results := [.lit (.bool false)], args := [d1, d2] }
  | _ => none }
def PayloadConsecutiveWrongFalsely : Prop := payloadConsecutiveRow.holds Try.pinned (OpenSpec.ofChange payloadConsecutiveWrong)

/- THE SECOND FORM. 'bulk': how many values and letters a reading holds, each counted each time it is reached (what is shared counts as often as it is met; a slice's spare places count too). A statement '..UptoSaid' is the law's where the arguments, and the package variables that the reading takes, are together of bulk at most 1048576: NARROWER than '..Said'. Prove '..Said' where nothing that the law and all that it calls make is longer than what came in: it says more and counts as full. Else prove '..UptoSaid'. A law counts once. -/
mutual
def uptoBulk {H : Type} : DataW H → Nat
  | .lit (.string bytes) => bytes.length + 1
  | .lit _ => 1
  | .nil => 1
  | .ptr d => uptoBulk d + 1
  | .slice elems spare => uptoBulkAll elems + uptoBulkAll spare + 1
  | .agg parts => uptoBulkAll parts + 1
  | .iface _ d => uptoBulk d + 1
  | .map entries => uptoBulkEntries entries + 1
  | .held _ => 1
def uptoBulkAll {H : Type} : List (DataW H) → Nat
  | [] => 0
  | d :: r => uptoBulk d + uptoBulkAll r
def uptoBulkEntries {H : Type} : List (Lit × DataW H) → Nat
  | [] => 0
  | x :: r => uptoBulkEntry x + uptoBulkEntries r
def uptoBulkEntry {H : Type} : Lit × DataW H → Nat
  | (.string bytes, d) => bytes.length + uptoBulk d + 1
  | (_, d) => uptoBulk d + 1
 end
def uptoSmall : (H : Type) → List (DataW H) → Bool := fun _ ds => decide (uptoBulkAll ds ≤ 1048576)
def OpenSpec.upto (s : _root_.Go.ChangeSpec) : _root_.Go.OpenSpec := { _root_.Go.OpenSpec.ofChange s with cond := some uptoSmall }

/-- 'paxtarlaw04.SourceIsolated', WHERE WHAT IT READS IS OF BULK AT MOST 1048576: true; the input reads as it did. -/
def sourceIsolatedUptoRow : OpenClaim := { program := "ytljlcigbehgohaa", sum := "a3385f99aa17fd3abcc62b9d2ce0428d0dd270f0ca1d3bb9a9178c5e88181b5f", func := "paxtar/paxtarlaw04.SourceIsolated", spec := "sourceIsolated", unfollowed := true, recurses := true, apart := false, narrowed := true }
def SourceIsolatedUptoSaid : Prop := sourceIsolatedUptoRow.holds Try.pinned (OpenSpec.upto sourceIsolatedSpec)

/-- 'paxtarlaw04.SourceDeliversPrefix', WHERE WHAT IT READS IS OF BULK AT MOST 1048576: true; the input reads as it did. -/
def sourceDeliversPrefixUptoRow : OpenClaim := { program := "ytljlcigbehgohaa", sum := "a3385f99aa17fd3abcc62b9d2ce0428d0dd270f0ca1d3bb9a9178c5e88181b5f", func := "paxtar/paxtarlaw04.SourceDeliversPrefix", spec := "sourceDeliversPrefix", unfollowed := true, recurses := true, apart := false, narrowed := true }
def SourceDeliversPrefixUptoSaid : Prop := sourceDeliversPrefixUptoRow.holds Try.pinned (OpenSpec.upto sourceDeliversPrefixSpec)

/-- 'paxtarlaw04.SourceChunkSizes', WHERE WHAT IT READS IS OF BULK AT MOST 1048576: true; the input reads as it did. -/
def sourceChunkSizesUptoRow : OpenClaim := { program := "ytljlcigbehgohaa", sum := "a3385f99aa17fd3abcc62b9d2ce0428d0dd270f0ca1d3bb9a9178c5e88181b5f", func := "paxtar/paxtarlaw04.SourceChunkSizes", spec := "sourceChunkSizes", unfollowed := true, recurses := true, apart := false, narrowed := true }
def SourceChunkSizesUptoSaid : Prop := sourceChunkSizesUptoRow.holds Try.pinned (OpenSpec.upto sourceChunkSizesSpec)

/-- 'paxtarlaw04.SourceMatchesReference', WHERE WHAT IT READS IS OF BULK AT MOST 1048576: true; the input reads as it did. -/
def sourceMatchesReferenceUptoRow : OpenClaim := { program := "ytljlcigbehgohaa", sum := "a3385f99aa17fd3abcc62b9d2ce0428d0dd270f0ca1d3bb9a9178c5e88181b5f", func := "paxtar/paxtarlaw04.SourceMatchesReference", spec := "sourceMatchesReference", unfollowed := true, recurses := true, apart := false, narrowed := true }
def SourceMatchesReferenceUptoSaid : Prop := sourceMatchesReferenceUptoRow.holds Try.pinned (OpenSpec.upto sourceMatchesReferenceSpec)

/-- 'paxtarlaw05.SinkMatchesReference', WHERE WHAT IT READS IS OF BULK AT MOST 1048576: true; the input reads as it did. -/
def sinkMatchesReferenceUptoRow : OpenClaim := { program := "ytljlcigbehgohaa", sum := "a3385f99aa17fd3abcc62b9d2ce0428d0dd270f0ca1d3bb9a9178c5e88181b5f", func := "paxtar/paxtarlaw05.SinkMatchesReference", spec := "sinkMatchesReference", apart := false, narrowed := true }
def SinkMatchesReferenceUptoSaid : Prop := sinkMatchesReferenceUptoRow.holds Try.pinned (OpenSpec.upto sinkMatchesReferenceSpec)

/-- 'paxtarlaw05.SinkKeepsPrefix', WHERE WHAT IT READS IS OF BULK AT MOST 1048576: true; the input reads as it did. -/
def sinkKeepsPrefixUptoRow : OpenClaim := { program := "ytljlcigbehgohaa", sum := "a3385f99aa17fd3abcc62b9d2ce0428d0dd270f0ca1d3bb9a9178c5e88181b5f", func := "paxtar/paxtarlaw05.SinkKeepsPrefix", spec := "sinkKeepsPrefix", apart := false, narrowed := true }
def SinkKeepsPrefixUptoSaid : Prop := sinkKeepsPrefixUptoRow.holds Try.pinned (OpenSpec.upto sinkKeepsPrefixSpec)

/-- 'paxtarlaw05.SinkIsolated', WHERE WHAT IT READS IS OF BULK AT MOST 1048576: true; the input reads as it did. -/
def sinkIsolatedUptoRow : OpenClaim := { program := "ytljlcigbehgohaa", sum := "a3385f99aa17fd3abcc62b9d2ce0428d0dd270f0ca1d3bb9a9178c5e88181b5f", func := "paxtar/paxtarlaw05.SinkIsolated", spec := "sinkIsolated", apart := false, narrowed := true }
def SinkIsolatedUptoSaid : Prop := sinkIsolatedUptoRow.holds Try.pinned (OpenSpec.upto sinkIsolatedSpec)

/-- 'paxtarlaw05.SinkWriteAllSplits', WHERE WHAT IT READS IS OF BULK AT MOST 1048576: true; the input reads as it did. -/
def sinkWriteAllSplitsUptoRow : OpenClaim := { program := "ytljlcigbehgohaa", sum := "a3385f99aa17fd3abcc62b9d2ce0428d0dd270f0ca1d3bb9a9178c5e88181b5f", func := "paxtar/paxtarlaw05.SinkWriteAllSplits", spec := "sinkWriteAllSplits", apart := false, narrowed := true }
def SinkWriteAllSplitsUptoSaid : Prop := sinkWriteAllSplitsUptoRow.holds Try.pinned (OpenSpec.upto sinkWriteAllSplitsSpec)

/-- 'paxtarlaw05.SinkChunkSizes', WHERE WHAT IT READS IS OF BULK AT MOST 1048576: true; the input reads as it did. -/
def sinkChunkSizesUptoRow : OpenClaim := { program := "ytljlcigbehgohaa", sum := "a3385f99aa17fd3abcc62b9d2ce0428d0dd270f0ca1d3bb9a9178c5e88181b5f", func := "paxtar/paxtarlaw05.SinkChunkSizes", spec := "sinkChunkSizes", apart := false, narrowed := true }
def SinkChunkSizesUptoSaid : Prop := sinkChunkSizesUptoRow.holds Try.pinned (OpenSpec.upto sinkChunkSizesSpec)

/-- 'paxtarlaw11.PayloadBlocksIsLeast', WHERE WHAT IT READS IS OF BULK AT MOST 1048576: true; the input reads as it did. -/
def payloadBlocksIsLeastUptoRow : OpenClaim := { program := "ytljlcigbehgohaa", sum := "a3385f99aa17fd3abcc62b9d2ce0428d0dd270f0ca1d3bb9a9178c5e88181b5f", func := "paxtar/paxtarlaw11.PayloadBlocksIsLeast", spec := "payloadBlocksIsLeast", apart := false, narrowed := true }
def PayloadBlocksIsLeastUptoSaid : Prop := payloadBlocksIsLeastUptoRow.holds Try.pinned (OpenSpec.upto payloadBlocksIsLeastSpec)

/-- 'paxtarlaw06.BlockReaderMatchesReference', WHERE WHAT IT READS IS OF BULK AT MOST 1048576: true; the input reads as it did. -/
def blockReaderMatchesReferenceUptoRow : OpenClaim := { program := "ytljlcigbehgohaa", sum := "a3385f99aa17fd3abcc62b9d2ce0428d0dd270f0ca1d3bb9a9178c5e88181b5f", func := "paxtar/paxtarlaw06.BlockReaderMatchesReference", spec := "blockReaderMatchesReference", unfollowed := true, recurses := true, apart := false, narrowed := true }
def BlockReaderMatchesReferenceUptoSaid : Prop := blockReaderMatchesReferenceUptoRow.holds Try.pinned (OpenSpec.upto blockReaderMatchesReferenceSpec)

/-- 'paxtarlaw06.BlockChunkingIrrelevant', WHERE WHAT IT READS IS OF BULK AT MOST 1048576: true; the input reads as it did. -/
def blockChunkingIrrelevantUptoRow : OpenClaim := { program := "ytljlcigbehgohaa", sum := "a3385f99aa17fd3abcc62b9d2ce0428d0dd270f0ca1d3bb9a9178c5e88181b5f", func := "paxtar/paxtarlaw06.BlockChunkingIrrelevant", spec := "blockChunkingIrrelevant", unfollowed := true, recurses := true, apart := false, narrowed := true }
def BlockChunkingIrrelevantUptoSaid : Prop := blockChunkingIrrelevantUptoRow.holds Try.pinned (OpenSpec.upto blockChunkingIrrelevantSpec)

/-- 'paxtarlaw06.BlockErrorsAreSticky', WHERE WHAT IT READS IS OF BULK AT MOST 1048576: true; the input reads as it did. -/
def blockErrorsAreStickyUptoRow : OpenClaim := { program := "ytljlcigbehgohaa", sum := "a3385f99aa17fd3abcc62b9d2ce0428d0dd270f0ca1d3bb9a9178c5e88181b5f", func := "paxtar/paxtarlaw06.BlockErrorsAreSticky", spec := "blockErrorsAreSticky", unfollowed := true, recurses := true, apart := false, narrowed := true }
def BlockErrorsAreStickyUptoSaid : Prop := blockErrorsAreStickyUptoRow.holds Try.pinned (OpenSpec.upto blockErrorsAreStickySpec)

/-- 'paxtarlaw06.BlockWriterMatchesReference', WHERE WHAT IT READS IS OF BULK AT MOST 1048576: true; the input reads as it did. -/
def blockWriterMatchesReferenceUptoRow : OpenClaim := { program := "ytljlcigbehgohaa", sum := "a3385f99aa17fd3abcc62b9d2ce0428d0dd270f0ca1d3bb9a9178c5e88181b5f", func := "paxtar/paxtarlaw06.BlockWriterMatchesReference", spec := "blockWriterMatchesReference", unfollowed := true, recurses := true, apart := false, narrowed := true }
def BlockWriterMatchesReferenceUptoSaid : Prop := blockWriterMatchesReferenceUptoRow.holds Try.pinned (OpenSpec.upto blockWriterMatchesReferenceSpec)

/-- 'paxtarlaw06.BlockNilReceivers', WHERE WHAT IT READS IS OF BULK AT MOST 1048576: true; the input reads as it did. -/
def blockNilReceiversUptoRow : OpenClaim := { program := "ytljlcigbehgohaa", sum := "a3385f99aa17fd3abcc62b9d2ce0428d0dd270f0ca1d3bb9a9178c5e88181b5f", func := "paxtar/paxtarlaw06.BlockNilReceivers", spec := "blockNilReceivers", unfollowed := true, recurses := true, apart := false, narrowed := true }
def BlockNilReceiversUptoSaid : Prop := blockNilReceiversUptoRow.holds Try.pinned (OpenSpec.upto blockNilReceiversSpec)

/-- 'paxtarlaw06.BlockPadAligns', WHERE WHAT IT READS IS OF BULK AT MOST 1048576: true; the input reads as it did. -/
def blockPadAlignsUptoRow : OpenClaim := { program := "ytljlcigbehgohaa", sum := "a3385f99aa17fd3abcc62b9d2ce0428d0dd270f0ca1d3bb9a9178c5e88181b5f", func := "paxtar/paxtarlaw06.BlockPadAligns", spec := "blockPadAligns", unfollowed := true, recurses := true, apart := false, narrowed := true }
def BlockPadAlignsUptoSaid : Prop := blockPadAlignsUptoRow.holds Try.pinned (OpenSpec.upto blockPadAlignsSpec)

/-- 'paxtarlaw11.PayloadReadMatchesReference', WHERE WHAT IT READS IS OF BULK AT MOST 1048576: true; the input reads as it did. -/
def payloadReadMatchesReferenceUptoRow : OpenClaim := { program := "ytljlcigbehgohaa", sum := "a3385f99aa17fd3abcc62b9d2ce0428d0dd270f0ca1d3bb9a9178c5e88181b5f", func := "paxtar/paxtarlaw11.PayloadReadMatchesReference", spec := "payloadReadMatchesReference", unfollowed := true, recurses := true, apart := false, narrowed := true }
def PayloadReadMatchesReferenceUptoSaid : Prop := payloadReadMatchesReferenceUptoRow.holds Try.pinned (OpenSpec.upto payloadReadMatchesReferenceSpec)

/-- 'paxtarlaw11.PayloadLargeSize', WHERE WHAT IT READS IS OF BULK AT MOST 1048576: true; the input reads as it did. -/
def payloadLargeSizeUptoRow : OpenClaim := { program := "ytljlcigbehgohaa", sum := "a3385f99aa17fd3abcc62b9d2ce0428d0dd270f0ca1d3bb9a9178c5e88181b5f", func := "paxtar/paxtarlaw11.PayloadLargeSize", spec := "payloadLargeSize", unfollowed := true, recurses := true, apart := false, narrowed := true }
def PayloadLargeSizeUptoSaid : Prop := payloadLargeSizeUptoRow.holds Try.pinned (OpenSpec.upto payloadLargeSizeSpec)

/-- 'paxtarlaw11.PayloadRoundTrip', WHERE WHAT IT READS IS OF BULK AT MOST 1048576: true; the input reads as it did. -/
def payloadRoundTripUptoRow : OpenClaim := { program := "ytljlcigbehgohaa", sum := "a3385f99aa17fd3abcc62b9d2ce0428d0dd270f0ca1d3bb9a9178c5e88181b5f", func := "paxtar/paxtarlaw11.PayloadRoundTrip", spec := "payloadRoundTrip", unfollowed := true, recurses := true, apart := false, narrowed := true }
def PayloadRoundTripUptoSaid : Prop := payloadRoundTripUptoRow.holds Try.pinned (OpenSpec.upto payloadRoundTripSpec)

/-- 'paxtarlaw11.PayloadConsecutive', WHERE WHAT IT READS IS OF BULK AT MOST 1048576: true; the input reads as it did. -/
def payloadConsecutiveUptoRow : OpenClaim := { program := "ytljlcigbehgohaa", sum := "a3385f99aa17fd3abcc62b9d2ce0428d0dd270f0ca1d3bb9a9178c5e88181b5f", func := "paxtar/paxtarlaw11.PayloadConsecutive", spec := "payloadConsecutive", unfollowed := true, recurses := true, apart := false, narrowed := true }
def PayloadConsecutiveUptoSaid : Prop := payloadConsecutiveUptoRow.holds Try.pinned (OpenSpec.upto payloadConsecutiveSpec)

end Rows
end Go.Proofs.Ytljlcigbehgohaa
