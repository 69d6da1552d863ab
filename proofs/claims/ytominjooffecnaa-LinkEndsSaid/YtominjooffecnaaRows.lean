/-
  No cell of these rows narrows 'for every input' (looked for: loops, veiled, ifaces, maps, wideKeys, modest, calm, conditions, laid).
  DERIVED. THE GIVEN ROWS OF THIS SEAT. 15 by the template 'for every input the law returns true; each argument reads behind the call as it read before'; 0 by the template 'total and deterministic' (their statements: YtominjooffecnaaTotals.lean).
  GIVEN WITH THE SEED: the statements are not yours to turn. If you find one false, say at which input.
  Laid BY PROGRAM, IN A SANDBOX (cutbox-rows.mjs): the forced cells as the released guide's own fill.sh prints them over the translation 20e18a886449ab4c… (all of the seat's roots in one cut). By AI agents, Wed Nov 11 2026. No macro, syntax, notation, axiom, sorry.
-/
import Derived.Test.YtominjooffecnaaChecked
import GoSem.Claim
import GoSem.ClaimJoined
import GoSem.ClaimMapViews
import Derived.JoinedTies
import Derived.KernelRfl
namespace Go.Proofs.Ytominjooffecnaa
/- THE CELL 'sum', in the pinned program and in every row, IS THE sha256 OF THE DUMP (.gsa) THAT YtominjooffecnaaProg.lean LOADS. Nothing in Lean hashes anything: it is a label: what it is worth is what the hold of that sum in a sandbox is worth. -/
noncomputable def Try.pinned : Pinned := { name := "ytominjooffecnaa", sum := "20e18a886449ab4c3df1017215e14e7baa22047df044b29a843544e4868c7bc5", checked := Try.checked }
namespace Rows
def none {H : Type} : Left H := { results := [], args := [] }

/-- 'knapsacklaw08.BandPuts': WHATEVER THE INPUT: true; the input reads as it did. -/
def bandPutsSpec : ChangeSpec := { name := "bandPuts", fn := fun _ => fun
  | [d1, d2, d3] => { results := [.lit (.bool true)], args := [d1, d2, d3] }
  | _ => none }
def bandPutsRow : OpenClaim := { program := "ytominjooffecnaa", sum := "20e18a886449ab4c3df1017215e14e7baa22047df044b29a843544e4868c7bc5", func := "knapsack/knapsacklaw08.BandPuts", spec := "bandPuts", apart := false }
def BandPutsSaid : Prop := bandPutsRow.holds Try.pinned (OpenSpec.ofChange bandPutsSpec)

/-- ITS FALSE NEIGHBOUR: 'it returns false'. Refute it at one input. -/
def bandPutsWrong : ChangeSpec := { name := "bandPuts", fn := fun _ => fun
  | [d1, d2, d3] => { results := [.lit (.bool false)], args := [d1, d2, d3] }
  | _ => none }
def BandPutsWrongFalsely : Prop := bandPutsRow.holds Try.pinned (OpenSpec.ofChange bandPutsWrong)

/-- 'knapsacklaw08.BandGets': WHATEVER THE INPUT: true; the input reads as it did. -/
def bandGetsSpec : ChangeSpec := { name := "bandGets", fn := fun _ => fun
  | [d] => { results := [.lit (.bool true)], args := [d] }
  | _ => none }
def bandGetsRow : OpenClaim := { program := "ytominjooffecnaa", sum := "20e18a886449ab4c3df1017215e14e7baa22047df044b29a843544e4868c7bc5", func := "knapsack/knapsacklaw08.BandGets", spec := "bandGets", apart := false }
def BandGetsSaid : Prop := bandGetsRow.holds Try.pinned (OpenSpec.ofChange bandGetsSpec)

/-- ITS FALSE NEIGHBOUR: 'it returns false'. Refute it at one input. -/
def bandGetsWrong : ChangeSpec := { name := "bandGets", fn := fun _ => fun
  | [d] => { results := [.lit (.bool false)], args := [d] }
  | _ => none }
def BandGetsWrongFalsely : Prop := bandGetsRow.holds Try.pinned (OpenSpec.ofChange bandGetsWrong)

/-- 'knapsacklaw08.BandMixed': WHATEVER THE INPUT: true; the input reads as it did. -/
def bandMixedSpec : ChangeSpec := { name := "bandMixed", fn := fun _ => fun
  | [d] => { results := [.lit (.bool true)], args := [d] }
  | _ => none }
def bandMixedRow : OpenClaim := { program := "ytominjooffecnaa", sum := "20e18a886449ab4c3df1017215e14e7baa22047df044b29a843544e4868c7bc5", func := "knapsack/knapsacklaw08.BandMixed", spec := "bandMixed", apart := false }
def BandMixedSaid : Prop := bandMixedRow.holds Try.pinned (OpenSpec.ofChange bandMixedSpec)

/-- ITS FALSE NEIGHBOUR: 'it returns false'. Refute it at one input. -/
def bandMixedWrong : ChangeSpec := { name := "bandMixed", fn := fun _ => fun
  | [d] => { results := [.lit (.bool false)], args := [d] }
  | _ => none }
def BandMixedWrongFalsely : Prop := bandMixedRow.holds Try.pinned (OpenSpec.ofChange bandMixedWrong)

/-- 'knapsacklaw03.CrcTells': WHATEVER THE INPUT: true; the input reads as it did. -/
def crcTellsSpec : ChangeSpec := { name := "crcTells", fn := fun _ => fun
  | [d] => { results := [.lit (.bool true)], args := [d] }
  | _ => none }
def crcTellsRow : OpenClaim := { program := "ytominjooffecnaa", sum := "20e18a886449ab4c3df1017215e14e7baa22047df044b29a843544e4868c7bc5", func := "knapsack/knapsacklaw03.CrcTells", spec := "crcTells", apart := false }
def CrcTellsSaid : Prop := crcTellsRow.holds Try.pinned (OpenSpec.ofChange crcTellsSpec)

/-- ITS FALSE NEIGHBOUR: 'it returns false'. Refute it at one input. -/
def crcTellsWrong : ChangeSpec := { name := "crcTells", fn := fun _ => fun
  | [d] => { results := [.lit (.bool false)], args := [d] }
  | _ => none }
def CrcTellsWrongFalsely : Prop := crcTellsRow.holds Try.pinned (OpenSpec.ofChange crcTellsWrong)

/-- 'knapsacklaw03.CrcByte': WHATEVER THE INPUT: true; the input reads as it did. -/
def crcByteSpec : ChangeSpec := { name := "crcByte", fn := fun _ => fun
  | [d1, d2, d3] => { results := [.lit (.bool true)], args := [d1, d2, d3] }
  | _ => none }
def crcByteRow : OpenClaim := { program := "ytominjooffecnaa", sum := "20e18a886449ab4c3df1017215e14e7baa22047df044b29a843544e4868c7bc5", func := "knapsack/knapsacklaw03.CrcByte", spec := "crcByte", apart := false }
def CrcByteSaid : Prop := crcByteRow.holds Try.pinned (OpenSpec.ofChange crcByteSpec)

/-- ITS FALSE NEIGHBOUR: 'it returns false'. Refute it at one input. -/
def crcByteWrong : ChangeSpec := { name := "crcByte", fn := fun _ => fun
  | [d1, d2, d3] => { results := [.lit (.bool false)], args := [d1, d2, d3] }
  | _ => none }
def CrcByteWrongFalsely : Prop := crcByteRow.holds Try.pinned (OpenSpec.ofChange crcByteWrong)

/-- 'knapsacklaw01.VarintTells': WHATEVER THE INPUT: true; the input reads as it did. -/
def varintTellsSpec : ChangeSpec := { name := "varintTells", fn := fun _ => fun
  | [d1, d2, d3] => { results := [.lit (.bool true)], args := [d1, d2, d3] }
  | _ => none }
def varintTellsRow : OpenClaim := { program := "ytominjooffecnaa", sum := "20e18a886449ab4c3df1017215e14e7baa22047df044b29a843544e4868c7bc5", func := "knapsack/knapsacklaw01.VarintTells", spec := "varintTells", apart := false }
def VarintTellsSaid : Prop := varintTellsRow.holds Try.pinned (OpenSpec.ofChange varintTellsSpec)

/-- ITS FALSE NEIGHBOUR: 'it returns false'. Refute it at one input. -/
def varintTellsWrong : ChangeSpec := { name := "varintTells", fn := fun _ => fun
  | [d1, d2, d3] => { results := [.lit (.bool false)], args := [d1, d2, d3] }
  | _ => none }
def VarintTellsWrongFalsely : Prop := varintTellsRow.holds Try.pinned (OpenSpec.ofChange varintTellsWrong)

/-- 'knapsacklaw01.VarintBack': WHATEVER THE INPUT: true; the input reads as it did. -/
def varintBackSpec : ChangeSpec := { name := "varintBack", fn := fun _ => fun
  | [d1, d2, d3] => { results := [.lit (.bool true)], args := [d1, d2, d3] }
  | _ => none }
def varintBackRow : OpenClaim := { program := "ytominjooffecnaa", sum := "20e18a886449ab4c3df1017215e14e7baa22047df044b29a843544e4868c7bc5", func := "knapsack/knapsacklaw01.VarintBack", spec := "varintBack", apart := false }
def VarintBackSaid : Prop := varintBackRow.holds Try.pinned (OpenSpec.ofChange varintBackSpec)

/-- ITS FALSE NEIGHBOUR: 'it returns false'. Refute it at one input. -/
def varintBackWrong : ChangeSpec := { name := "varintBack", fn := fun _ => fun
  | [d1, d2, d3] => { results := [.lit (.bool false)], args := [d1, d2, d3] }
  | _ => none }
def VarintBackWrongFalsely : Prop := varintBackRow.holds Try.pinned (OpenSpec.ofChange varintBackWrong)

/-- 'knapsacklaw07.PktPuts': WHATEVER THE INPUT: true; the input reads as it did. -/
def pktPutsSpec : ChangeSpec := { name := "pktPuts", fn := fun _ => fun
  | [d] => { results := [.lit (.bool true)], args := [d] }
  | _ => none }
def pktPutsRow : OpenClaim := { program := "ytominjooffecnaa", sum := "20e18a886449ab4c3df1017215e14e7baa22047df044b29a843544e4868c7bc5", func := "knapsack/knapsacklaw07.PktPuts", spec := "pktPuts", inPlace := ["internal/bytealg.IndexByteString"], apart := false }
def PktPutsSaid : Prop := pktPutsRow.holds Try.pinned (OpenSpec.ofChange pktPutsSpec)

/-- ITS FALSE NEIGHBOUR: 'it returns false'. Refute it at one input. -/
def pktPutsWrong : ChangeSpec := { name := "pktPuts", fn := fun _ => fun
  | [d] => { results := [.lit (.bool false)], args := [d] }
  | _ => none }
def PktPutsWrongFalsely : Prop := pktPutsRow.holds Try.pinned (OpenSpec.ofChange pktPutsWrong)

/-- 'knapsacklaw07.PktGets': WHATEVER THE INPUT: true; the input reads as it did. -/
def pktGetsSpec : ChangeSpec := { name := "pktGets", fn := fun _ => fun
  | [d] => { results := [.lit (.bool true)], args := [d] }
  | _ => none }
def pktGetsRow : OpenClaim := { program := "ytominjooffecnaa", sum := "20e18a886449ab4c3df1017215e14e7baa22047df044b29a843544e4868c7bc5", func := "knapsack/knapsacklaw07.PktGets", spec := "pktGets", inPlace := ["internal/bytealg.IndexByteString"], apart := false }
def PktGetsSaid : Prop := pktGetsRow.holds Try.pinned (OpenSpec.ofChange pktGetsSpec)

/-- ITS FALSE NEIGHBOUR: 'it returns false'. Refute it at one input. -/
def pktGetsWrong : ChangeSpec := { name := "pktGets", fn := fun _ => fun
  | [d] => { results := [.lit (.bool false)], args := [d] }
  | _ => none }
def PktGetsWrongFalsely : Prop := pktGetsRow.holds Try.pinned (OpenSpec.ofChange pktGetsWrong)

/-- 'knapsacklaw07.PktBack': WHATEVER THE INPUT: true; the input reads as it did. -/
def pktBackSpec : ChangeSpec := { name := "pktBack", fn := fun _ => fun
  | [d1, d2] => { results := [.lit (.bool true)], args := [d1, d2] }
  | _ => none }
def pktBackRow : OpenClaim := { program := "ytominjooffecnaa", sum := "20e18a886449ab4c3df1017215e14e7baa22047df044b29a843544e4868c7bc5", func := "knapsack/knapsacklaw07.PktBack", spec := "pktBack", inPlace := ["internal/bytealg.IndexByteString"], apart := false }
def PktBackSaid : Prop := pktBackRow.holds Try.pinned (OpenSpec.ofChange pktBackSpec)

/-- ITS FALSE NEIGHBOUR: 'it returns false'. Refute it at one input. -/
def pktBackWrong : ChangeSpec := { name := "pktBack", fn := fun _ => fun
  | [d1, d2] => { results := [.lit (.bool false)], args := [d1, d2] }
  | _ => none }
def PktBackWrongFalsely : Prop := pktBackRow.holds Try.pinned (OpenSpec.ofChange pktBackWrong)

/-- 'knapsacklaw06.DeltaApplies': WHATEVER THE INPUT: true; the input reads as it did. -/
def deltaAppliesSpec : ChangeSpec := { name := "deltaApplies", fn := fun _ => fun
  | [d1, d2, d3] => { results := [.lit (.bool true)], args := [d1, d2, d3] }
  | _ => none }
def deltaAppliesRow : OpenClaim := { program := "ytominjooffecnaa", sum := "20e18a886449ab4c3df1017215e14e7baa22047df044b29a843544e4868c7bc5", func := "knapsack/knapsacklaw06.DeltaApplies", spec := "deltaApplies", apart := false }
def DeltaAppliesSaid : Prop := deltaAppliesRow.holds Try.pinned (OpenSpec.ofChange deltaAppliesSpec)

/-- ITS FALSE NEIGHBOUR: 'it returns false'. Refute it at one input. -/
def deltaAppliesWrong : ChangeSpec := { name := "deltaApplies", fn := fun _ => fun
  | [d1, d2, d3] => { results := [.lit (.bool false)], args := [d1, d2, d3] }
  | _ => none }
def DeltaAppliesWrongFalsely : Prop := deltaAppliesRow.holds Try.pinned (OpenSpec.ofChange deltaAppliesWrong)

/-- 'knapsacklaw06.DeltaSteps': WHATEVER THE INPUT: true; the input reads as it did. -/
def deltaStepsSpec : ChangeSpec := { name := "deltaSteps", fn := fun _ => fun
  | [d1, d2, d3] => { results := [.lit (.bool true)], args := [d1, d2, d3] }
  | _ => none }
def deltaStepsRow : OpenClaim := { program := "ytominjooffecnaa", sum := "20e18a886449ab4c3df1017215e14e7baa22047df044b29a843544e4868c7bc5", func := "knapsack/knapsacklaw06.DeltaSteps", spec := "deltaSteps", apart := false }
def DeltaStepsSaid : Prop := deltaStepsRow.holds Try.pinned (OpenSpec.ofChange deltaStepsSpec)

/-- ITS FALSE NEIGHBOUR: 'it returns false'. Refute it at one input. -/
def deltaStepsWrong : ChangeSpec := { name := "deltaSteps", fn := fun _ => fun
  | [d1, d2, d3] => { results := [.lit (.bool false)], args := [d1, d2, d3] }
  | _ => none }
def DeltaStepsWrongFalsely : Prop := deltaStepsRow.holds Try.pinned (OpenSpec.ofChange deltaStepsWrong)

/-- 'knapsacklaw24.LinkKeeps': WHATEVER THE INPUT: true; the input reads as it did. -/
def linkKeepsSpec : ChangeSpec := { name := "linkKeeps", fn := fun _ => fun
  | [d] => { results := [.lit (.bool true)], args := [d] }
  | _ => none }
def linkKeepsRow : OpenClaim := { program := "ytominjooffecnaa", sum := "20e18a886449ab4c3df1017215e14e7baa22047df044b29a843544e4868c7bc5", func := "knapsack/knapsacklaw24.LinkKeeps", spec := "linkKeeps", apart := false }
def LinkKeepsSaid : Prop := linkKeepsRow.holds Try.pinned (OpenSpec.ofChange linkKeepsSpec)

/-- ITS FALSE NEIGHBOUR: 'it returns false'. Refute it at one input. -/
def linkKeepsWrong : ChangeSpec := { name := "linkKeeps", fn := fun _ => fun
  | [d] => { results := [.lit (.bool false)], args := [d] }
  | _ => none }
def LinkKeepsWrongFalsely : Prop := linkKeepsRow.holds Try.pinned (OpenSpec.ofChange linkKeepsWrong)

/-- 'knapsacklaw24.LinkEnds': WHATEVER THE INPUT: true; the input reads as it did. -/
def linkEndsSpec : ChangeSpec := { name := "linkEnds", fn := fun _ => fun
  | [d] => { results := [.lit (.bool true)], args := [d] }
  | _ => none }
def linkEndsRow : OpenClaim := { program := "ytominjooffecnaa", sum := "20e18a886449ab4c3df1017215e14e7baa22047df044b29a843544e4868c7bc5", func := "knapsack/knapsacklaw24.LinkEnds", spec := "linkEnds", recurses := true, apart := false }
def LinkEndsSaid : Prop := linkEndsRow.holds Try.pinned (OpenSpec.ofChange linkEndsSpec)

/-- ITS FALSE NEIGHBOUR: 'it returns false'. Refute it at one input. -/
def linkEndsWrong : ChangeSpec := { name := "linkEnds", fn := fun _ => fun
  | [d] => { results := [.lit (.bool false)], args := [d] }
  | _ => none }
def LinkEndsWrongFalsely : Prop := linkEndsRow.holds Try.pinned (OpenSpec.ofChange linkEndsWrong)

/-- 'knapsacklaw06.DeltaBack': WHATEVER THE INPUT: true; the input reads as it did. -/
def deltaBackSpec : ChangeSpec := { name := "deltaBack", fn := fun _ => fun
  | [d1, d2] => { results := [.lit (.bool true)], args := [d1, d2] }
  | _ => none }
def deltaBackRow : OpenClaim := { program := "ytominjooffecnaa", sum := "20e18a886449ab4c3df1017215e14e7baa22047df044b29a843544e4868c7bc5", func := "knapsack/knapsacklaw06.DeltaBack", spec := "deltaBack", apart := false }
def DeltaBackSaid : Prop := deltaBackRow.holds Try.pinned (OpenSpec.ofChange deltaBackSpec)

/-- ITS FALSE NEIGHBOUR: 'it returns false'. Refute it at one input. -/
def deltaBackWrong : ChangeSpec := { name := "deltaBack", fn := fun _ => fun
  | [d1, d2] => { results := [.lit (.bool false)], args := [d1, d2] }
  | _ => none }
def DeltaBackWrongFalsely : Prop := deltaBackRow.holds Try.pinned (OpenSpec.ofChange deltaBackWrong)

/- THE SECOND FORM. 'bulk': how many values and letters a reading holds, each counted each time it is reached (what is shared counts as often as it is met; a slice's spare places count too). A statement '..UptoSaid' is the law's where the arguments, and the package variables that the reading takes, are together of bulk at most 1048576: NARROWER than '..Said'. Prove '..Said' where nothing that the law and all that it calls make is longer than what came in: it says more and counts as full. Else prove '..UptoSaid'. A law counts once. -/
mutual
def uptoBulk {H : Type} : DataW H → Nat
  | .lit (.string bytes) => bytes.length + 1
  | .lit _ => 1
  | .nil => 1
  | .ptr d => uptoBulk d + 1
  | .slice elems spare => uptoBulkAll elems + uptoBulkAll spare + 1
  | .agg parts => uptoBulkAll parts + 1
  | .iface _ d => uptoBulk d + 1
  | .map entries => uptoBulkEntries entries + 1
  | .held _ => 1
def uptoBulkAll {H : Type} : List (DataW H) → Nat
  | [] => 0
  | d :: r => uptoBulk d + uptoBulkAll r
def uptoBulkEntries {H : Type} : List (Lit × DataW H) → Nat
  | [] => 0
  | x :: r => uptoBulkEntry x + uptoBulkEntries r
def uptoBulkEntry {H : Type} : Lit × DataW H → Nat
  | (.string bytes, d) => bytes.length + uptoBulk d + 1
  | (_, d) => uptoBulk d + 1
 end
def uptoSmall : (H : Type) → List (DataW H) → Bool := fun _ ds => decide (uptoBulkAll ds ≤ 1048576)
def OpenSpec.upto (s : _root_.Go.ChangeSpec) : _root_.Go.OpenSpec := { _root_.Go.OpenSpec.ofChange s with cond := some uptoSmall }

/-- 'knapsacklaw08.BandPuts', WHERE WHAT IT READS IS OF BULK AT MOST 1048576: true; the input reads as it did. -/
def bandPutsUptoRow : OpenClaim := { program := "ytominjooffecnaa", sum := "20e18a886449ab4c3df1017215e14e7baa22047df044b29a843544e4868c7bc5", func := "knapsack/knapsacklaw08.BandPuts", spec := "bandPuts", apart := false, narrowed := true }
def BandPutsUptoSaid : Prop := bandPutsUptoRow.holds Try.pinned (OpenSpec.upto bandPutsSpec)

/-- 'knapsacklaw08.BandGets', WHERE WHAT IT READS IS OF BULK AT MOST 1048576: true; the input reads as it did. -/
def bandGetsUptoRow : OpenClaim := { program := "ytominjooffecnaa", sum := "20e18a886449ab4c3df1017215e14e7baa22047df044b29a843544e4868c7bc5", func := "knapsack/knapsacklaw08.BandGets", spec := "bandGets", apart := false, narrowed := true }
def BandGetsUptoSaid : Prop := bandGetsUptoRow.holds Try.pinned (OpenSpec.upto bandGetsSpec)

/-- 'knapsacklaw08.BandMixed', WHERE WHAT IT READS IS OF BULK AT MOST 1048576: true; the input reads as it did. -/
def bandMixedUptoRow : OpenClaim := { program := "ytominjooffecnaa", sum := "20e18a886449ab4c3df1017215e14e7baa22047df044b29a843544e4868c7bc5", func := "knapsack/knapsacklaw08.BandMixed", spec := "bandMixed", apart := false, narrowed := true }
def BandMixedUptoSaid : Prop := bandMixedUptoRow.holds Try.pinned (OpenSpec.upto bandMixedSpec)

/-- 'knapsacklaw03.CrcTells', WHERE WHAT IT READS IS OF BULK AT MOST 1048576: true; the input reads as it did. -/
def crcTellsUptoRow : OpenClaim := { program := "ytominjooffecnaa", sum := "20e18a886449ab4c3df1017215e14e7baa22047df044b29a843544e4868c7bc5", func := "knapsack/knapsacklaw03.CrcTells", spec := "crcTells", apart := false, narrowed := true }
def CrcTellsUptoSaid : Prop := crcTellsUptoRow.holds Try.pinned (OpenSpec.upto crcTellsSpec)

/-- 'knapsacklaw03.CrcByte', WHERE WHAT IT READS IS OF BULK AT MOST 1048576: true; the input reads as it did. -/
def crcByteUptoRow : OpenClaim := { program := "ytominjooffecnaa", sum := "20e18a886449ab4c3df1017215e14e7baa22047df044b29a843544e4868c7bc5", func := "knapsack/knapsacklaw03.CrcByte", spec := "crcByte", apart := false, narrowed := true }
def CrcByteUptoSaid : Prop := crcByteUptoRow.holds Try.pinned (OpenSpec.upto crcByteSpec)

/-- 'knapsacklaw01.VarintTells', WHERE WHAT IT READS IS OF BULK AT MOST 1048576: true; the input reads as it did. -/
def varintTellsUptoRow : OpenClaim := { program := "ytominjooffecnaa", sum := "20e18a886449ab4c3df1017215e14e7baa22047df044b29a843544e4868c7bc5", func := "knapsack/knapsacklaw01.VarintTells", spec := "varintTells", apart := false, narrowed := true }
def VarintTellsUptoSaid : Prop := varintTellsUptoRow.holds Try.pinned (OpenSpec.upto varintTellsSpec)

/-- 'knapsacklaw01.VarintBack', WHERE WHAT IT READS IS OF BULK AT MOST 1048576: true; the input reads as it did. -/
def varintBackUptoRow : OpenClaim := { program := "ytominjooffecnaa", sum := "20e18a886449ab4c3df1017215e14e7baa22047df044b29a843544e4868c7bc5", func := "knapsack/knapsacklaw01.VarintBack", spec := "varintBack", apart := false, narrowed := true }
def VarintBackUptoSaid : Prop := varintBackUptoRow.holds Try.pinned (OpenSpec.upto varintBackSpec)

/-- 'knapsacklaw07.PktPuts', WHERE WHAT IT READS IS OF BULK AT MOST 1048576: true; the input reads as it did. -/
def pktPutsUptoRow : OpenClaim := { program := "ytominjooffecnaa", sum := "20e18a886449ab4c3df1017215e14e7baa22047df044b29a843544e4868c7bc5", func := "knapsack/knapsacklaw07.PktPuts", spec := "pktPuts", inPlace := ["internal/bytealg.IndexByteString"], apart := false, narrowed := true }
def PktPutsUptoSaid : Prop := pktPutsUptoRow.holds Try.pinned (OpenSpec.upto pktPutsSpec)

/-- 'knapsacklaw07.PktGets', WHERE WHAT IT READS IS OF BULK AT MOST 1048576: true; the input reads as it did. -/
def pktGetsUptoRow : OpenClaim := { program := "ytominjooffecnaa", sum := "20e18a886449ab4c3df1017215e14e7baa22047df044b29a843544e4868c7bc5", func := "knapsack/knapsacklaw07.PktGets", spec := "pktGets", inPlace := ["internal/bytealg.IndexByteString"], apart := false, narrowed := true }
def PktGetsUptoSaid : Prop := pktGetsUptoRow.holds Try.pinned (OpenSpec.upto pktGetsSpec)

/-- 'knapsacklaw07.PktBack', WHERE WHAT IT READS IS OF BULK AT MOST 1048576: true; the input reads as it did. -/
def pktBackUptoRow : OpenClaim := { program := "ytominjooffecnaa", sum := "20e18a886449ab4c3df1017215e14e7baa22047df044b29a843544e4868c7bc5", func := "knapsack/knapsacklaw07.PktBack", spec := "pktBack", inPlace := ["internal/bytealg.IndexByteString"], apart := false, narrowed := true }
def PktBackUptoSaid : Prop := pktBackUptoRow.holds Try.pinned (OpenSpec.upto pktBackSpec)

/-- 'knapsacklaw06.DeltaApplies', WHERE WHAT IT READS IS OF BULK AT MOST 1048576: true; the input reads as it did. -/
def deltaAppliesUptoRow : OpenClaim := { program := "ytominjooffecnaa", sum := "20e18a886449ab4c3df1017215e14e7baa22047df044b29a843544e4868c7bc5", func := "knapsack/knapsacklaw06.DeltaApplies", spec := "deltaApplies", apart := false, narrowed := true }
def DeltaAppliesUptoSaid : Prop := deltaAppliesUptoRow.holds Try.pinned (OpenSpec.upto deltaAppliesSpec)

/-- 'knapsacklaw06.DeltaSteps', WHERE WHAT IT READS IS OF BULK AT MOST 1048576: true; the input reads as it did. -/
def deltaStepsUptoRow : OpenClaim := { program := "ytominjooffecnaa", sum := "20e18a886449ab4c3df1017215e14e7baa22047df044b29a843544e4868c7bc5", func := "knapsack/knapsacklaw06.DeltaSteps", spec := "deltaSteps", apart := false, narrowed := true }
def DeltaStepsUptoSaid : Prop := deltaStepsUptoRow.holds Try.pinned (OpenSpec.upto deltaStepsSpec)

/-- 'knapsacklaw24.LinkKeeps', WHERE WHAT IT READS IS OF BULK AT MOST 1048576: true; the input reads as it did. -/
def linkKeepsUptoRow : OpenClaim := { program := "ytominjooffecnaa", sum := "20e18a886449ab4c3df1017215e14e7baa22047df044b29a843544e4868c7bc5", func := "knapsack/knapsacklaw24.LinkKeeps", spec := "linkKeeps", apart := false, narrowed := true }
def LinkKeepsUptoSaid : Prop := linkKeepsUptoRow.holds Try.pinned (OpenSpec.upto linkKeepsSpec)

/-- 'knapsacklaw24.LinkEnds', WHERE WHAT IT READS IS OF BULK AT MOST 1048576: true; the input reads as it did. -/
def linkEndsUptoRow : OpenClaim := { program := "ytominjooffecnaa", sum := "20e18a886449ab4c3df1017215e14e7baa22047df044b29a843544e4868c7bc5", func := "knapsack/knapsacklaw24.LinkEnds", spec := "linkEnds", recurses := true, apart := false, narrowed := true }
def LinkEndsUptoSaid : Prop := linkEndsUptoRow.holds Try.pinned (OpenSpec.upto linkEndsSpec)

/-- 'knapsacklaw06.DeltaBack', WHERE WHAT IT READS IS OF BULK AT MOST 1048576: true; the input reads as it did. -/
def deltaBackUptoRow : OpenClaim := { program := "ytominjooffecnaa", sum := "20e18a886449ab4c3df1017215e14e7baa22047df044b29a843544e4868c7bc5", func := "knapsack/knapsacklaw06.DeltaBack", spec := "deltaBack", apart := false, narrowed := true }
def DeltaBackUptoSaid : Prop := deltaBackUptoRow.holds Try.pinned (OpenSpec.upto deltaBackSpec)

end Rows
end Go.Proofs.Ytominjooffecnaa
