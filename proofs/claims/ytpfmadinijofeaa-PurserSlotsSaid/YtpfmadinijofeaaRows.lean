/-
  No cell of these rows narrows 'for every input' (looked for: loops, veiled, ifaces, maps, wideKeys, modest, calm, conditions, laid).
  DERIVED. THE GIVEN ROWS OF THIS SEAT. 10 by the template 'for every input the law returns true; each argument reads behind the call as it read before'; 0 by the template 'total and deterministic' (their statements: YtpfmadinijofeaaTotals.lean).
  GIVEN WITH THE SEED: the statements are not yours to turn. If you find one false, say at which input.
  Laid BY PROGRAM, IN A SANDBOX (cutbox-rows.mjs): the forced cells as the released guide's own fill.sh prints them over the translation a3884405b4fcd34b… (all of the seat's roots in one cut). By AI agents, Wed Nov 11 2026. No macro, syntax, notation, axiom, sorry.
-/
import Derived.Test.YtpfmadinijofeaaChecked
import GoSem.Claim
import GoSem.ClaimJoined
import GoSem.ClaimMapViews
import Derived.JoinedTies
import Derived.KernelRfl
namespace Go.Proofs.Ytpfmadinijofeaa
/- THE CELL 'sum', in the pinned program and in every row, IS THE sha256 OF THE DUMP (.gsa) THAT YtpfmadinijofeaaProg.lean LOADS. Nothing in Lean hashes anything: it is a label: what it is worth is what the hold of that sum in a sandbox is worth. -/
noncomputable def Try.pinned : Pinned := { name := "ytpfmadinijofeaa", sum := "a3884405b4fcd34ba24f1dbcac0ce7b089ecaa2cbcf996a5829f248e7bf43219", checked := Try.checked }
namespace Rows
def none {H : Type} : Left H := { results := [], args := [] }

/-- 'purserlaw06.SnapLoads': WHATEVER THE INPUT: true; the input reads as it did. -/
def snapLoadsSpec : ChangeSpec := { name := "snapLoads", fn := fun _ => fun
  | [d1, d2, d3] => { results := [.lit (.bool true)], args := [d1, d2, d3] }
  | _ => none }
def snapLoadsRow : OpenClaim := { program := "ytpfmadinijofeaa", sum := "a3884405b4fcd34ba24f1dbcac0ce7b089ecaa2cbcf996a5829f248e7bf43219", func := "purser/purserlaw06.SnapLoads", spec := "snapLoads", unfollowed := true, recurses := true, apart := false }
def SnapLoadsSaid : Prop := snapLoadsRow.holds Try.pinned (OpenSpec.ofChange snapLoadsSpec)

/-- ITS FALSE NEIGHBOUR: 'it returns false'. Refute it at one input. -/
def snapLoadsWrong : ChangeSpec := { name := "snapLoads", fn := fun _ => fun
  | [d1, d2, d3] => { results := [.lit (.bool false)], args := [d1, d2, d3] }
  | _ => none }
def SnapLoadsWrongFalsely : Prop := snapLoadsRow.holds Try.pinned (OpenSpec.ofChange snapLoadsWrong)

/-- 'purserlaw06.SnapTurns': WHATEVER THE INPUT: true; the input reads as it did. -/
def snapTurnsSpec : ChangeSpec := { name := "snapTurns", fn := fun _ => fun
  | [d] => { results := [.lit (.bool true)], args := [d] }
  | _ => none }
def snapTurnsRow : OpenClaim := { program := "ytpfmadinijofeaa", sum := "a3884405b4fcd34ba24f1dbcac0ce7b089ecaa2cbcf996a5829f248e7bf43219", func := "purser/purserlaw06.SnapTurns", spec := "snapTurns", unfollowed := true, recurses := true, apart := false }
def SnapTurnsSaid : Prop := snapTurnsRow.holds Try.pinned (OpenSpec.ofChange snapTurnsSpec)

/-- ITS FALSE NEIGHBOUR: 'it returns false'. Refute it at one input. -/
def snapTurnsWrong : ChangeSpec := { name := "snapTurns", fn := fun _ => fun
  | [d] => { results := [.lit (.bool false)], args := [d] }
  | _ => none }
def SnapTurnsWrongFalsely : Prop := snapTurnsRow.holds Try.pinned (OpenSpec.ofChange snapTurnsWrong)

/-- 'purserlaw05.FrameOpens': WHATEVER THE INPUT: true; the input reads as it did. -/
def frameOpensSpec : ChangeSpec := { name := "frameOpens", fn := fun _ => fun
  | [d1, d2, d3] => { results := [.lit (.bool true)], args := [d1, d2, d3] }
  | _ => none }
def frameOpensRow : OpenClaim := { program := "ytpfmadinijofeaa", sum := "a3884405b4fcd34ba24f1dbcac0ce7b089ecaa2cbcf996a5829f248e7bf43219", func := "purser/purserlaw05.FrameOpens", spec := "frameOpens", unfollowed := true, recurses := true, apart := false }
def FrameOpensSaid : Prop := frameOpensRow.holds Try.pinned (OpenSpec.ofChange frameOpensSpec)

/-- ITS FALSE NEIGHBOUR: 'it returns false'. Refute it at one input. -/
def frameOpensWrong : ChangeSpec := { name := "frameOpens", fn := fun _ => fun
  | [d1, d2, d3] => { results := [.lit (.bool false)], args := [d1, d2, d3] }
  | _ => none }
def FrameOpensWrongFalsely : Prop := frameOpensRow.holds Try.pinned (OpenSpec.ofChange frameOpensWrong)

/-- 'purserlaw06.SnapSaves': WHATEVER THE INPUT: true; the input reads as it did. -/
def snapSavesSpec : ChangeSpec := { name := "snapSaves", fn := fun _ => fun
  | [d1, d2, d3] => { results := [.lit (.bool true)], args := [d1, d2, d3] }
  | _ => none }
def snapSavesRow : OpenClaim := { program := "ytpfmadinijofeaa", sum := "a3884405b4fcd34ba24f1dbcac0ce7b089ecaa2cbcf996a5829f248e7bf43219", func := "purser/purserlaw06.SnapSaves", spec := "snapSaves", unfollowed := true, recurses := true, apart := false }
def SnapSavesSaid : Prop := snapSavesRow.holds Try.pinned (OpenSpec.ofChange snapSavesSpec)

/-- ITS FALSE NEIGHBOUR: 'it returns false'. Refute it at one input. -/
def snapSavesWrong : ChangeSpec := { name := "snapSaves", fn := fun _ => fun
  | [d1, d2, d3] => { results := [.lit (.bool false)], args := [d1, d2, d3] }
  | _ => none }
def SnapSavesWrongFalsely : Prop := snapSavesRow.holds Try.pinned (OpenSpec.ofChange snapSavesWrong)

/-- 'purserlaw06.SnapFalls': WHATEVER THE INPUT: true; the input reads as it did. -/
def snapFallsSpec : ChangeSpec := { name := "snapFalls", fn := fun _ => fun
  | [d] => { results := [.lit (.bool true)], args := [d] }
  | _ => none }
def snapFallsRow : OpenClaim := { program := "ytpfmadinijofeaa", sum := "a3884405b4fcd34ba24f1dbcac0ce7b089ecaa2cbcf996a5829f248e7bf43219", func := "purser/purserlaw06.SnapFalls", spec := "snapFalls", unfollowed := true, recurses := true, apart := false }
def SnapFallsSaid : Prop := snapFallsRow.holds Try.pinned (OpenSpec.ofChange snapFallsSpec)

/-- ITS FALSE NEIGHBOUR: 'it returns false'. Refute it at one input. -/
def snapFallsWrong : ChangeSpec := { name := "snapFalls", fn := fun _ => fun
  | [d] => { results := [.lit (.bool false)], args := [d] }
  | _ => none }
def SnapFallsWrongFalsely : Prop := snapFallsRow.holds Try.pinned (OpenSpec.ofChange snapFallsWrong)

/-- 'purserlaw05.FrameLays': WHATEVER THE INPUT: true; the input reads as it did. -/
def frameLaysSpec : ChangeSpec := { name := "frameLays", fn := fun _ => fun
  | [d1, d2, d3] => { results := [.lit (.bool true)], args := [d1, d2, d3] }
  | _ => none }
def frameLaysRow : OpenClaim := { program := "ytpfmadinijofeaa", sum := "a3884405b4fcd34ba24f1dbcac0ce7b089ecaa2cbcf996a5829f248e7bf43219", func := "purser/purserlaw05.FrameLays", spec := "frameLays", unfollowed := true, recurses := true, apart := false }
def FrameLaysSaid : Prop := frameLaysRow.holds Try.pinned (OpenSpec.ofChange frameLaysSpec)

/-- ITS FALSE NEIGHBOUR: 'it returns false'. Refute it at one input. -/
def frameLaysWrong : ChangeSpec := { name := "frameLays", fn := fun _ => fun
  | [d1, d2, d3] => { results := [.lit (.bool false)], args := [d1, d2, d3] }
  | _ => none }
def FrameLaysWrongFalsely : Prop := frameLaysRow.holds Try.pinned (OpenSpec.ofChange frameLaysWrong)

/-- 'purserlaw05.FrameGens': WHATEVER THE INPUT: true; the input reads as it did. -/
def frameGensSpec : ChangeSpec := { name := "frameGens", fn := fun _ => fun
  | [d1, d2, d3] => { results := [.lit (.bool true)], args := [d1, d2, d3] }
  | _ => none }
def frameGensRow : OpenClaim := { program := "ytpfmadinijofeaa", sum := "a3884405b4fcd34ba24f1dbcac0ce7b089ecaa2cbcf996a5829f248e7bf43219", func := "purser/purserlaw05.FrameGens", spec := "frameGens", unfollowed := true, recurses := true, apart := false }
def FrameGensSaid : Prop := frameGensRow.holds Try.pinned (OpenSpec.ofChange frameGensSpec)

/-- ITS FALSE NEIGHBOUR: 'it returns false'. Refute it at one input. -/
def frameGensWrong : ChangeSpec := { name := "frameGens", fn := fun _ => fun
  | [d1, d2, d3] => { results := [.lit (.bool false)], args := [d1, d2, d3] }
  | _ => none }
def FrameGensWrongFalsely : Prop := frameGensRow.holds Try.pinned (OpenSpec.ofChange frameGensWrong)

/-- 'purserlaw05.FrameFalls': WHATEVER THE INPUT: true; the input reads as it did. -/
def frameFallsSpec : ChangeSpec := { name := "frameFalls", fn := fun _ => fun
  | [d] => { results := [.lit (.bool true)], args := [d] }
  | _ => none }
def frameFallsRow : OpenClaim := { program := "ytpfmadinijofeaa", sum := "a3884405b4fcd34ba24f1dbcac0ce7b089ecaa2cbcf996a5829f248e7bf43219", func := "purser/purserlaw05.FrameFalls", spec := "frameFalls", unfollowed := true, recurses := true, apart := false }
def FrameFallsSaid : Prop := frameFallsRow.holds Try.pinned (OpenSpec.ofChange frameFallsSpec)

/-- ITS FALSE NEIGHBOUR: 'it returns false'. Refute it at one input. -/
def frameFallsWrong : ChangeSpec := { name := "frameFalls", fn := fun _ => fun
  | [d] => { results := [.lit (.bool false)], args := [d] }
  | _ => none }
def FrameFallsWrongFalsely : Prop := frameFallsRow.holds Try.pinned (OpenSpec.ofChange frameFallsWrong)

/-- 'purserlaw05.FrameForged': WHATEVER THE INPUT: true; the input reads as it did. -/
def frameForgedSpec : ChangeSpec := { name := "frameForged", fn := fun _ => fun
  | [d1, d2, d3] => { results := [.lit (.bool true)], args := [d1, d2, d3] }
  | _ => none }
def frameForgedRow : OpenClaim := { program := "ytpfmadinijofeaa", sum := "a3884405b4fcd34ba24f1dbcac0ce7b089ecaa2cbcf996a5829f248e7bf43219", func := "purser/purserlaw05.FrameForged", spec := "frameForged", unfollowed := true, recurses := true, apart := false }
def FrameForgedSaid : Prop := frameForgedRow.holds Try.pinned (OpenSpec.ofChange frameForgedSpec)

/-- ITS FALSE NEIGHBOUR: 'it returns false'. Refute it at one input. -/
def frameForgedWrong : ChangeSpec := { name := "frameForged", fn := fun _ => fun
  | [d1, d2, d3] => { results := [.lit (.bool false)], args := [d1, d2, d3] }
  | _ => none }
def FrameForgedWrongFalsely : Prop := frameForgedRow.holds Try.pinned (OpenSpec.ofChange frameForgedWrong)

/-- 'pursertop.PurserSlots': WHATEVER THE INPUT: true; the input reads as it did. -/
def purserSlotsSpec : ChangeSpec := { name := "purserSlots", fn := fun _ => fun
  | [d] => { results := [.lit (.bool true)], args := [d] }
  | _ => none }
def purserSlotsRow : OpenClaim := { program := "ytpfmadinijofeaa", sum := "a3884405b4fcd34ba24f1dbcac0ce7b089ecaa2cbcf996a5829f248e7bf43219", func := "purser/pursertop.PurserSlots", spec := "purserSlots", unfollowed := true, recurses := true, apart := false }
def PurserSlotsSaid : Prop := purserSlotsRow.holds Try.pinned (OpenSpec.ofChange purserSlotsSpec)

/-- ITS FALSE NEIGHBOUR: 'it returns false'. Refute it at one input. -/
def purserSlotsWrong : ChangeSpec := { name := "purserSlots", fn := fun _ => fun
  | [d] => { results := [.lit (.bool false)], args := [d] }
  | _ => none }
def PurserSlotsWrongFalsely : Prop := purserSlotsRow.holds Try.pinned (OpenSpec.ofChange purserSlotsWrong)

/- THE SECOND FORM. 'bulk': how many values and letters a reading holds, each counted each time it is reached (what is shared counts as often as it is met; a slice's spare places count too). A statement '..UptoSaid' is the law's where the arguments, and the package variables that the reading takes, are together of bulk at most 1048576: NARROWER than '..Said'. Prove '..Said' where nothing that the law and all that it calls make is longer than what came in: it says more and counts as full. Else prove '..UptoSaid'. A law counts once. -/
mutual
def uptoBulk {H : Type} : DataW H → Nat
  | .lit (.string bytes) => bytes.length + 1
  | .lit _ => 1
  | .nil => 1
  | .ptr d => uptoBulk d + 1
  | .slice elems spare => uptoBulkAll elems + uptoBulkAll spare + 1
  | .agg parts => uptoBulkAll parts + 1
  | .iface _ d => uptoBulk d + 1
  | .map entries => uptoBulkEntries entries + 1
  | .held _ => 1
def uptoBulkAll {H : Type} : List (DataW H) → Nat
  | [] => 0
  | d :: r => uptoBulk d + uptoBulkAll r
def uptoBulkEntries {H : Type} : List (Lit × DataW H) → Nat
  | [] => 0
  | x :: r => uptoBulkEntry x + uptoBulkEntries r
def uptoBulkEntry {H : Type} : Lit × DataW H → Nat
  | (.string bytes, d) => bytes.length + uptoBulk d + 1
  | (_, d) => uptoBulk d + 1
 end
def uptoSmall : (H : Type) → List (DataW H) → Bool := fun _ ds => decide (uptoBulkAll ds ≤ 1048576)
def OpenSpec.upto (s : _root_.Go.ChangeSpec) : _root_.Go.OpenSpec := { _root_.Go.OpenSpec.ofChange s with cond := some uptoSmall }

/-- 'purserlaw06.SnapLoads', WHERE WHAT IT READS IS OF BULK AT MOST 1048576: true; the input reads as it did. -/
def snapLoadsUptoRow : OpenClaim := { program := "ytpfmadinijofeaa", sum := "a3884405b4fcd34ba24f1dbcac0ce7b089ecaa2cbcf996a5829f248e7bf43219", func := "purser/purserlaw06.SnapLoads", spec := "snapLoads", unfollowed := true, recurses := true, apart := false, narrowed := true }
def SnapLoadsUptoSaid : Prop := snapLoadsUptoRow.holds Try.pinned (OpenSpec.upto snapLoadsSpec)

/-- 'purserlaw06.SnapTurns', WHERE WHAT IT READS IS OF BULK AT MOST 1048576: true; the input reads as it did. -/
def snapTurnsUptoRow : OpenClaim := { program := "ytpfmadinijofeaa", sum := "a3884405b4fcd34ba24f1dbcac0ce7b089ecaa2cbcf996a5829f248e7bf43219", func := "purser/purserlaw06.SnapTurns", spec := "snapTurns", unfollowed := true, recurses := true, apart := false, narrowed := true }
def SnapTurnsUptoSaid : Prop := snapTurnsUptoRow.holds Try.pinned (OpenSpec.upto snapTurnsSpec)

/-- 'purserlaw05.FrameOpens', WHERE WHAT IT READS IS OF BULK AT MOST 1048576: true; the input reads as it did. -/
def frameOpensUptoRow : OpenClaim := { program := "ytpfmadinijofeaa", sum := "a3884405b4fcd34ba24f1dbcac0ce7b089ecaa2cbcf996a5829f248e7bf43219", func := "purser/purserlaw05.FrameOpens", spec := "frameOpens", unfollowed := true, recurses := true, apart := false, narrowed := true }
def FrameOpensUptoSaid : Prop := frameOpensUptoRow.holds Try.pinned (OpenSpec.upto frameOpensSpec)

/-- 'purserlaw06.SnapSaves', WHERE WHAT IT READS IS OF BULK AT MOST 1048576: true; the input reads as it did. -/
def snapSavesUptoRow : OpenClaim := { program := "ytpfmadinijofeaa", sum := "a3884405b4fcd34ba24f1dbcac0ce7b089ecaa2cbcf996a5829f248e7bf43219", func := "purser/purserlaw06.SnapSaves", spec := "snapSaves", unfollowed := true, recurses := true, apart := false, narrowed := true }
def SnapSavesUptoSaid : Prop := snapSavesUptoRow.holds Try.pinned (OpenSpec.upto snapSavesSpec)

/-- 'purserlaw06.SnapFalls', WHERE WHAT IT READS IS OF BULK AT MOST 1048576: true; the input reads as it did. -/
def snapFallsUptoRow : OpenClaim := { program := "ytpfmadinijofeaa", sum := "a3884405b4fcd34ba24f1dbcac0ce7b089ecaa2cbcf996a5829f248e7bf43219", func := "purser/purserlaw06.SnapFalls", spec := "snapFalls", unfollowed := true, recurses := true, apart := false, narrowed := true }
def SnapFallsUptoSaid : Prop := snapFallsUptoRow.holds Try.pinned (OpenSpec.upto snapFallsSpec)

/-- 'purserlaw05.FrameLays', WHERE WHAT IT READS IS OF BULK AT MOST 1048576: true; the input reads as it did. -/
def frameLaysUptoRow : OpenClaim := { program := "ytpfmadinijofeaa", sum := "a3884405b4fcd34ba24f1dbcac0ce7b089ecaa2cbcf996a5829f248e7bf43219", func := "purser/purserlaw05.FrameLays", spec := "frameLays", unfollowed := true, recurses := true, apart := false, narrowed := true }
def FrameLaysUptoSaid : Prop := frameLaysUptoRow.holds Try.pinned (OpenSpec.upto frameLaysSpec)

/-- 'purserlaw05.FrameGens', WHERE WHAT IT READS IS OF BULK AT MOST 1048576: true; the input reads as it did. -/
def frameGensUptoRow : OpenClaim := { program := "ytpfmadinijofeaa", sum := "a3884405b4fcd34ba24f1dbcac0ce7b089ecaa2cbcf996a5829f248e7bf43219", func := "purser/purserlaw05.FrameGens", spec := "frameGens", unfollowed := true, recurses := true, apart := false, narrowed := true }
def FrameGensUptoSaid : Prop := frameGensUptoRow.holds Try.pinned (OpenSpec.upto frameGensSpec)

/-- 'purserlaw05.FrameFalls', WHERE WHAT IT READS IS OF BULK AT MOST 1048576: true; the input reads as it did. -/
def frameFallsUptoRow : OpenClaim := { program := "ytpfmadinijofeaa", sum := "a3884405b4fcd34ba24f1dbcac0ce7b089ecaa2cbcf996a5829f248e7bf43219", func := "purser/purserlaw05.FrameFalls", spec := "frameFalls", unfollowed := true, recurses := true, apart := false, narrowed := true }
def FrameFallsUptoSaid : Prop := frameFallsUptoRow.holds Try.pinned (OpenSpec.upto frameFallsSpec)

/-- 'purserlaw05.FrameForged', WHERE WHAT IT READS IS OF BULK AT MOST 1048576: true; the input reads as it did. -/
def frameForgedUptoRow : OpenClaim := { program := "ytpfmadinijofeaa", sum := "a3884405b4fcd34ba24f1dbcac0ce7b089ecaa2cbcf996a5829f248e7bf43219", func := "purser/purserlaw05.FrameForged", spec := "frameForged", unfollowed := true, recurses := true, apart := false, narrowed := true }
def FrameForgedUptoSaid : Prop := frameForgedUptoRow.holds Try.pinned (OpenSpec.upto frameForgedSpec)

/-- 'pursertop.PurserSlots', WHERE WHAT IT READS IS OF BULK AT MOST 1048576: true; the input reads as it did. -/
def purserSlotsUptoRow : OpenClaim := { program := "ytpfmadinijofeaa", sum := "a3884405b4fcd34ba24f1dbcac0ce7b089ecaa2cbcf996a5829f248e7bf43219", func := "purser/pursertop.PurserSlots", spec := "purserSlots", unfollowed := true, recurses := true, apart := false, narrowed := true }
def PurserSlotsUptoSaid : Prop := purserSlotsUptoRow.holds Try.pinned (OpenSpec.upto purserSlotsSpec)

end Rows
end Go.Proofs.Ytpfmadinijofeaa
