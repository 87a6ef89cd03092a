/-
  No cell of these rows narrows 'for every input' (looked for: loops, veiled, ifaces, maps, wideKeys, modest, calm, conditions, laid).
  DERIVED. THE GIVEN ROWS OF THIS SEAT. 4 by the template 'for every input the law returns true; each argument reads behind the call as it read before'; 0 by the template 'total and deterministic' (their statements: YtbcafgglgjhckaaTotals.lean).
  GIVEN WITH THE SEED: the statements are not yours to turn. If you find one false, say at which input.
  Laid BY PROGRAM, IN A SANDBOX (cutbox-rows.mjs): the forced cells as the released guide's own fill.sh prints them over the translation 6dcb98fe5115042e… (all of the seat's roots in one cut). By AI agents, Wed Nov 11 2026. No macro, syntax, notation, axiom, sorry.
-/
import Derived.Test.YtbcafgglgjhckaaChecked
import GoSem.Claim
import GoSem.ClaimJoined
import GoSem.ClaimMapViews
import Derived.JoinedTies
import Derived.KernelRfl
namespace Go.Proofs.Ytbcafgglgjhckaa
/- THE CELL 'sum', in the pinned program and in every row, IS THE sha256 OF THE DUMP (.gsa) THAT YtbcafgglgjhckaaProg.lean LOADS. Nothing in Lean hashes anything: it is a label: what it is worth is what the hold of that sum in a sandbox is worth. -/
noncomputable def Try.pinned : Pinned := { name := "ytbcafgglgjhckaa", sum := "6dcb98fe5115042ebdf05b7a3272c483790d5cd98ade211f5b8831f326e63508", checked := Try.checked }
namespace Rows
def none {H : Type} : Left H := { results := [], args := [] }

/-- 'purserlaw12.RhythmJoins': WHATEVER THE INPUT: true; the input reads as it did. -/
def rhythmJoinsSpec : ChangeSpec := { name := "rhythmJoins", fn := fun _ => fun
  | [d1, d2, d3] => { results := [.lit (.bool true)], args := [d1, d2, d3] }
  | _ => none }
def rhythmJoinsRow : OpenClaim := { program := "ytbcafgglgjhckaa", sum := "6dcb98fe5115042ebdf05b7a3272c483790d5cd98ade211f5b8831f326e63508", func := "purser/purserlaw12.RhythmJoins", spec := "rhythmJoins", apart := false }
def RhythmJoinsSaid : Prop := rhythmJoinsRow.holds Try.pinned (OpenSpec.ofChange rhythmJoinsSpec)

/-- ITS FALSE NEIGHBOUR: 'it returns false'. Refute it at one input. -/
def rhythmJoinsWrong : ChangeSpec := { name := "rhythmJoins", fn := fun _ => fun
  | [d1, d2, d3] => { results := [.lit (.bool false)], args := [d1, d2, d3] }
  | _ => none }
def RhythmJoinsWrongFalsely : Prop := rhythmJoinsRow.holds Try.pinned (OpenSpec.ofChange rhythmJoinsWrong)

/-- 'purserlaw12.RhythmVectors': WHATEVER THE INPUT: true; the input reads as it did. -/
def rhythmVectorsSpec : ChangeSpec := { name := "rhythmVectors", fn := fun _ => fun
  | [d] => { results := [.lit (.bool true)], args := [d] }
  | _ => none }
def rhythmVectorsRow : OpenClaim := { program := "ytbcafgglgjhckaa", sum := "6dcb98fe5115042ebdf05b7a3272c483790d5cd98ade211f5b8831f326e63508", func := "purser/purserlaw12.RhythmVectors", spec := "rhythmVectors", inPlace := ["math/bits.Add64"], apart := false }
def RhythmVectorsSaid : Prop := rhythmVectorsRow.holds Try.pinned (OpenSpec.ofChange rhythmVectorsSpec)

/-- ITS FALSE NEIGHBOUR: 'it returns false'. Refute it at one input. -/
def rhythmVectorsWrong : ChangeSpec := { name := "rhythmVectors", fn := fun _ => fun
  | [d] => { results := [.lit (.bool false)], args := [d] }
  | _ => none }
def RhythmVectorsWrongFalsely : Prop := rhythmVectorsRow.holds Try.pinned (OpenSpec.ofChange rhythmVectorsWrong)

/-- 'purserlaw12.RhythmTurns': WHATEVER THE INPUT: true; the input reads as it did. -/
def rhythmTurnsSpec : ChangeSpec := { name := "rhythmTurns", fn := fun _ => fun
  | [d1, d2] => { results := [.lit (.bool true)], args := [d1, d2] }
  | _ => none }
def rhythmTurnsRow : OpenClaim := { program := "ytbcafgglgjhckaa", sum := "6dcb98fe5115042ebdf05b7a3272c483790d5cd98ade211f5b8831f326e63508", func := "purser/purserlaw12.RhythmTurns", spec := "rhythmTurns", inPlace := ["math/bits.Add64"], apart := false }
def RhythmTurnsSaid : Prop := rhythmTurnsRow.holds Try.pinned (OpenSpec.ofChange rhythmTurnsSpec)

/-- ITS FALSE NEIGHBOUR: 'it returns false'. Refute it at one input. -/
def rhythmTurnsWrong : ChangeSpec := { name := "rhythmTurns", fn := fun _ => fun
  | [d1, d2] => { results := [.lit (.bool false)], args := [d1, d2] }
  | _ => none }
def RhythmTurnsWrongFalsely : Prop := rhythmTurnsRow.holds Try.pinned (OpenSpec.ofChange rhythmTurnsWrong)

/-- 'purserlaw12.RhythmAdds': WHATEVER THE INPUT: true; the input reads as it did. -/
def rhythmAddsSpec : ChangeSpec := { name := "rhythmAdds", fn := fun _ => fun
  | [d1, d2, d3] => { results := [.lit (.bool true)], args := [d1, d2, d3] }
  | _ => none }
def rhythmAddsRow : OpenClaim := { program := "ytbcafgglgjhckaa", sum := "6dcb98fe5115042ebdf05b7a3272c483790d5cd98ade211f5b8831f326e63508", func := "purser/purserlaw12.RhythmAdds", spec := "rhythmAdds", inPlace := ["math/bits.Add64"], apart := false }
def RhythmAddsSaid : Prop := rhythmAddsRow.holds Try.pinned (OpenSpec.ofChange rhythmAddsSpec)

/-- ITS FALSE NEIGHBOUR: 'it returns false'. Refute it at one input. -/
def rhythmAddsWrong : ChangeSpec := { name := "rhythmAdds", fn := fun _ => fun
  | [d1, d2, d3] => { results := [.lit (.bool false)], args := [d1, d2, d3] }
  | _ => none }
def RhythmAddsWrongFalsely : Prop := rhythmAddsRow.holds Try.pinned (OpenSpec.ofChange rhythmAddsWrong)

/- THE SECOND FORM. 'bulk': how many values and letters a reading holds, each counted each time it is reached (what is shared counts as often as it is met; a slice's spare places count too). A statement '..UptoSaid' is the law's where the arguments, and the package variables that the reading takes, are together of bulk at most 1048576: NARROWER than '..Said'. Prove '..Said' where nothing that the law and all that it calls make is longer than what came in: it says more and counts as full. Else prove '..UptoSaid'. A law counts once. -/
mutual
def uptoBulk {H : Type} : DataW H → Nat
  | .lit (.string bytes) => bytes.length + 1
  | .lit _ => 1
  | .nil => 1
  | .ptr d => uptoBulk d + 1
  | .slice elems spare => uptoBulkAll elems + uptoBulkAll spare + 1
  | .agg parts => uptoBulkAll parts + 1
  | .iface _ d => uptoBulk d + 1
  | .map entries => uptoBulkEntries entries + 1
  | .held _ => 1
def uptoBulkAll {H : Type} : List (DataW H) → Nat
  | [] => 0
  | d :: r => uptoBulk d + uptoBulkAll r
def uptoBulkEntries {H : Type} : List (Lit × DataW H) → Nat
  | [] => 0
  | x :: r => uptoBulkEntry x + uptoBulkEntries r
def uptoBulkEntry {H : Type} : Lit × DataW H → Nat
  | (.string bytes, d) => bytes.length + uptoBulk d + 1
  | (_, d) => uptoBulk d + 1
 end
def uptoSmall : (H : Type) → List (DataW H) → Bool := fun _ ds => decide (uptoBulkAll ds ≤ 1048576)
def OpenSpec.upto (s : _root_.Go.ChangeSpec) : _root_.Go.OpenSpec := { _root_.Go.OpenSpec.ofChange s with cond := some uptoSmall }

/-- 'purserlaw12.RhythmJoins', WHERE WHAT IT READS IS OF BULK AT MOST 1048576: true; the input reads as it did. -/
def rhythmJoinsUptoRow : OpenClaim := { program := "ytbcafgglgjhckaa", sum := "6dcb98fe5115042ebdf05b7a3272c483790d5cd98ade211f5b8831f326e63508", func := "purser/purserlaw12.RhythmJoins", spec := "rhythmJoins", apart := false, narrowed := true }
def RhythmJoinsUptoSaid : Prop := rhythmJoinsUptoRow.holds Try.pinned (OpenSpec.upto rhythmJoinsSpec)

/-- 'purserlaw12.RhythmVectors', WHERE WHAT IT READS IS OF BULK AT MOST 1048576: true; the input reads as it did. -/
def rhythmVectorsUptoRow : OpenClaim := { program := "ytbcafgglgjhckaa", sum := "6dcb98fe5115042ebdf05b7a3272c483790d5cd98ade211f5b8831f326e63508", func := "purser/purserlaw12.RhythmVectors", spec := "rhythmVectors", inPlace := ["math/bits.Add64"], apart := false, narrowed := true }
def RhythmVectorsUptoSaid : Prop := rhythmVectorsUptoRow.holds Try.pinned (OpenSpec.upto rhythmVectorsSpec)

/-- 'purserlaw12.RhythmTurns', WHERE WHAT IT READS IS OF BULK AT MOST 1048576: true; the input reads as it did. -/
def rhythmTurnsUptoRow : OpenClaim := { program := "ytbcafgglgjhckaa", sum := "6dcb98fe5115042ebdf05b7a3272c483790d5cd98ade211f5b8831f326e63508", func := "purser/purserlaw12.RhythmTurns", spec := "rhythmTurns", inPlace := ["math/bits.Add64"], apart := false, narrowed := true }
def RhythmTurnsUptoSaid : Prop := rhythmTurnsUptoRow.holds Try.pinned (OpenSpec.upto rhythmTurnsSpec)

/-- 'purserlaw12.RhythmAdds', WHERE WHAT IT READS IS OF BULK AT MOST 1048576: true; the input reads as it did. -/
def rhythmAddsUptoRow : OpenClaim := { program := "ytbcafgglgjhckaa", sum := "6dcb98fe5115042ebdf05b7a3272c483790d5cd98ade211f5b8831f326e63508", func := "purser/purserlaw12.RhythmAdds", spec := "rhythmAdds", inPlace := ["math/bits.Add64"], apart := false, narrowed := true }
def RhythmAddsUptoSaid : Prop := rhythmAddsUptoRow.holds Try.pinned (OpenSpec.upto rhythmAddsSpec)

end Rows
end Go.Proofs.Ytbcafgglgjhckaa
