/-
  No cell of these rows narrows 'for every input' (looked for: loops, veiled, ifaces, maps, wideKeys, modest, calm, conditions, laid).
  DERIVED. THE GIVEN ROWS OF THIS SEAT. 4 by the template 'for every input the law returns true; each argument reads behind the call as it read before'; 0 by the template 'total and deterministic' (their statements: YtkggnbabnfhcpaaTotals.lean).
  GIVEN WITH THE SEED: the statements are not yours to turn. If you find one false, say at which input.
  Laid BY PROGRAM, IN A SANDBOX (cutbox-rows.mjs): the forced cells as the released guide's own fill.sh prints them over the translation dc36f31018c58978… (all of the seat's roots in one cut). By AI agents, Wed Nov 11 2026. No macro, syntax, notation, axiom, sorry.
-/
import Derived.Test.YtkggnbabnfhcpaaChecked
import GoSem.Claim
import GoSem.ClaimJoined
import GoSem.ClaimMapViews
import Derived.JoinedTies
import Derived.KernelRfl
namespace Go.Proofs.Ytkggnbabnfhcpaa
/- THE CELL 'sum', in the pinned program and in every row, IS THE sha256 OF THE DUMP (.gsa) THAT YtkggnbabnfhcpaaProg.lean LOADS. Nothing in Lean hashes anything: it is a label: what it is worth is what the hold of that sum in a sandbox is worth. -/
noncomputable def Try.pinned : Pinned := { name := "ytkggnbabnfhcpaa", sum := "dc36f31018c58978e318d3f41c7f15c306998c0e80ead940aa760576e7c511d3", checked := Try.checked }
namespace Rows
def none {H : Type} : Left H := { results := [], args := [] }

/-- 'purserlaw22.WireAsks': WHATEVER THE INPUT: true; the input reads as it did. -/
def wireAsksSpec : ChangeSpec := { name := "wireAsks", fn := fun _ => fun
  | [d] => { results := [.lit (.bool true)], args := [d] }
  | _ => none }
def wireAsksRow : OpenClaim := { program := "ytkggnbabnfhcpaa", sum := "dc36f31018c58978e318d3f41c7f15c306998c0e80ead940aa760576e7c511d3", func := "purser/purserlaw22.WireAsks", spec := "wireAsks", apart := false }
def WireAsksSaid : Prop := wireAsksRow.holds Try.pinned (OpenSpec.ofChange wireAsksSpec)

/-- ITS FALSE NEIGHBOUR: 'it returns false'. Refute it at one input. -/
def wireAsksWrong : ChangeSpec := { name := "wireAsks", fn := fun _ => fun
  | [d] => { results := [.lit (.bool false)], args := [d] }
  | _ => none }
def WireAsksWrongFalsely : Prop := wireAsksRow.holds Try.pinned (OpenSpec.ofChange wireAsksWrong)

/-- 'purserlaw22.WireAsked': WHATEVER THE INPUT: true; the input reads as it did. -/
def wireAskedSpec : ChangeSpec := { name := "wireAsked", fn := fun _ => fun
  | [d] => { results := [.lit (.bool true)], args := [d] }
  | _ => none }
def wireAskedRow : OpenClaim := { program := "ytkggnbabnfhcpaa", sum := "dc36f31018c58978e318d3f41c7f15c306998c0e80ead940aa760576e7c511d3", func := "purser/purserlaw22.WireAsked", spec := "wireAsked", apart := false }
def WireAskedSaid : Prop := wireAskedRow.holds Try.pinned (OpenSpec.ofChange wireAskedSpec)

/-- ITS FALSE NEIGHBOUR: 'it returns false'. Refute it at one input. -/
def wireAskedWrong : ChangeSpec := { name := "wireAsked", fn := fun _ => fun
  | [d] => { results := [.lit (.bool false)], args := [d] }
  | _ => none }
def WireAskedWrongFalsely : Prop := wireAskedRow.holds Try.pinned (OpenSpec.ofChange wireAskedWrong)

/-- 'purserlaw22.WireTells': WHATEVER THE INPUT: true; the input reads as it did. -/
def wireTellsSpec : ChangeSpec := { name := "wireTells", fn := fun _ => fun
  | [d1, d2] => { results := [.lit (.bool true)], args := [d1, d2] }
  | _ => none }
def wireTellsRow : OpenClaim := { program := "ytkggnbabnfhcpaa", sum := "dc36f31018c58978e318d3f41c7f15c306998c0e80ead940aa760576e7c511d3", func := "purser/purserlaw22.WireTells", spec := "wireTells", apart := false }
def WireTellsSaid : Prop := wireTellsRow.holds Try.pinned (OpenSpec.ofChange wireTellsSpec)

/-- ITS FALSE NEIGHBOUR: 'it returns false'. Refute it at one input. -/
def wireTellsWrong : ChangeSpec := { name := "wireTells", fn := fun _ => fun
  | [d1, d2] => { results := [.lit (.bool false)], args := [d1, d2] }
  | _ => none }
def WireTellsWrongFalsely : Prop := wireTellsRow.holds Try.pinned (OpenSpec.ofChange wireTellsWrong)

/-- 'purserlaw22.WireTold': WHATEVER THE INPUT: true; the input reads as it did. -/
def wireToldSpec : ChangeSpec := { name := "wireTold", fn := fun _ => fun
  | [d] => { results := [.lit (.bool true)], args := [d] }
  | _ => none }
def wireToldRow : OpenClaim := { program := "ytkggnbabnfhcpaa", sum := "dc36f31018c58978e318d3f41c7f15c306998c0e80ead940aa760576e7c511d3", func := "purser/purserlaw22.WireTold", spec := "wireTold", apart := false }
def WireToldSaid : Prop := wireToldRow.holds Try.pinned (OpenSpec.ofChange wireToldSpec)

/-- ITS FALSE NEIGHBOUR: 'it returns false'. Refute it at one input. -/
def wireToldWrong : ChangeSpec := { name := "wireTold", fn := fun _ => fun
  | [d] => { results := [.lit (.bool false)], args := [d] }
  | _ => none }
def WireToldWrongFalsely : Prop := wireToldRow.holds Try.pinned (OpenSpec.ofChange wireToldWrong)

/- THE SECOND FORM. 'bulk': how many values and letters a reading holds, each counted each time it is reached (what is shared counts as often as it is met; a slice's spare places count too). A statement '..UptoSaid' is the law's where the arguments, and the package variables that the reading takes, are together of bulk at most 1048576: NARROWER than '..Said'. Prove '..Said' where nothing that the law and all that it calls make is longer than what came in: it says more and counts as full. Else prove '..UptoSaid'. A law counts once. -/
mutual
def uptoBulk {H : Type} : DataW H → Nat
  | .lit (.string bytes) => bytes.length + 1
  | .lit _ => 1
  | .nil => 1
  | .ptr d => uptoBulk d + 1
  | .slice elems spare => uptoBulkAll elems + uptoBulkAll spare + 1
  | .agg parts => uptoBulkAll parts + 1
  | .iface _ d => uptoBulk d + 1
  | .map entries => uptoBulkEntries entries + 1
  | .held _ => 1
def uptoBulkAll {H : Type} : List (DataW H) → Nat
  | [] => 0
  | d :: r => uptoBulk d + uptoBulkAll r
def uptoBulkEntries {H : Type} : List (Lit × DataW H) → Nat
  | [] => 0
  | x :: r => uptoBulkEntry x + uptoBulkEntries r
def uptoBulkEntry {H : Type} : Lit × DataW H → Nat
  | (.string bytes, d) => bytes.length + uptoBulk d + 1
  | (_, d) => uptoBulk d + 1
 end
def uptoSmall : (H : Type) → List (DataW H) → Bool := fun _ ds => decide (uptoBulkAll ds ≤ 1048576)
def OpenSpec.upto (s : _root_.Go.ChangeSpec) : _root_.Go.OpenSpec := { _root_.Go.OpenSpec.ofChange s with cond := some uptoSmall }

/-- 'purserlaw22.WireAsks', WHERE WHAT IT READS IS OF BULK AT MOST 1048576: true; the input reads as it did. -/
def wireAsksUptoRow : OpenClaim := { program := "ytkggnbabnfhcpaa", sum := "dc36f31018c58978e318d3f41c7f15c306998c0e80ead940aa760576e7c511d3", func := "purser/purserlaw22.WireAsks", spec := "wireAsks", apart := false, narrowed := true }
def WireAsksUptoSaid : Prop := wireAsksUptoRow.holds Try.pinned (OpenSpec.upto wireAsksSpec)

/-- 'purserlaw22.WireAsked', WHERE WHAT IT READS IS OF BULK AT MOST 1048576: true; the input reads as it did. -/
def wireAskedUptoRow : OpenClaim := { program := "ytkggnbabnfhcpaa", sum := "dc36f31018c58978e318d3f41c7f15c306998c0e80ead940aa760576e7c511d3", func := "purser/purserlaw22.WireAsked", spec := "wireAsked", apart := false, narrowed := true }
def WireAskedUptoSaid : Prop := wireAskedUptoRow.holds Try.pinned (OpenSpec.upto wireAskedSpec)

/-- 'purserlaw22.WireTells', WHERE WHAT IT READS IS OF BULK AT MOST 1048576: true; the input reads as it did. -/
def wireTellsUptoRow : OpenClaim := { program := "ytkggnbabnfhcpaa", sum := "dc36f31018c58978e318d3f41c7f15c306998c0e80ead940aa760576e7c511d3", func := "purser/purserlaw22.WireTells", spec := "wireTells", apart := false, narrowed := true }
def WireTellsUptoSaid : Prop := wireTellsUptoRow.holds Try.pinned (OpenSpec.upto wireTellsSpec)

/-- 'purserlaw22.WireTold', WHERE WHAT IT READS IS OF BULK AT MOST 1048576: true; the input reads as it did. -/
def wireToldUptoRow : OpenClaim := { program := "ytkggnbabnfhcpaa", sum := "dc36f31018c58978e318d3f41c7f15c306998c0e80ead940aa760576e7c511d3", func := "purser/purserlaw22.WireTold", spec := "wireTold", apart := false, narrowed := true }
def WireToldUptoSaid : Prop := wireToldUptoRow.holds Try.pinned (OpenSpec.upto wireToldSpec)

end Rows
end Go.Proofs.Ytkggnbabnfhcpaa
