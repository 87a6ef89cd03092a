/-
  No cell of these rows narrows 'for every input' (looked for: loops, veiled, ifaces, maps, wideKeys, modest, calm, conditions, laid).
  DERIVED. THE GIVEN ROWS OF THIS SEAT. 8 by the template 'for every input the law returns true; each argument reads behind the call as it read before'; 0 by the template 'total and deterministic' (their statements: YtamlgnhnmilbdaaTotals.lean).
  GIVEN WITH THE SEED: the statements are not yours to turn. If you find one false, say at which input.
  Laid BY PROGRAM, IN A SANDBOX (cutbox-rows.mjs): the forced cells as the released guide's own fill.sh prints them over the translation fda1463fafbd9b93… (all of the seat's roots in one cut). By AI agents, Wed Nov 11 2026. No macro, syntax, notation, axiom, sorry.
-/
import Derived.Test.YtamlgnhnmilbdaaChecked
import GoSem.Claim
import GoSem.ClaimJoined
import GoSem.ClaimMapViews
import Derived.JoinedTies
import Derived.KernelRfl
namespace Go.Proofs.Ytamlgnhnmilbdaa
/- THE CELL 'sum', in the pinned program and in every row, IS THE sha256 OF THE DUMP (.gsa) THAT YtamlgnhnmilbdaaProg.lean LOADS. Nothing in Lean hashes anything: it is a label: what it is worth is what the hold of that sum in a sandbox is worth. -/
noncomputable def Try.pinned : Pinned := { name := "ytamlgnhnmilbdaa", sum := "fda1463fafbd9b93a163ca28b17d6aecee21dfb373ec802df70dd1e0ebd76319", checked := Try.checked }
namespace Rows
def none {H : Type} : Left H := { results := [], args := [] }

/-- 'purserlaw17.CreditTurns': WHATEVER THE INPUT: true; the input reads as it did. -/
def creditTurnsSpec : ChangeSpec := { name := "creditTurns", fn := fun _ => fun
  | [d1, d2] => { results := [.lit (.bool true)], args := [d1, d2] }
  | _ => none }
def creditTurnsRow : OpenClaim := { program := "ytamlgnhnmilbdaa", sum := "fda1463fafbd9b93a163ca28b17d6aecee21dfb373ec802df70dd1e0ebd76319", func := "purser/purserlaw17.CreditTurns", spec := "creditTurns", unfollowed := true, recurses := true, apart := false }
def CreditTurnsSaid : Prop := creditTurnsRow.holds Try.pinned (OpenSpec.ofChange creditTurnsSpec)

/-- ITS FALSE NEIGHBOUR: 'it returns false'. Refute it at one input. -/
def creditTurnsWrong : ChangeSpec := { name := "creditTurns", fn := fun _ => fun
  | [d1, d2] => { results := [.lit (.bool false)], args := [d1, d2] }
  | _ => none }
def CreditTurnsWrongFalsely : Prop := creditTurnsRow.holds Try.pinned (OpenSpec.ofChange creditTurnsWrong)

/-- 'purserlaw17.CreditActs': WHATEVER THE INPUT: true; the input reads as it did. -/
def creditActsSpec : ChangeSpec := { name := "creditActs", fn := fun _ => fun
  | [d1, d2, d3] => { results := [.lit (.bool true)], args := [d1, d2, d3] }
  | _ => none }
def creditActsRow : OpenClaim := { program := "ytamlgnhnmilbdaa", sum := "fda1463fafbd9b93a163ca28b17d6aecee21dfb373ec802df70dd1e0ebd76319", func := "purser/purserlaw17.CreditActs", spec := "creditActs", inPlace := ["math/bits.Add64"], unfollowed := true, recurses := true, apart := false }
def CreditActsSaid : Prop := creditActsRow.holds Try.pinned (OpenSpec.ofChange creditActsSpec)

/-- ITS FALSE NEIGHBOUR: 'it returns false'. Refute it at one input. -/
def creditActsWrong : ChangeSpec := { name := "creditActs", fn := fun _ => fun
  | [d1, d2, d3] => { results := [.lit (.bool false)], args := [d1, d2, d3] }
  | _ => none }
def CreditActsWrongFalsely : Prop := creditActsRow.holds Try.pinned (OpenSpec.ofChange creditActsWrong)

/-- 'purserlaw22.WireAsks': WHATEVER THE INPUT: true; the input reads as it did. -/
def wireAsksSpec : ChangeSpec := { name := "wireAsks", fn := fun _ => fun
  | [d] => { results := [.lit (.bool true)], args := [d] }
  | _ => none }
def wireAsksRow : OpenClaim := { program := "ytamlgnhnmilbdaa", sum := "fda1463fafbd9b93a163ca28b17d6aecee21dfb373ec802df70dd1e0ebd76319", func := "purser/purserlaw22.WireAsks", spec := "wireAsks", apart := false }
def WireAsksSaid : Prop := wireAsksRow.holds Try.pinned (OpenSpec.ofChange wireAsksSpec)

/-- ITS FALSE NEIGHBOUR: 'it returns false'. Refute it at one input. -/
def wireAsksWrong : ChangeSpec := { name := "wireAsks", fn := fun _ => fun
  | [d] => { results := [.lit (.bool false)], args := [d] }
  | _ => none }
def WireAsksWrongFalsely : Prop := wireAsksRow.holds Try.pinned (OpenSpec.ofChange wireAsksWrong)

/-- 'purserlaw22.WireAsked': WHATEVER THE INPUT: true; the input reads as it did. -/
def wireAskedSpec : ChangeSpec := { name := "wireAsked", fn := fun _ => fun
  | [d] => { results := [.lit (.bool true)], args := [d] }
  | _ => none }
def wireAskedRow : OpenClaim := { program := "ytamlgnhnmilbdaa", sum := "fda1463fafbd9b93a163ca28b17d6aecee21dfb373ec802df70dd1e0ebd76319", func := "purser/purserlaw22.WireAsked", spec := "wireAsked", apart := false }
def WireAskedSaid : Prop := wireAskedRow.holds Try.pinned (OpenSpec.ofChange wireAskedSpec)

/-- ITS FALSE NEIGHBOUR: 'it returns false'. Refute it at one input. -/
def wireAskedWrong : ChangeSpec := { name := "wireAsked", fn := fun _ => fun
  | [d] => { results := [.lit (.bool false)], args := [d] }
  | _ => none }
def WireAskedWrongFalsely : Prop := wireAskedRow.holds Try.pinned (OpenSpec.ofChange wireAskedWrong)

/-- 'purserlaw17.CreditReads': WHATEVER THE INPUT: true; the input reads as it did. -/
def creditReadsSpec : ChangeSpec := { name := "creditReads", fn := fun _ => fun
  | [d] => { results := [.lit (.bool true)], args := [d] }
  | _ => none }
def creditReadsRow : OpenClaim := { program := "ytamlgnhnmilbdaa", sum := "fda1463fafbd9b93a163ca28b17d6aecee21dfb373ec802df70dd1e0ebd76319", func := "purser/purserlaw17.CreditReads", spec := "creditReads", inPlace := ["math/bits.Add64"], unfollowed := true, recurses := true, apart := false }
def CreditReadsSaid : Prop := creditReadsRow.holds Try.pinned (OpenSpec.ofChange creditReadsSpec)

/-- ITS FALSE NEIGHBOUR: 'it returns false'. Refute it at one input. -/
def creditReadsWrong : ChangeSpec := { name := "creditReads", fn := fun _ => fun
  | [d] => { results := [.lit (.bool false)], args := [d] }
  | _ => none }
def CreditReadsWrongFalsely : Prop := creditReadsRow.holds Try.pinned (OpenSpec.ofChange creditReadsWrong)

/-- 'purserlaw17.CreditBack': WHATEVER THE INPUT: true; the input reads as it did. -/
def creditBackSpec : ChangeSpec := { name := "creditBack", fn := fun _ => fun
  | [d1, d2, d3] => { results := [.lit (.bool true)], args := [d1, d2, d3] }
  | _ => none }
def creditBackRow : OpenClaim := { program := "ytamlgnhnmilbdaa", sum := "fda1463fafbd9b93a163ca28b17d6aecee21dfb373ec802df70dd1e0ebd76319", func := "purser/purserlaw17.CreditBack", spec := "creditBack", inPlace := ["math/bits.Add64"], unfollowed := true, recurses := true, apart := false }
def CreditBackSaid : Prop := creditBackRow.holds Try.pinned (OpenSpec.ofChange creditBackSpec)

/-- ITS FALSE NEIGHBOUR: 'it returns false'. Refute it at one input. -/
def creditBackWrong : ChangeSpec := { name := "creditBack", fn := fun _ => fun
  | [d1, d2, d3] => { results := [.lit (.bool false)], args := [d1, d2, d3] }
  | _ => none }
def CreditBackWrongFalsely : Prop := creditBackRow.holds Try.pinned (OpenSpec.ofChange creditBackWrong)

/-- 'purserlaw22.WireTells': WHATEVER THE INPUT: true; the input reads as it did. -/
def wireTellsSpec : ChangeSpec := { name := "wireTells", fn := fun _ => fun
  | [d1, d2] => { results := [.lit (.bool true)], args := [d1, d2] }
  | _ => none }
def wireTellsRow : OpenClaim := { program := "ytamlgnhnmilbdaa", sum := "fda1463fafbd9b93a163ca28b17d6aecee21dfb373ec802df70dd1e0ebd76319", func := "purser/purserlaw22.WireTells", spec := "wireTells", apart := false }
def WireTellsSaid : Prop := wireTellsRow.holds Try.pinned (OpenSpec.ofChange wireTellsSpec)

/-- ITS FALSE NEIGHBOUR: 'it returns false'. Refute it at one input. -/
def wireTellsWrong : ChangeSpec := { name := "wireTells", fn := fun _ => fun
  | [d1, d2] => { results := [.lit (.bool false)], args := [d1, d2] }
  | _ => none }
def WireTellsWrongFalsely : Prop := wireTellsRow.holds Try.pinned (OpenSpec.ofChange wireTellsWrong)

/-- 'purserlaw22.WireTold': WHATEVER THE INPUT: true; the input reads as it did. -/
def wireToldSpec : ChangeSpec := { name := "wireTold", fn := fun _ => fun
  | [d] => { results := [.lit (.bool true)], args := [d] }
  | _ => none }
def wireToldRow : OpenClaim := { program := "ytamlgnhnmilbdaa", sum := "fda1463fafbd9b93a163ca28b17d6aecee21dfb373ec802df70dd1e0ebd76319", func := "purser/purserlaw22.WireTold", spec := "wireTold", apart := false }
def WireToldSaid : Prop := wireToldRow.holds Try.pinned (OpenSpec.ofChange wireToldSpec)

/-- ITS FALSE NEIGHBOUR: 'it returns false'. Refute it at one input. -/
def wireToldWrong : ChangeSpec := { name := "wireTold", fn := fun _ => fun
  | [d] => { results := [.lit (.bool false)], args := [d] }
  | _ => none }
def WireToldWrongFalsely : Prop := wireToldRow.holds Try.pinned (OpenSpec.ofChange wireToldWrong)

/- THE SECOND FORM. 'bulk': how many values and letters a reading holds, each counted each time it is reached (what is shared counts as often as it is met; a slice's spare places count too). A statement '..UptoSaid' is the law's where the arguments, and the package variables that the reading takes, are together of bulk at most 1048576: NARROWER than '..Said'. Prove '..Said' where nothing that the law and all that it calls make is longer than what came in: it says more and counts as full. Else prove '..UptoSaid'. A law counts once. -/
mutual
def uptoBulk {H : Type} : DataW H → Nat
  | .lit (.string bytes) => bytes.length + 1
  | .lit _ => 1
  | .nil => 1
  | .ptr d => uptoBulk d + 1
  | .slice elems spare => uptoBulkAll elems + uptoBulkAll spare + 1
  | .agg parts => uptoBulkAll parts + 1
  | .iface _ d => uptoBulk d + 1
  | .map entries => uptoBulkEntries entries + 1
  | .held _ => 1
def uptoBulkAll {H : Type} : List (DataW H) → Nat
  | [] => 0
  | d :: r => uptoBulk d + uptoBulkAll r
def uptoBulkEntries {H : Type} : List (Lit × DataW H) → Nat
  | [] => 0
  | x :: r => uptoBulkEntry x + uptoBulkEntries r
def uptoBulkEntry {H : Type} : Lit × DataW H → Nat
  | (.string bytes, d) => bytes.length + uptoBulk d + 1
  | (_, d) => uptoBulk d + 1
 end
def uptoSmall : (H : Type) → List (DataW H) → Bool := fun _ ds => decide (uptoBulkAll ds ≤ 1048576)
def OpenSpec.upto (s : _root_.Go.ChangeSpec) : _root_.Go.OpenSpec := { _root_.Go.OpenSpec.ofChange s with cond := some uptoSmall }

/-- 'purserlaw17.CreditTurns', WHERE WHAT IT READS IS OF BULK AT MOST 1048576: true; the input reads as it did. -/
def creditTurnsUptoRow : OpenClaim := { program := "ytamlgnhnmilbdaa", sum := "fda1463fafbd9b93a163ca28b17d6aecee21dfb373ec802df70dd1e0ebd76319", func := "purser/purserlaw17.CreditTurns", spec := "creditTurns", unfollowed := true, recurses := true, apart := false, narrowed := true }
def CreditTurnsUptoSaid : Prop := creditTurnsUptoRow.holds Try.pinned (OpenSpec.upto creditTurnsSpec)

/-- 'purserlaw17.CreditActs', WHERE WHAT IT READS IS OF BULK AT MOST 1048576: true; the input reads as it did. -/
def creditActsUptoRow : OpenClaim := { program := "ytamlgnhnmilbdaa", sum := "fda1463fafbd9b93a163ca28b17d6aecee21dfb373ec802df70dd1e0ebd76319", func := "purser/purserlaw17.CreditActs", spec := "creditActs", inPlace := ["math/bits.Add64"], unfollowed := true, recurses := true, apart := false, narrowed := true }
def CreditActsUptoSaid : Prop := creditActsUptoRow.holds Try.pinned (OpenSpec.upto creditActsSpec)

/-- 'purserlaw22.WireAsks', WHERE WHAT IT READS IS OF BULK AT MOST 1048576: true; the input reads as it did. -/
def wireAsksUptoRow : OpenClaim := { program := "ytamlgnhnmilbdaa", sum := "fda1463fafbd9b93a163ca28b17d6aecee21dfb373ec802df70dd1e0ebd76319", func := "purser/purserlaw22.WireAsks", spec := "wireAsks", apart := false, narrowed := true }
def WireAsksUptoSaid : Prop := wireAsksUptoRow.holds Try.pinned (OpenSpec.upto wireAsksSpec)

/-- 'purserlaw22.WireAsked', WHERE WHAT IT READS IS OF BULK AT MOST 1048576: true; the input reads as it did. -/
def wireAskedUptoRow : OpenClaim := { program := "ytamlgnhnmilbdaa", sum := "fda1463fafbd9b93a163ca28b17d6aecee21dfb373ec802df70dd1e0ebd76319", func := "purser/purserlaw22.WireAsked", spec := "wireAsked", apart := false, narrowed := true }
def WireAskedUptoSaid : Prop := wireAskedUptoRow.holds Try.pinned (OpenSpec.upto wireAskedSpec)

/-- 'purserlaw17.CreditReads', WHERE WHAT IT READS IS OF BULK AT MOST 1048576: true; the input reads as it did. -/
def creditReadsUptoRow : OpenClaim := { program := "ytamlgnhnmilbdaa", sum := "fda1463fafbd9b93a163ca28b17d6aecee21dfb373ec802df70dd1e0ebd76319", func := "purser/purserlaw17.CreditReads", spec := "creditReads", inPlace := ["math/bits.Add64"], unfollowed := true, recurses := true, apart := false, narrowed := true }
def CreditReadsUptoSaid : Prop := creditReadsUptoRow.holds Try.pinned (OpenSpec.upto creditReadsSpec)

/-- 'purserlaw17.CreditBack', WHERE WHAT IT READS IS OF BULK AT MOST 1048576: true; the input reads as it did. -/
def creditBackUptoRow : OpenClaim := { program := "ytamlgnhnmilbdaa", sum := "fda1463fafbd9b93a163ca28b17d6aecee21dfb373ec802df70dd1e0ebd76319", func := "purser/purserlaw17.CreditBack", spec := "creditBack", inPlace := ["math/bits.Add64"], unfollowed := true, recurses := true, apart := false, narrowed := true }
def CreditBackUptoSaid : Prop := creditBackUptoRow.holds Try.pinned (OpenSpec.upto creditBackSpec)

/-- 'purserlaw22.WireTells', WHERE WHAT IT READS IS OF BULK AT MOST 1048576: true; the input reads as it did. -/
def wireTellsUptoRow : OpenClaim := { program := "ytamlgnhnmilbdaa", sum := "fda1463fafbd9b93a163ca28b17d6aecee21dfb373ec802df70dd1e0ebd76319", func := "purser/purserlaw22.WireTells", spec := "wireTells", apart := false, narrowed := true }
def WireTellsUptoSaid : Prop := wireTellsUptoRow.holds Try.pinned (OpenSpec.upto wireTellsSpec)

/-- 'purserlaw22.WireTold', WHERE WHAT IT READS IS OF BULK AT MOST 1048576: true; the input reads as it did. -/
def wireToldUptoRow : OpenClaim := { program := "ytamlgnhnmilbdaa", sum := "fda1463fafbd9b93a163ca28b17d6aecee21dfb373ec802df70dd1e0ebd76319", func := "purser/purserlaw22.WireTold", spec := "wireTold", apart := false, narrowed := true }
def WireToldUptoSaid : Prop := wireToldUptoRow.holds Try.pinned (OpenSpec.upto wireToldSpec)

end Rows
end Go.Proofs.Ytamlgnhnmilbdaa
