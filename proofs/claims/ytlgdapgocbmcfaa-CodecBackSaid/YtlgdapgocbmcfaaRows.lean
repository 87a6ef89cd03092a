/-
  No cell of these rows narrows 'for every input' (looked for: loops, veiled, ifaces, maps, wideKeys, modest, calm, conditions, laid).
  DERIVED. THE GIVEN ROWS OF THIS SEAT. 12 by the template 'for every input the law returns true; each argument reads behind the call as it read before'; 0 by the template 'total and deterministic' (their statements: YtlgdapgocbmcfaaTotals.lean).
  GIVEN WITH THE SEED: the statements are not yours to turn. If you find one false, say at which input.
  Laid BY PROGRAM, IN A SANDBOX (cutbox-rows.mjs): the forced cells as the released guide's own fill.sh prints them over the translation 16fe36ff668648db… (all of the seat's roots in one cut). By AI agents, Wed Nov 11 2026. No macro, syntax, notation, axiom, sorry.
-/
import Derived.Test.YtlgdapgocbmcfaaChecked
import GoSem.Claim
import GoSem.ClaimJoined
import GoSem.ClaimMapViews
import Derived.JoinedTies
import Derived.KernelRfl
namespace Go.Proofs.Ytlgdapgocbmcfaa
/- THE CELL 'sum', in the pinned program and in every row, IS THE sha256 OF THE DUMP (.gsa) THAT YtlgdapgocbmcfaaProg.lean LOADS. Nothing in Lean hashes anything: it is a label: what it is worth is what the hold of that sum in a sandbox is worth. -/
noncomputable def Try.pinned : Pinned := { name := "ytlgdapgocbmcfaa", sum := "16fe36ff668648db6be9f87ac09c4d51372445c2bac1ab61d9681a41ca2f0a43", checked := Try.checked }
namespace Rows
def none {H : Type} : Left H := { results := [], args := [] }

/-- 'purserlaw01.ArithSums': WHATEVER THE INPUT: true; the input reads as it did. -/
def arithSumsSpec : ChangeSpec := { name := "arithSums", fn := fun _ => fun
  | [d] => { results := [.lit (.bool true)], args := [d] }
  | _ => none }
def arithSumsRow : OpenClaim := { program := "ytlgdapgocbmcfaa", sum := "16fe36ff668648db6be9f87ac09c4d51372445c2bac1ab61d9681a41ca2f0a43", func := "purser/purserlaw01.ArithSums", spec := "arithSums", inPlace := ["math/bits.Add64"], apart := false }
def ArithSumsSaid : Prop := arithSumsRow.holds Try.pinned (OpenSpec.ofChange arithSumsSpec)

/-- ITS FALSE NEIGHBOUR: 'it returns false'. Refute it at one input. -/
def arithSumsWrong : ChangeSpec := { name := "arithSums", fn := fun _ => fun
  | [d] => { results := [.lit (.bool false)], args := [d] }
  | _ => none }
def ArithSumsWrongFalsely : Prop := arithSumsRow.holds Try.pinned (OpenSpec.ofChange arithSumsWrong)

/-- 'purserlaw02.CrcSums': WHATEVER THE INPUT: true; the input reads as it did. -/
def crcSumsSpec : ChangeSpec := { name := "crcSums", fn := fun _ => fun
  | [d] => { results := [.lit (.bool true)], args := [d] }
  | _ => none }
def crcSumsRow : OpenClaim := { program := "ytlgdapgocbmcfaa", sum := "16fe36ff668648db6be9f87ac09c4d51372445c2bac1ab61d9681a41ca2f0a43", func := "purser/purserlaw02.CrcSums", spec := "crcSums", apart := false }
def CrcSumsSaid : Prop := crcSumsRow.holds Try.pinned (OpenSpec.ofChange crcSumsSpec)

/-- ITS FALSE NEIGHBOUR: 'it returns false'. Refute it at one input. -/
def crcSumsWrong : ChangeSpec := { name := "crcSums", fn := fun _ => fun
  | [d] => { results := [.lit (.bool false)], args := [d] }
  | _ => none }
def CrcSumsWrongFalsely : Prop := crcSumsRow.holds Try.pinned (OpenSpec.ofChange crcSumsWrong)

/-- 'purserlaw02.CrcGoes': WHATEVER THE INPUT: true; the input reads as it did. -/
def crcGoesSpec : ChangeSpec := { name := "crcGoes", fn := fun _ => fun
  | [d1, d2] => { results := [.lit (.bool true)], args := [d1, d2] }
  | _ => none }
def crcGoesRow : OpenClaim := { program := "ytlgdapgocbmcfaa", sum := "16fe36ff668648db6be9f87ac09c4d51372445c2bac1ab61d9681a41ca2f0a43", func := "purser/purserlaw02.CrcGoes", spec := "crcGoes", apart := false }
def CrcGoesSaid : Prop := crcGoesRow.holds Try.pinned (OpenSpec.ofChange crcGoesSpec)

/-- ITS FALSE NEIGHBOUR: 'it returns false'. Refute it at one input. -/
def crcGoesWrong : ChangeSpec := { name := "crcGoes", fn := fun _ => fun
  | [d1, d2] => { results := [.lit (.bool false)], args := [d1, d2] }
  | _ => none }
def CrcGoesWrongFalsely : Prop := crcGoesRow.holds Try.pinned (OpenSpec.ofChange crcGoesWrong)

/-- 'purserlaw02.CrcBits': WHATEVER THE INPUT: true; the input reads as it did. -/
def crcBitsSpec : ChangeSpec := { name := "crcBits", fn := fun _ => fun
  | [d1, d2, d3] => { results := [.lit (.bool true)], args := [d1, d2, d3] }
  | _ => none }
def crcBitsRow : OpenClaim := { program := "ytlgdapgocbmcfaa", sum := "16fe36ff668648db6be9f87ac09c4d51372445c2bac1ab61d9681a41ca2f0a43", func := "purser/purserlaw02.CrcBits", spec := "crcBits", apart := false }
def CrcBitsSaid : Prop := crcBitsRow.holds Try.pinned (OpenSpec.ofChange crcBitsSpec)

/-- ITS FALSE NEIGHBOUR: 'it returns false'. Refute it at one input. -/
def crcBitsWrong : ChangeSpec := { name := "crcBits", fn := fun _ => fun
  | [d1, d2, d3] => { results := [.lit (.bool false)], args := [d1, d2, d3] }
  | _ => none }
def CrcBitsWrongFalsely : Prop := crcBitsRow.holds Try.pinned (OpenSpec.ofChange crcBitsWrong)

/-- 'purserlaw02.CrcAny': WHATEVER THE INPUT: true; the input reads as it did. -/
def crcAnySpec : ChangeSpec := { name := "crcAny", fn := fun _ => fun
  | [d1, d2] => { results := [.lit (.bool true)], args := [d1, d2] }
  | _ => none }
def crcAnyRow : OpenClaim := { program := "ytlgdapgocbmcfaa", sum := "16fe36ff668648db6be9f87ac09c4d51372445c2bac1ab61d9681a41ca2f0a43", func := "purser/purserlaw02.CrcAny", spec := "crcAny", apart := false }
def CrcAnySaid : Prop := crcAnyRow.holds Try.pinned (OpenSpec.ofChange crcAnySpec)

/-- ITS FALSE NEIGHBOUR: 'it returns false'. Refute it at one input. -/
def crcAnyWrong : ChangeSpec := { name := "crcAny", fn := fun _ => fun
  | [d1, d2] => { results := [.lit (.bool false)], args := [d1, d2] }
  | _ => none }
def CrcAnyWrongFalsely : Prop := crcAnyRow.holds Try.pinned (OpenSpec.ofChange crcAnyWrong)

/-- 'purserlaw01.ArithPairs': WHATEVER THE INPUT: true; the input reads as it did. -/
def arithPairsSpec : ChangeSpec := { name := "arithPairs", fn := fun _ => fun
  | [d1, d2] => { results := [.lit (.bool true)], args := [d1, d2] }
  | _ => none }
def arithPairsRow : OpenClaim := { program := "ytlgdapgocbmcfaa", sum := "16fe36ff668648db6be9f87ac09c4d51372445c2bac1ab61d9681a41ca2f0a43", func := "purser/purserlaw01.ArithPairs", spec := "arithPairs", apart := false }
def ArithPairsSaid : Prop := arithPairsRow.holds Try.pinned (OpenSpec.ofChange arithPairsSpec)

/-- ITS FALSE NEIGHBOUR: 'it returns false'. Refute it at one input. -/
def arithPairsWrong : ChangeSpec := { name := "arithPairs", fn := fun _ => fun
  | [d1, d2] => { results := [.lit (.bool false)], args := [d1, d2] }
  | _ => none }
def ArithPairsWrongFalsely : Prop := arithPairsRow.holds Try.pinned (OpenSpec.ofChange arithPairsWrong)

/-- 'purserlaw03.CodecWrites': WHATEVER THE INPUT: true; the input reads as it did. -/
def codecWritesSpec : ChangeSpec := { name := "codecWrites", fn := fun _ => fun
  | [d] => { results := [.lit (.bool true)], args := [d] }
  | _ => none }
def codecWritesRow : OpenClaim := { program := "ytlgdapgocbmcfaa", sum := "16fe36ff668648db6be9f87ac09c4d51372445c2bac1ab61d9681a41ca2f0a43", func := "purser/purserlaw03.CodecWrites", spec := "codecWrites", apart := false }
def CodecWritesSaid : Prop := codecWritesRow.holds Try.pinned (OpenSpec.ofChange codecWritesSpec)

/-- ITS FALSE NEIGHBOUR: 'it returns false'. Refute it at one input. -/
def codecWritesWrong : ChangeSpec := { name := "codecWrites", fn := fun _ => fun
  | [d] => { results := [.lit (.bool false)], args := [d] }
  | _ => none }
def CodecWritesWrongFalsely : Prop := codecWritesRow.holds Try.pinned (OpenSpec.ofChange codecWritesWrong)

/-- 'purserlaw03.CodecOne': WHATEVER THE INPUT: true; the input reads as it did. -/
def codecOneSpec : ChangeSpec := { name := "codecOne", fn := fun _ => fun
  | [d] => { results := [.lit (.bool true)], args := [d] }
  | _ => none }
def codecOneRow : OpenClaim := { program := "ytlgdapgocbmcfaa", sum := "16fe36ff668648db6be9f87ac09c4d51372445c2bac1ab61d9681a41ca2f0a43", func := "purser/purserlaw03.CodecOne", spec := "codecOne", apart := false }
def CodecOneSaid : Prop := codecOneRow.holds Try.pinned (OpenSpec.ofChange codecOneSpec)

/-- ITS FALSE NEIGHBOUR: 'it returns false'. Refute it at one input. -/
def codecOneWrong : ChangeSpec := { name := "codecOne", fn := fun _ => fun
  | [d] => { results := [.lit (.bool false)], args := [d] }
  | _ => none }
def CodecOneWrongFalsely : Prop := codecOneRow.holds Try.pinned (OpenSpec.ofChange codecOneWrong)

/-- 'purserlaw01.ArithParts': WHATEVER THE INPUT: true; the input reads as it did. -/
def arithPartsSpec : ChangeSpec := { name := "arithParts", fn := fun _ => fun
  | [d1, d2, d3] => { results := [.lit (.bool true)], args := [d1, d2, d3] }
  | _ => none }
def arithPartsRow : OpenClaim := { program := "ytlgdapgocbmcfaa", sum := "16fe36ff668648db6be9f87ac09c4d51372445c2bac1ab61d9681a41ca2f0a43", func := "purser/purserlaw01.ArithParts", spec := "arithParts", named := ["math/bits.divideError", "math/bits.overflowError"], apart := false }
def ArithPartsSaid : Prop := arithPartsRow.holds Try.pinned (OpenSpec.ofChange arithPartsSpec)

/-- ITS FALSE NEIGHBOUR: 'it returns false'. Refute it at one input. -/
def arithPartsWrong : ChangeSpec := { name := "arithParts", fn := fun _ => fun
  | [d1, d2, d3] => { results := [.lit (.bool false)], args := [d1, d2, d3] }
  | _ => none }
def ArithPartsWrongFalsely : Prop := arithPartsRow.holds Try.pinned (OpenSpec.ofChange arithPartsWrong)

/-- 'purserlaw01.ArithBack': WHATEVER THE INPUT: true; the input reads as it did. -/
def arithBackSpec : ChangeSpec := { name := "arithBack", fn := fun _ => fun
  | [d1, d2, d3] => { results := [.lit (.bool true)], args := [d1, d2, d3] }
  | _ => none }
def arithBackRow : OpenClaim := { program := "ytlgdapgocbmcfaa", sum := "16fe36ff668648db6be9f87ac09c4d51372445c2bac1ab61d9681a41ca2f0a43", func := "purser/purserlaw01.ArithBack", spec := "arithBack", named := ["math/bits.divideError", "math/bits.overflowError"], apart := false }
def ArithBackSaid : Prop := arithBackRow.holds Try.pinned (OpenSpec.ofChange arithBackSpec)

/-- ITS FALSE NEIGHBOUR: 'it returns false'. Refute it at one input. -/
def arithBackWrong : ChangeSpec := { name := "arithBack", fn := fun _ => fun
  | [d1, d2, d3] => { results := [.lit (.bool false)], args := [d1, d2, d3] }
  | _ => none }
def ArithBackWrongFalsely : Prop := arithBackRow.holds Try.pinned (OpenSpec.ofChange arithBackWrong)

/-- 'purserlaw03.CodecBack': WHATEVER THE INPUT: true; the input reads as it did. -/
def codecBackSpec : ChangeSpec := { name := "codecBack", fn := fun _ => fun
  | [d] => { results := [.lit (.bool true)], args := [d] }
  | _ => none }
def codecBackRow : OpenClaim := { program := "ytlgdapgocbmcfaa", sum := "16fe36ff668648db6be9f87ac09c4d51372445c2bac1ab61d9681a41ca2f0a43", func := "purser/purserlaw03.CodecBack", spec := "codecBack", apart := false }
def CodecBackSaid : Prop := codecBackRow.holds Try.pinned (OpenSpec.ofChange codecBackSpec)

/-- ITS FALSE NEIGHBOUR: 'it returns false'. Refute it at one input. -/
def codecBackWrong : ChangeSpec := { name := "codecBack", fn := fun _ => fun
  | [d] => { results := [.lit (.bool false)], args := [d] }
  | _ => none }
def CodecBackWrongFalsely : Prop := codecBackRow.holds Try.pinned (OpenSpec.ofChange codecBackWrong)

/-- 'purserlaw01.ArithShares': WHATEVER THE INPUT: true; the input reads as it did. -/
def arithSharesSpec : ChangeSpec := { name := "arithShares", fn := fun _ => fun
  | [d1, d2] => { results := [.lit (.bool true)], args := [d1, d2] }
  | _ => none }
def arithSharesRow : OpenClaim := { program := "ytlgdapgocbmcfaa", sum := "16fe36ff668648db6be9f87ac09c4d51372445c2bac1ab61d9681a41ca2f0a43", func := "purser/purserlaw01.ArithShares", spec := "arithShares", inPlace := ["math/bits.Add64"], named := ["math/bits.divideError", "math/bits.overflowError"], apart := false }
def ArithSharesSaid : Prop := arithSharesRow.holds Try.pinned (OpenSpec.ofChange arithSharesSpec)

/-- ITS FALSE NEIGHBOUR: 'it returns false'. Refute it at one input. -/
def arithSharesWrong : ChangeSpec := { name := "arithShares", fn := fun _ => fun
  | [d1, d2] => { results := [.lit (.bool false)], args := [d1, d2] }
  | _ => none }
def ArithSharesWrongFalsely : Prop := arithSharesRow.holds Try.pinned (OpenSpec.ofChange arithSharesWrong)

/- THE SECOND FORM. 'bulk': how many values and letters a reading holds, each counted each time it is reached (what is shared counts as often as it is met; a slice's spare places count too). A statement '..UptoSaid' is the law's where the arguments, and the package variables that the reading takes, are together of bulk at most 1048576: NARROWER than '..Said'. Prove '..Said' where nothing that the law and all that it calls make is longer than what came in: it says more and counts as full. Else prove '..UptoSaid'. A law counts once. -/
mutual
def uptoBulk {H : Type} : DataW H → Nat
  | .lit (.string bytes) => bytes.length + 1
  | .lit _ => 1
  | .nil => 1
  | .ptr d => uptoBulk d + 1
  | .slice elems spare => uptoBulkAll elems + uptoBulkAll spare + 1
  | .agg parts => uptoBulkAll parts + 1
  | .iface _ d => uptoBulk d + 1
  | .map entries => uptoBulkEntries entries + 1
  | .held _ => 1
def uptoBulkAll {H : Type} : List (DataW H) → Nat
  | [] => 0
  | d :: r => uptoBulk d + uptoBulkAll r
def uptoBulkEntries {H : Type} : List (Lit × DataW H) → Nat
  | [] => 0
  | x :: r => uptoBulkEntry x + uptoBulkEntries r
def uptoBulkEntry {H : Type} : Lit × DataW H → Nat
  | (.string bytes, d) => bytes.length + uptoBulk d + 1
  | (_, d) => uptoBulk d + 1
 end
def uptoSmall : (H : Type) → List (DataW H) → Bool := fun _ ds => decide (uptoBulkAll ds ≤ 1048576)
def OpenSpec.upto (s : _root_.Go.ChangeSpec) : _root_.Go.OpenSpec := { _root_.Go.OpenSpec.ofChange s with cond := some uptoSmall }

/-- 'purserlaw01.ArithSums', WHERE WHAT IT READS IS OF BULK AT MOST 1048576: true; the input reads as it did. -/
def arithSumsUptoRow : OpenClaim := { program := "ytlgdapgocbmcfaa", sum := "16fe36ff668648db6be9f87ac09c4d51372445c2bac1ab61d9681a41ca2f0a43", func := "purser/purserlaw01.ArithSums", spec := "arithSums", inPlace := ["math/bits.Add64"], apart := false, narrowed := true }
def ArithSumsUptoSaid : Prop := arithSumsUptoRow.holds Try.pinned (OpenSpec.upto arithSumsSpec)

/-- 'purserlaw02.CrcSums', WHERE WHAT IT READS IS OF BULK AT MOST 1048576: true; the input reads as it did. -/
def crcSumsUptoRow : OpenClaim := { program := "ytlgdapgocbmcfaa", sum := "16fe36ff668648db6be9f87ac09c4d51372445c2bac1ab61d9681a41ca2f0a43", func := "purser/purserlaw02.CrcSums", spec := "crcSums", apart := false, narrowed := true }
def CrcSumsUptoSaid : Prop := crcSumsUptoRow.holds Try.pinned (OpenSpec.upto crcSumsSpec)

/-- 'purserlaw02.CrcGoes', WHERE WHAT IT READS IS OF BULK AT MOST 1048576: true; the input reads as it did. -/
def crcGoesUptoRow : OpenClaim := { program := "ytlgdapgocbmcfaa", sum := "16fe36ff668648db6be9f87ac09c4d51372445c2bac1ab61d9681a41ca2f0a43", func := "purser/purserlaw02.CrcGoes", spec := "crcGoes", apart := false, narrowed := true }
def CrcGoesUptoSaid : Prop := crcGoesUptoRow.holds Try.pinned (OpenSpec.upto crcGoesSpec)

/-- 'purserlaw02.CrcBits', WHERE WHAT IT READS IS OF BULK AT MOST 1048576: true; the input reads as it did. -/
def crcBitsUptoRow : OpenClaim := { program := "ytlgdapgocbmcfaa", sum := "16fe36ff668648db6be9f87ac09c4d51372445c2bac1ab61d9681a41ca2f0a43", func := "purser/purserlaw02.CrcBits", spec := "crcBits", apart := false, narrowed := true }
def CrcBitsUptoSaid : Prop := crcBitsUptoRow.holds Try.pinned (OpenSpec.upto crcBitsSpec)

/-- 'purserlaw02.CrcAny', WHERE WHAT IT READS IS OF BULK AT MOST 1048576: true; the input reads as it did. -/
def crcAnyUptoRow : OpenClaim := { program := "ytlgdapgocbmcfaa", sum := "16fe36ff668648db6be9f87ac09c4d51372445c2bac1ab61d9681a41ca2f0a43", func := "purser/purserlaw02.CrcAny", spec := "crcAny", apart := false, narrowed := true }
def CrcAnyUptoSaid : Prop := crcAnyUptoRow.holds Try.pinned (OpenSpec.upto crcAnySpec)

/-- 'purserlaw01.ArithPairs', WHERE WHAT IT READS IS OF BULK AT MOST 1048576: true; the input reads as it did. -/
def arithPairsUptoRow : OpenClaim := { program := "ytlgdapgocbmcfaa", sum := "16fe36ff668648db6be9f87ac09c4d51372445c2bac1ab61d9681a41ca2f0a43", func := "purser/purserlaw01.ArithPairs", spec := "arithPairs", apart := false, narrowed := true }
def ArithPairsUptoSaid : Prop := arithPairsUptoRow.holds Try.pinned (OpenSpec.upto arithPairsSpec)

/-- 'purserlaw03.CodecWrites', WHERE WHAT IT READS IS OF BULK AT MOST 1048576: true; the input reads as it did. -/
def codecWritesUptoRow : OpenClaim := { program := "ytlgdapgocbmcfaa", sum := "16fe36ff668648db6be9f87ac09c4d51372445c2bac1ab61d9681a41ca2f0a43", func := "purser/purserlaw03.CodecWrites", spec := "codecWrites", apart := false, narrowed := true }
def CodecWritesUptoSaid : Prop := codecWritesUptoRow.holds Try.pinned (OpenSpec.upto codecWritesSpec)

/-- 'purserlaw03.CodecOne', WHERE WHAT IT READS IS OF BULK AT MOST 1048576: true; the input reads as it did. -/
def codecOneUptoRow : OpenClaim := { program := "ytlgdapgocbmcfaa", sum := "16fe36ff668648db6be9f87ac09c4d51372445c2bac1ab61d9681a41ca2f0a43", func := "purser/purserlaw03.CodecOne", spec := "codecOne", apart := false, narrowed := true }
def CodecOneUptoSaid : Prop := codecOneUptoRow.holds Try.pinned (OpenSpec.upto codecOneSpec)

/-- 'purserlaw01.ArithParts', WHERE WHAT IT READS IS OF BULK AT MOST 1048576: true; the input reads as it did. -/
def arithPartsUptoRow : OpenClaim := { program := "ytlgdapgocbmcfaa", sum := "16fe36ff668648db6be9f87ac09c4d51372445c2bac1ab61d9681a41ca2f0a43", func := "purser/purserlaw01.ArithParts", spec := "arithParts", named := ["math/bits.divideError", "math/bits.overflowError"], apart := false, narrowed := true }
def ArithPartsUptoSaid : Prop := arithPartsUptoRow.holds Try.pinned (OpenSpec.upto arithPartsSpec)

/-- 'purserlaw01.ArithBack', WHERE WHAT IT READS IS OF BULK AT MOST 1048576: true; the input reads as it did. -/
def arithBackUptoRow : OpenClaim := { program := "ytlgdapgocbmcfaa", sum := "16fe36ff668648db6be9f87ac09c4d51372445c2bac1ab61d9681a41ca2f0a43", func := "purser/purserlaw01.ArithBack", spec := "arithBack", named := ["math/bits.divideError", "math/bits.overflowError"], apart := false, narrowed := true }
def ArithBackUptoSaid : Prop := arithBackUptoRow.holds Try.pinned (OpenSpec.upto arithBackSpec)

/-- 'purserlaw03.CodecBack', WHERE WHAT IT READS IS OF BULK AT MOST 1048576: true; the input reads as it did. -/
def codecBackUptoRow : OpenClaim := { program := "ytlgdapgocbmcfaa", sum := "16fe36ff668648db6be9f87ac09c4d51372445c2bac1ab61d9681a41ca2f0a43", func := "purser/purserlaw03.CodecBack", spec := "codecBack", apart := false, narrowed := true }
def CodecBackUptoSaid : Prop := codecBackUptoRow.holds Try.pinned (OpenSpec.upto codecBackSpec)

/-- 'purserlaw01.ArithShares', WHERE WHAT IT READS IS OF BULK AT MOST 1048576: true; the input reads as it did. -/
def arithSharesUptoRow : OpenClaim := { program := "ytlgdapgocbmcfaa", sum := "16fe36ff668648db6be9f87ac09c4d51372445c2bac1ab61d9681a41ca2f0a43", func := "purser/purserlaw01.ArithShares", spec := "arithShares", inPlace := ["math/bits.Add64"], named := ["math/bits.divideError", "math/bits.overflowError"], apart := false, narrowed := true }
def ArithSharesUptoSaid : Prop := arithSharesUptoRow.holds Try.pinned (OpenSpec.upto arithSharesSpec)

end Rows
end Go.Proofs.Ytlgdapgocbmcfaa
