/-
  No cell of these rows narrows 'for every input' (looked for: loops, veiled, ifaces, maps, wideKeys, modest, calm, conditions, laid).
  DERIVED. THE GIVEN ROWS OF THIS SEAT. 8 by the template 'for every input the law returns true; each argument reads behind the call as it read before'; 0 by the template 'total and deterministic' (their statements: YtecmpjccdhmeeaaTotals.lean).
  GIVEN WITH THE SEED: the statements are not yours to turn. If you find one false, say at which input.
  Laid BY PROGRAM, IN A SANDBOX (cutbox-rows.mjs): the forced cells as the released guide's own fill.sh prints them over the translation 66e9ac9128876622… (all of the seat's roots in one cut). By AI agents, Wed Nov 11 2026. No macro, syntax, notation, axiom, sorry.
-/
import Derived.Test.YtecmpjccdhmeeaaChecked
import GoSem.Claim
import GoSem.ClaimJoined
import GoSem.ClaimMapViews
import Derived.JoinedTies
import Derived.KernelRfl
namespace Go.Proofs.Ytecmpjccdhmeeaa
/- THE CELL 'sum', in the pinned program and in every row, IS THE sha256 OF THE DUMP (.gsa) THAT YtecmpjccdhmeeaaProg.lean LOADS. Nothing in Lean hashes anything: it is a label: what it is worth is what the hold of that sum in a sandbox is worth. -/
noncomputable def Try.pinned : Pinned := { name := "ytecmpjccdhmeeaa", sum := "66e9ac91288766224c11930501b2ca112331026b996dcbd0a5ee3109c9ddb8c1", checked := Try.checked }
namespace Rows
def none {H : Type} : Left H := { results := [], args := [] }

/-- 'purserlaw09.TariffBack': WHATEVER THE INPUT: true; the input reads as it did. -/
def tariffBackSpec : ChangeSpec := { name := "tariffBack", fn := fun _ => fun
  | [d] => { results := [.lit (.bool true)], args := [d] }
  | _ => none }
def tariffBackRow : OpenClaim := { program := "ytecmpjccdhmeeaa", sum := "66e9ac91288766224c11930501b2ca112331026b996dcbd0a5ee3109c9ddb8c1", func := "purser/purserlaw09.TariffBack", spec := "tariffBack", apart := false }
def TariffBackSaid : Prop := tariffBackRow.holds Try.pinned (OpenSpec.ofChange tariffBackSpec)

/-- ITS FALSE NEIGHBOUR: 'it returns false'. Refute it at one input. -/
def tariffBackWrong : ChangeSpec := { name := "tariffBack", fn := fun _ => fun
  | [d] => { results := [.lit (.bool false)], args := [d] }
  | _ => none }
def TariffBackWrongFalsely : Prop := tariffBackRow.holds Try.pinned (OpenSpec.ofChange tariffBackWrong)

/-- 'purserlaw09.TariffReads': WHATEVER THE INPUT: true; the input reads as it did. -/
def tariffReadsSpec : ChangeSpec := { name := "tariffReads", fn := fun _ => fun
  | [d] => { results := [.lit (.bool true)], args := [d] }
  | _ => none }
def tariffReadsRow : OpenClaim := { program := "ytecmpjccdhmeeaa", sum := "66e9ac91288766224c11930501b2ca112331026b996dcbd0a5ee3109c9ddb8c1", func := "purser/purserlaw09.TariffReads", spec := "tariffReads", apart := false }
def TariffReadsSaid : Prop := tariffReadsRow.holds Try.pinned (OpenSpec.ofChange tariffReadsSpec)

/-- ITS FALSE NEIGHBOUR: 'it returns false'. Refute it at one input. -/
def tariffReadsWrong : ChangeSpec := { name := "tariffReads", fn := fun _ => fun
  | [d] => { results := [.lit (.bool false)], args := [d] }
  | _ => none }
def TariffReadsWrongFalsely : Prop := tariffReadsRow.holds Try.pinned (OpenSpec.ofChange tariffReadsWrong)

/-- 'pursertop.PurserRates': WHATEVER THE INPUT: true; the input reads as it did. -/
def purserRatesSpec : ChangeSpec := { name := "purserRates", fn := fun _ => fun
  | [d1, d2, d3] => { results := [.lit (.bool true)], args := [d1, d2, d3] }
  | _ => none }
def purserRatesRow : OpenClaim := { program := "ytecmpjccdhmeeaa", sum := "66e9ac91288766224c11930501b2ca112331026b996dcbd0a5ee3109c9ddb8c1", func := "purser/pursertop.PurserRates", spec := "purserRates", inPlace := ["math/bits.Add64"], unfollowed := true, recurses := true, apart := false }
def PurserRatesSaid : Prop := purserRatesRow.holds Try.pinned (OpenSpec.ofChange purserRatesSpec)

/-- ITS FALSE NEIGHBOUR: 'it returns false'. Refute it at one input. -/
def purserRatesWrong : ChangeSpec := { name := "purserRates", fn := fun _ => fun
  | [d1, d2, d3] => { results := [.lit (.bool false)], args := [d1, d2, d3] }
  | _ => none }
def PurserRatesWrongFalsely : Prop := purserRatesRow.holds Try.pinned (OpenSpec.ofChange purserRatesWrong)

/-- 'purserlaw11.RateTells': WHATEVER THE INPUT: true; the input reads as it did. -/
def rateTellsSpec : ChangeSpec := { name := "rateTells", fn := fun _ => fun
  | [d1, d2] => { results := [.lit (.bool true)], args := [d1, d2] }
  | _ => none }
def rateTellsRow : OpenClaim := { program := "ytecmpjccdhmeeaa", sum := "66e9ac91288766224c11930501b2ca112331026b996dcbd0a5ee3109c9ddb8c1", func := "purser/purserlaw11.RateTells", spec := "rateTells", inPlace := ["math/bits.Add64"], unfollowed := true, recurses := true, apart := false }
def RateTellsSaid : Prop := rateTellsRow.holds Try.pinned (OpenSpec.ofChange rateTellsSpec)

/-- ITS FALSE NEIGHBOUR: 'it returns false'. Refute it at one input. -/
def rateTellsWrong : ChangeSpec := { name := "rateTells", fn := fun _ => fun
  | [d1, d2] => { results := [.lit (.bool false)], args := [d1, d2] }
  | _ => none }
def RateTellsWrongFalsely : Prop := rateTellsRow.holds Try.pinned (OpenSpec.ofChange rateTellsWrong)

/-- 'purserlaw11.RateBounded': WHATEVER THE INPUT: true; the input reads as it did. -/
def rateBoundedSpec : ChangeSpec := { name := "rateBounded", fn := fun _ => fun
  | [d1, d2] => { results := [.lit (.bool true)], args := [d1, d2] }
  | _ => none }
def rateBoundedRow : OpenClaim := { program := "ytecmpjccdhmeeaa", sum := "66e9ac91288766224c11930501b2ca112331026b996dcbd0a5ee3109c9ddb8c1", func := "purser/purserlaw11.RateBounded", spec := "rateBounded", inPlace := ["math/bits.Add64"], unfollowed := true, recurses := true, apart := false }
def RateBoundedSaid : Prop := rateBoundedRow.holds Try.pinned (OpenSpec.ofChange rateBoundedSpec)

/-- ITS FALSE NEIGHBOUR: 'it returns false'. Refute it at one input. -/
def rateBoundedWrong : ChangeSpec := { name := "rateBounded", fn := fun _ => fun
  | [d1, d2] => { results := [.lit (.bool false)], args := [d1, d2] }
  | _ => none }
def RateBoundedWrongFalsely : Prop := rateBoundedRow.holds Try.pinned (OpenSpec.ofChange rateBoundedWrong)

/-- 'purserlaw11.RateFits': WHATEVER THE INPUT: true; the input reads as it did. -/
def rateFitsSpec : ChangeSpec := { name := "rateFits", fn := fun _ => fun
  | [d1, d2, d3] => { results := [.lit (.bool true)], args := [d1, d2, d3] }
  | _ => none }
def rateFitsRow : OpenClaim := { program := "ytecmpjccdhmeeaa", sum := "66e9ac91288766224c11930501b2ca112331026b996dcbd0a5ee3109c9ddb8c1", func := "purser/purserlaw11.RateFits", spec := "rateFits", inPlace := ["math/bits.Add64"], unfollowed := true, recurses := true, apart := false }
def RateFitsSaid : Prop := rateFitsRow.holds Try.pinned (OpenSpec.ofChange rateFitsSpec)

/-- ITS FALSE NEIGHBOUR: 'it returns false'. Refute it at one input. -/
def rateFitsWrong : ChangeSpec := { name := "rateFits", fn := fun _ => fun
  | [d1, d2, d3] => { results := [.lit (.bool false)], args := [d1, d2, d3] }
  | _ => none }
def RateFitsWrongFalsely : Prop := rateFitsRow.holds Try.pinned (OpenSpec.ofChange rateFitsWrong)

/-- 'purserlaw11.RateApart': WHATEVER THE INPUT: true; the input reads as it did. -/
def rateApartSpec : ChangeSpec := { name := "rateApart", fn := fun _ => fun
  | [d1, d2, d3] => { results := [.lit (.bool true)], args := [d1, d2, d3] }
  | _ => none }
def rateApartRow : OpenClaim := { program := "ytecmpjccdhmeeaa", sum := "66e9ac91288766224c11930501b2ca112331026b996dcbd0a5ee3109c9ddb8c1", func := "purser/purserlaw11.RateApart", spec := "rateApart", inPlace := ["math/bits.Add64"], unfollowed := true, recurses := true, apart := false }
def RateApartSaid : Prop := rateApartRow.holds Try.pinned (OpenSpec.ofChange rateApartSpec)

/-- ITS FALSE NEIGHBOUR: 'it returns false'. Refute it at one input. -/
def rateApartWrong : ChangeSpec := { name := "rateApart", fn := fun _ => fun
  | [d1, d2, d3] => { results := [.lit (.bool false)], args := [d1, d2, d3] }
  | _ => none }
def RateApartWrongFalsely : Prop := rateApartRow.holds Try.pinned (OpenSpec.ofChange rateApartWrong)

/-- 'purserlaw11.RateSteady': WHATEVER THE INPUT: true; the input reads as it did. -/
def rateSteadySpec : ChangeSpec := { name := "rateSteady", fn := fun _ => fun
  | [d1, d2, d3] => { results := [.lit (.bool true)], args := [d1, d2, d3] }
  | _ => none }
def rateSteadyRow : OpenClaim := { program := "ytecmpjccdhmeeaa", sum := "66e9ac91288766224c11930501b2ca112331026b996dcbd0a5ee3109c9ddb8c1", func := "purser/purserlaw11.RateSteady", spec := "rateSteady", inPlace := ["math/bits.Add64"], unfollowed := true, recurses := true, apart := false }
def RateSteadySaid : Prop := rateSteadyRow.holds Try.pinned (OpenSpec.ofChange rateSteadySpec)

/-- ITS FALSE NEIGHBOUR: 'it returns false'. Refute it at one input. -/
def rateSteadyWrong : ChangeSpec := { name := "rateSteady", fn := fun _ => fun
  | [d1, d2, d3] => { results := [.lit (.bool false)], args := [d1, d2, d3] }
  | _ => none }
def RateSteadyWrongFalsely : Prop := rateSteadyRow.holds Try.pinned (OpenSpec.ofChange rateSteadyWrong)

/- THE SECOND FORM. 'bulk': how many values and letters a reading holds, each counted each time it is reached (what is shared counts as often as it is met; a slice's spare places count too). A statement '..UptoSaid' is the law's where the arguments, and the package variables that the reading takes, are together of bulk at most 1048576: NARROWER than '..Said'. Prove '..Said' where nothing that the law and all that it calls make is longer than what came in: it says more and counts as full. Else prove '..UptoSaid'. A law counts once. -/
mutual
def uptoBulk {H : Type} : DataW H → Nat
  | .lit (.string bytes) => bytes.length + 1
  | .lit _ => 1
  | .nil => 1
  | .ptr d => uptoBulk d + 1
  | .slice elems spare => uptoBulkAll elems + uptoBulkAll spare + 1
  | .agg parts => uptoBulkAll parts + 1
  | .iface _ d => uptoBulk d + 1
  | .map entries => uptoBulkEntries entries + 1
  | .held _ => 1
def uptoBulkAll {H : Type} : List (DataW H) → Nat
  | [] => 0
  | d :: r => uptoBulk d + uptoBulkAll r
def uptoBulkEntries {H : Type} : List (Lit × DataW H) → Nat
  | [] => 0
  | x :: r => uptoBulkEntry x + uptoBulkEntries r
def uptoBulkEntry {H : Type} : Lit × DataW H → Nat
  | (.string bytes, d) => bytes.length + uptoBulk d + 1
  | (_, d) => uptoBulk d + 1
 end
def uptoSmall : (H : Type) → List (DataW H) → Bool := fun _ ds => decide (uptoBulkAll ds ≤ 1048576)
def OpenSpec.upto (s : _root_.Go.ChangeSpec) : _root_.Go.OpenSpec := { _root_.Go.OpenSpec.ofChange s with cond := some uptoSmall }

/-- 'purserlaw09.TariffBack', WHERE WHAT IT READS IS OF BULK AT MOST 1048576: true; the input reads as it did. -/
def tariffBackUptoRow : OpenClaim := { program := "ytecmpjccdhmeeaa", sum := "66e9ac91288766224c11930501b2ca112331026b996dcbd0a5ee3109c9ddb8c1", func := "purser/purserlaw09.TariffBack", spec := "tariffBack", apart := false, narrowed := true }
def TariffBackUptoSaid : Prop := tariffBackUptoRow.holds Try.pinned (OpenSpec.upto tariffBackSpec)

/-- 'purserlaw09.TariffReads', WHERE WHAT IT READS IS OF BULK AT MOST 1048576: true; the input reads as it did. -/
def tariffReadsUptoRow : OpenClaim := { program := "ytecmpjccdhmeeaa", sum := "66e9ac91288766224c11930501b2ca112331026b996dcbd0a5ee3109c9ddb8c1", func := "purser/purserlaw09.TariffReads", spec := "tariffReads", apart := false, narrowed := true }
def TariffReadsUptoSaid : Prop := tariffReadsUptoRow.holds Try.pinned (OpenSpec.upto tariffReadsSpec)

/-- 'pursertop.PurserRates', WHERE WHAT IT READS IS OF BULK AT MOST 1048576: true; the input reads as it did. -/
def purserRatesUptoRow : OpenClaim := { program := "ytecmpjccdhmeeaa", sum := "66e9ac91288766224c11930501b2ca112331026b996dcbd0a5ee3109c9ddb8c1", func := "purser/pursertop.PurserRates", spec := "purserRates", inPlace := ["math/bits.Add64"], unfollowed := true, recurses := true, apart := false, narrowed := true }
def PurserRatesUptoSaid : Prop := purserRatesUptoRow.holds Try.pinned (OpenSpec.upto purserRatesSpec)

/-- 'purserlaw11.RateTells', WHERE WHAT IT READS IS OF BULK AT MOST 1048576: true; the input reads as it did. -/
def rateTellsUptoRow : OpenClaim := { program := "ytecmpjccdhmeeaa", sum := "66e9ac91288766224c11930501b2ca112331026b996dcbd0a5ee3109c9ddb8c1", func := "purser/purserlaw11.RateTells", spec := "rateTells", inPlace := ["math/bits.Add64"], unfollowed := true, recurses := true, apart := false, narrowed := true }
def RateTellsUptoSaid : Prop := rateTellsUptoRow.holds Try.pinned (OpenSpec.upto rateTellsSpec)

/-- 'purserlaw11.RateBounded', WHERE WHAT IT READS IS OF BULK AT MOST 1048576: true; the input reads as it did. -/
def rateBoundedUptoRow : OpenClaim := { program := "ytecmpjccdhmeeaa", sum := "66e9ac91288766224c11930501b2ca112331026b996dcbd0a5ee3109c9ddb8c1", func := "purser/purserlaw11.RateBounded", spec := "rateBounded", inPlace := ["math/bits.Add64"], unfollowed := true, recurses := true, apart := false, narrowed := true }
def RateBoundedUptoSaid : Prop := rateBoundedUptoRow.holds Try.pinned (OpenSpec.upto rateBoundedSpec)

/-- 'purserlaw11.RateFits', WHERE WHAT IT READS IS OF BULK AT MOST 1048576: true; the input reads as it did. -/
def rateFitsUptoRow : OpenClaim := { program := "ytecmpjccdhmeeaa", sum := "66e9ac91288766224c11930501b2ca112331026b996dcbd0a5ee3109c9ddb8c1", func := "purser/purserlaw11.RateFits", spec := "rateFits", inPlace := ["math/bits.Add64"], unfollowed := true, recurses := true, apart := false, narrowed := true }
def RateFitsUptoSaid : Prop := rateFitsUptoRow.holds Try.pinned (OpenSpec.upto rateFitsSpec)

/-- 'purserlaw11.RateApart', WHERE WHAT IT READS IS OF BULK AT MOST 1048576: true; the input reads as it did. -/
def rateApartUptoRow : OpenClaim := { program := "ytecmpjccdhmeeaa", sum := "66e9ac91288766224c11930501b2ca112331026b996dcbd0a5ee3109c9ddb8c1", func := "purser/purserlaw11.RateApart", spec := "rateApart", inPlace := ["math/bits.Add64"], unfollowed := true, recurses := true, apart := false, narrowed := true }
def RateApartUptoSaid : Prop := rateApartUptoRow.holds Try.pinned (OpenSpec.upto rateApartSpec)

/-- 'purserlaw11.RateSteady', WHERE WHAT IT READS IS OF BULK AT MOST 1048576: true; the input reads as it did. -/
def rateSteadyUptoRow : OpenClaim := { program := "ytecmpjccdhmeeaa", sum := "66e9ac91288766224c11930501b2ca112331026b996dcbd0a5ee3109c9ddb8c1", func := "purser/purserlaw11.RateSteady", spec := "rateSteady", inPlace := ["math/bits.Add64"], unfollowed := true, recurses := true, apart := false, narrowed := true }
def RateSteadyUptoSaid : Prop := rateSteadyUptoRow.holds Try.pinned (OpenSpec.upto rateSteadySpec)

end Rows
end Go.Proofs.Ytecmpjccdhmeeaa
