/-
  No cell of these rows narrows 'for every input' (looked for: loops, veiled, ifaces, maps, wideKeys, modest, calm, conditions, laid).
  DERIVED. THE GIVEN ROWS OF THIS SEAT. 9 by the template 'for every input the law returns true; each argument reads behind the call as it read before'; 0 by the template 'total and deterministic' (their statements: YtckeljphaeickaaTotals.lean).
  GIVEN WITH THE SEED: the statements are not yours to turn. If you find one false, say at which input.
  Laid BY PROGRAM, IN A SANDBOX (cutbox-rows.mjs): the forced cells as the released guide's own fill.sh prints them over the translation b864f448298987ae… (all of the seat's roots in one cut). By AI agents, Wed Nov 11 2026. No macro, syntax, notation, axiom, sorry.
-/
import Derived.Test.YtckeljphaeickaaChecked
import GoSem.Claim
import GoSem.ClaimJoined
import GoSem.ClaimMapViews
import Derived.JoinedTies
import Derived.KernelRfl
namespace Go.Proofs.Ytckeljphaeickaa
/- THE CELL 'sum', in the pinned program and in every row, IS THE sha256 OF THE DUMP (.gsa) THAT YtckeljphaeickaaProg.lean LOADS. Nothing in Lean hashes anything: it is a label: what it is worth is what the hold of that sum in a sandbox is worth. -/
noncomputable def Try.pinned : Pinned := { name := "ytckeljphaeickaa", sum := "b864f448298987ae8dbc89097d5c8ec4845d6addcac479e0bc3150fa78825750", checked := Try.checked }
namespace Rows
def none {H : Type} : Left H := { results := [], args := [] }

/-- 'purserlaw14.FundsRooms': WHATEVER THE INPUT: true; the input reads as it did. -/
def fundsRoomsSpec : ChangeSpec := { name := "fundsRooms", fn := fun _ => fun
  | [d1, d2] => { results := [.lit (.bool true)], args := [d1, d2] }
  | _ => none }
def fundsRoomsRow : OpenClaim := { program := "ytckeljphaeickaa", sum := "b864f448298987ae8dbc89097d5c8ec4845d6addcac479e0bc3150fa78825750", func := "purser/purserlaw14.FundsRooms", spec := "fundsRooms", unfollowed := true, recurses := true, apart := false }
def FundsRoomsSaid : Prop := fundsRoomsRow.holds Try.pinned (OpenSpec.ofChange fundsRoomsSpec)

/-- ITS FALSE NEIGHBOUR: 'it returns false'. Refute it at one input. -/
def fundsRoomsWrong : ChangeSpec := { name := "fundsRooms", fn := fun _ => fun
  | [d1, d2] => { results := [.lit (.bool false)], args := [d1, d2] }
  | _ => none }
def FundsRoomsWrongFalsely : Prop := fundsRoomsRow.holds Try.pinned (OpenSpec.ofChange fundsRoomsWrong)

/-- 'purserlaw14.FundsRolls': WHATEVER THE INPUT: true; the input reads as it did. -/
def fundsRollsSpec : ChangeSpec := { name := "fundsRolls", fn := fun _ => fun
  | [d1, d2, d3] => { results := [.lit (.bool true)], args := [d1, d2, d3] }
  | _ => none }
def fundsRollsRow : OpenClaim := { program := "ytckeljphaeickaa", sum := "b864f448298987ae8dbc89097d5c8ec4845d6addcac479e0bc3150fa78825750", func := "purser/purserlaw14.FundsRolls", spec := "fundsRolls", unfollowed := true, recurses := true, apart := false }
def FundsRollsSaid : Prop := fundsRollsRow.holds Try.pinned (OpenSpec.ofChange fundsRollsSpec)

/-- ITS FALSE NEIGHBOUR: 'it returns false'. Refute it at one input. -/
def fundsRollsWrong : ChangeSpec := { name := "fundsRolls", fn := fun _ => fun
  | [d1, d2, d3] => { results := [.lit (.bool false)], args := [d1, d2, d3] }
  | _ => none }
def FundsRollsWrongFalsely : Prop := fundsRollsRow.holds Try.pinned (OpenSpec.ofChange fundsRollsWrong)

/-- 'purserlaw16.GrantMakes': WHATEVER THE INPUT: true; the input reads as it did. -/
def grantMakesSpec : ChangeSpec := { name := "grantMakes", fn := fun _ => fun
  | [d1, d2, d3] => { results := [.lit (.bool true)], args := [d1, d2, d3] }
  | _ => none }
def grantMakesRow : OpenClaim := { program := "ytckeljphaeickaa", sum := "b864f448298987ae8dbc89097d5c8ec4845d6addcac479e0bc3150fa78825750", func := "purser/purserlaw16.GrantMakes", spec := "grantMakes", inPlace := ["math/bits.Add64"], unfollowed := true, recurses := true, apart := false }
def GrantMakesSaid : Prop := grantMakesRow.holds Try.pinned (OpenSpec.ofChange grantMakesSpec)

/-- ITS FALSE NEIGHBOUR: 'it returns false'. Refute it at one input. -/
def grantMakesWrong : ChangeSpec := { name := "grantMakes", fn := fun _ => fun
  | [d1, d2, d3] => { results := [.lit (.bool false)], args := [d1, d2, d3] }
  | _ => none }
def GrantMakesWrongFalsely : Prop := grantMakesRow.holds Try.pinned (OpenSpec.ofChange grantMakesWrong)

/-- 'purserlaw16.GrantBounds': WHATEVER THE INPUT: true; the input reads as it did. -/
def grantBoundsSpec : ChangeSpec := { name := "grantBounds", fn := fun _ => fun
  | [d1, d2, d3] => { results := [.lit (.bool true)], args := [d1, d2, d3] }
  | _ => none }
def grantBoundsRow : OpenClaim := { program := "ytckeljphaeickaa", sum := "b864f448298987ae8dbc89097d5c8ec4845d6addcac479e0bc3150fa78825750", func := "purser/purserlaw16.GrantBounds", spec := "grantBounds", inPlace := ["math/bits.Add64"], unfollowed := true, recurses := true, apart := false }
def GrantBoundsSaid : Prop := grantBoundsRow.holds Try.pinned (OpenSpec.ofChange grantBoundsSpec)

/-- ITS FALSE NEIGHBOUR: 'it returns false'. Refute it at one input. -/
def grantBoundsWrong : ChangeSpec := { name := "grantBounds", fn := fun _ => fun
  | [d1, d2, d3] => { results := [.lit (.bool false)], args := [d1, d2, d3] }
  | _ => none }
def GrantBoundsWrongFalsely : Prop := grantBoundsRow.holds Try.pinned (OpenSpec.ofChange grantBoundsWrong)

/-- 'purserlaw16.GrantSettles': WHATEVER THE INPUT: true; the input reads as it did. -/
def grantSettlesSpec : ChangeSpec := { name := "grantSettles", fn := fun _ => fun
  | [d1, d2, d3] => { results := [.lit (.bool true)], args := [d1, d2, d3] }
  | _ => none }
def grantSettlesRow : OpenClaim := { program := "ytckeljphaeickaa", sum := "b864f448298987ae8dbc89097d5c8ec4845d6addcac479e0bc3150fa78825750", func := "purser/purserlaw16.GrantSettles", spec := "grantSettles", inPlace := ["math/bits.Add64"], unfollowed := true, recurses := true, apart := false }
def GrantSettlesSaid : Prop := grantSettlesRow.holds Try.pinned (OpenSpec.ofChange grantSettlesSpec)

/-- ITS FALSE NEIGHBOUR: 'it returns false'. Refute it at one input. -/
def grantSettlesWrong : ChangeSpec := { name := "grantSettles", fn := fun _ => fun
  | [d1, d2, d3] => { results := [.lit (.bool false)], args := [d1, d2, d3] }
  | _ => none }
def GrantSettlesWrongFalsely : Prop := grantSettlesRow.holds Try.pinned (OpenSpec.ofChange grantSettlesWrong)

/-- 'purserlaw16.GrantOrder': WHATEVER THE INPUT: true; the input reads as it did. -/
def grantOrderSpec : ChangeSpec := { name := "grantOrder", fn := fun _ => fun
  | [d1, d2, d3] => { results := [.lit (.bool true)], args := [d1, d2, d3] }
  | _ => none }
def grantOrderRow : OpenClaim := { program := "ytckeljphaeickaa", sum := "b864f448298987ae8dbc89097d5c8ec4845d6addcac479e0bc3150fa78825750", func := "purser/purserlaw16.GrantOrder", spec := "grantOrder", inPlace := ["math/bits.Add64"], unfollowed := true, recurses := true, apart := false }
def GrantOrderSaid : Prop := grantOrderRow.holds Try.pinned (OpenSpec.ofChange grantOrderSpec)

/-- ITS FALSE NEIGHBOUR: 'it returns false'. Refute it at one input. -/
def grantOrderWrong : ChangeSpec := { name := "grantOrder", fn := fun _ => fun
  | [d1, d2, d3] => { results := [.lit (.bool false)], args := [d1, d2, d3] }
  | _ => none }
def GrantOrderWrongFalsely : Prop := grantOrderRow.holds Try.pinned (OpenSpec.ofChange grantOrderWrong)

/-- 'purserlaw16.GrantMany': WHATEVER THE INPUT: true; the input reads as it did. -/
def grantManySpec : ChangeSpec := { name := "grantMany", fn := fun _ => fun
  | [d1, d2, d3] => { results := [.lit (.bool true)], args := [d1, d2, d3] }
  | _ => none }
def grantManyRow : OpenClaim := { program := "ytckeljphaeickaa", sum := "b864f448298987ae8dbc89097d5c8ec4845d6addcac479e0bc3150fa78825750", func := "purser/purserlaw16.GrantMany", spec := "grantMany", inPlace := ["math/bits.Add64"], unfollowed := true, recurses := true, apart := false }
def GrantManySaid : Prop := grantManyRow.holds Try.pinned (OpenSpec.ofChange grantManySpec)

/-- ITS FALSE NEIGHBOUR: 'it returns false'. Refute it at one input. -/
def grantManyWrong : ChangeSpec := { name := "grantMany", fn := fun _ => fun
  | [d1, d2, d3] => { results := [.lit (.bool false)], args := [d1, d2, d3] }
  | _ => none }
def GrantManyWrongFalsely : Prop := grantManyRow.holds Try.pinned (OpenSpec.ofChange grantManyWrong)

/-- 'purserlaw14.FundsActs': WHATEVER THE INPUT: true; the input reads as it did. -/
def fundsActsSpec : ChangeSpec := { name := "fundsActs", fn := fun _ => fun
  | [d1, d2] => { results := [.lit (.bool true)], args := [d1, d2] }
  | _ => none }
def fundsActsRow : OpenClaim := { program := "ytckeljphaeickaa", sum := "b864f448298987ae8dbc89097d5c8ec4845d6addcac479e0bc3150fa78825750", func := "purser/purserlaw14.FundsActs", spec := "fundsActs", unfollowed := true, recurses := true, apart := false }
def FundsActsSaid : Prop := fundsActsRow.holds Try.pinned (OpenSpec.ofChange fundsActsSpec)

/-- ITS FALSE NEIGHBOUR: 'it returns false'. Refute it at one input. -/
def fundsActsWrong : ChangeSpec := { name := "fundsActs", fn := fun _ => fun
  | [d1, d2] => { results := [.lit (.bool false)], args := [d1, d2] }
  | _ => none }
def FundsActsWrongFalsely : Prop := fundsActsRow.holds Try.pinned (OpenSpec.ofChange fundsActsWrong)

/-- 'purserlaw14.FundsBack': WHATEVER THE INPUT: true; the input reads as it did. -/
def fundsBackSpec : ChangeSpec := { name := "fundsBack", fn := fun _ => fun
  | [d1, d2, d3] => { results := [.lit (.bool true)], args := [d1, d2, d3] }
  | _ => none }
def fundsBackRow : OpenClaim := { program := "ytckeljphaeickaa", sum := "b864f448298987ae8dbc89097d5c8ec4845d6addcac479e0bc3150fa78825750", func := "purser/purserlaw14.FundsBack", spec := "fundsBack", unfollowed := true, recurses := true, apart := false }
def FundsBackSaid : Prop := fundsBackRow.holds Try.pinned (OpenSpec.ofChange fundsBackSpec)

/-- ITS FALSE NEIGHBOUR: 'it returns false'. Refute it at one input. -/
def fundsBackWrong : ChangeSpec := { name := "fundsBack", fn := fun _ => fun
  | [d1, d2, d3] => { results := [.lit (.bool false)], args := [d1, d2, d3] }
  | _ => none }
def FundsBackWrongFalsely : Prop := fundsBackRow.holds Try.pinned (OpenSpec.ofChange fundsBackWrong)

/- THE SECOND FORM. 'bulk': how many values and letters a reading holds, each counted each time it is reached (what is shared counts as often as it is met; a slice's spare places count too). A statement '..UptoSaid' is the law's where the arguments, and the package variables that the reading takes, are together of bulk at most 1048576: NARROWER than '..Said'. Prove '..Said' where nothing that the law and all that it calls make is longer than what came in: it says more and counts as full. Else prove '..UptoSaid'. A law counts once. -/
mutual
def uptoBulk {H : Type} : DataW H → Nat
  | .lit (.string bytes) => bytes.length + 1
  | .lit _ => 1
  | .nil => 1
  | .ptr d => uptoBulk d + 1
  | .slice elems spare => uptoBulkAll elems + uptoBulkAll spare + 1
  | .agg parts => uptoBulkAll parts + 1
  | .iface _ d => uptoBulk d + 1
  | .map entries => uptoBulkEntries entries + 1
  | .held _ => 1
def uptoBulkAll {H : Type} : List (DataW H) → Nat
  | [] => 0
  | d :: r => uptoBulk d + uptoBulkAll r
def uptoBulkEntries {H : Type} : List (Lit × DataW H) → Nat
  | [] => 0
  | x :: r => uptoBulkEntry x + uptoBulkEntries r
def uptoBulkEntry {H : Type} : Lit × DataW H → Nat
  | (.string bytes, d) => bytes.length + uptoBulk d + 1
  | (_, d) => uptoBulk d + 1
 end
def uptoSmall : (H : Type) → List (DataW H) → Bool := fun _ ds => decide (uptoBulkAll ds ≤ 1048576)
def OpenSpec.upto (s : _root_.Go.ChangeSpec) : _root_.Go.OpenSpec := { _root_.Go.OpenSpec.ofChange s with cond := some uptoSmall }

/-- 'purserlaw14.FundsRooms', WHERE WHAT IT READS IS OF BULK AT MOST 1048576: true; the input reads as it did. -/
def fundsRoomsUptoRow : OpenClaim := { program := "ytckeljphaeickaa", sum := "b864f448298987ae8dbc89097d5c8ec4845d6addcac479e0bc3150fa78825750", func := "purser/purserlaw14.FundsRooms", spec := "fundsRooms", unfollowed := true, recurses := true, apart := false, narrowed := true }
def FundsRoomsUptoSaid : Prop := fundsRoomsUptoRow.holds Try.pinned (OpenSpec.upto fundsRoomsSpec)

/-- 'purserlaw14.FundsRolls', WHERE WHAT IT READS IS OF BULK AT MOST 1048576: true; the input reads as it did. -/
def fundsRollsUptoRow : OpenClaim := { program := "ytckeljphaeickaa", sum := "b864f448298987ae8dbc89097d5c8ec4845d6addcac479e0bc3150fa78825750", func := "purser/purserlaw14.FundsRolls", spec := "fundsRolls", unfollowed := true, recurses := true, apart := false, narrowed := true }
def FundsRollsUptoSaid : Prop := fundsRollsUptoRow.holds Try.pinned (OpenSpec.upto fundsRollsSpec)

/-- 'purserlaw16.GrantMakes', WHERE WHAT IT READS IS OF BULK AT MOST 1048576: true; the input reads as it did. -/
def grantMakesUptoRow : OpenClaim := { program := "ytckeljphaeickaa", sum := "b864f448298987ae8dbc89097d5c8ec4845d6addcac479e0bc3150fa78825750", func := "purser/purserlaw16.GrantMakes", spec := "grantMakes", inPlace := ["math/bits.Add64"], unfollowed := true, recurses := true, apart := false, narrowed := true }
def GrantMakesUptoSaid : Prop := grantMakesUptoRow.holds Try.pinned (OpenSpec.upto grantMakesSpec)

/-- 'purserlaw16.GrantBounds', WHERE WHAT IT READS IS OF BULK AT MOST 1048576: true; the input reads as it did. -/
def grantBoundsUptoRow : OpenClaim := { program := "ytckeljphaeickaa", sum := "b864f448298987ae8dbc89097d5c8ec4845d6addcac479e0bc3150fa78825750", func := "purser/purserlaw16.GrantBounds", spec := "grantBounds", inPlace := ["math/bits.Add64"], unfollowed := true, recurses := true, apart := false, narrowed := true }
def GrantBoundsUptoSaid : Prop := grantBoundsUptoRow.holds Try.pinned (OpenSpec.upto grantBoundsSpec)

/-- 'purserlaw16.GrantSettles', WHERE WHAT IT READS IS OF BULK AT MOST 1048576: true; the input reads as it did. -/
def grantSettlesUptoRow : OpenClaim := { program := "ytckeljphaeickaa", sum := "b864f448298987ae8dbc89097d5c8ec4845d6addcac479e0bc3150fa78825750", func := "purser/purserlaw16.GrantSettles", spec := "grantSettles", inPlace := ["math/bits.Add64"], unfollowed := true, recurses := true, apart := false, narrowed := true }
def GrantSettlesUptoSaid : Prop := grantSettlesUptoRow.holds Try.pinned (OpenSpec.upto grantSettlesSpec)

/-- 'purserlaw16.GrantOrder', WHERE WHAT IT READS IS OF BULK AT MOST 1048576: true; the input reads as it did. -/
def grantOrderUptoRow : OpenClaim := { program := "ytckeljphaeickaa", sum := "b864f448298987ae8dbc89097d5c8ec4845d6addcac479e0bc3150fa78825750", func := "purser/purserlaw16.GrantOrder", spec := "grantOrder", inPlace := ["math/bits.Add64"], unfollowed := true, recurses := true, apart := false, narrowed := true }
def GrantOrderUptoSaid : Prop := grantOrderUptoRow.holds Try.pinned (OpenSpec.upto grantOrderSpec)

/-- 'purserlaw16.GrantMany', WHERE WHAT IT READS IS OF BULK AT MOST 1048576: true; the input reads as it did. -/
def grantManyUptoRow : OpenClaim := { program := "ytckeljphaeickaa", sum := "b864f448298987ae8dbc89097d5c8ec4845d6addcac479e0bc3150fa78825750", func := "purser/purserlaw16.GrantMany", spec := "grantMany", inPlace := ["math/bits.Add64"], unfollowed := true, recurses := true, apart := false, narrowed := true }
def GrantManyUptoSaid : Prop := grantManyUptoRow.holds Try.pinned (OpenSpec.upto grantManySpec)

/-- 'purserlaw14.FundsActs', WHERE WHAT IT READS IS OF BULK AT MOST 1048576: true; the input reads as it did. -/
def fundsActsUptoRow : OpenClaim := { program := "ytckeljphaeickaa", sum := "b864f448298987ae8dbc89097d5c8ec4845d6addcac479e0bc3150fa78825750", func := "purser/purserlaw14.FundsActs", spec := "fundsActs", unfollowed := true, recurses := true, apart := false, narrowed := true }
def FundsActsUptoSaid : Prop := fundsActsUptoRow.holds Try.pinned (OpenSpec.upto fundsActsSpec)

/-- 'purserlaw14.FundsBack', WHERE WHAT IT READS IS OF BULK AT MOST 1048576: true; the input reads as it did. -/
def fundsBackUptoRow : OpenClaim := { program := "ytckeljphaeickaa", sum := "b864f448298987ae8dbc89097d5c8ec4845d6addcac479e0bc3150fa78825750", func := "purser/purserlaw14.FundsBack", spec := "fundsBack", unfollowed := true, recurses := true, apart := false, narrowed := true }
def FundsBackUptoSaid : Prop := fundsBackUptoRow.holds Try.pinned (OpenSpec.upto fundsBackSpec)

end Rows
end Go.Proofs.Ytckeljphaeickaa
