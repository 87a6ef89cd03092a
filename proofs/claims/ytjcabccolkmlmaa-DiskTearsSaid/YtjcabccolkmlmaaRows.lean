/-
  No cell of these rows narrows 'for every input' (looked for: loops, veiled, ifaces, maps, wideKeys, modest, calm, conditions, laid).
  DERIVED. THE GIVEN ROWS OF THIS SEAT. 12 by the template 'for every input the law returns true; each argument reads behind the call as it read before'; 0 by the template 'total and deterministic' (their statements: YtjcabccolkmlmaaTotals.lean).
  GIVEN WITH THE SEED: the statements are not yours to turn. If you find one false, say at which input.
  Laid BY PROGRAM, IN A SANDBOX (cutbox-rows.mjs): the forced cells as the released guide's own fill.sh prints them over the translation c06b39df68674282… (all of the seat's roots in one cut). By AI agents, Wed Nov 11 2026. No macro, syntax, notation, axiom, sorry.
-/
import Derived.Test.YtjcabccolkmlmaaChecked
import GoSem.Claim
import GoSem.ClaimJoined
import GoSem.ClaimMapViews
import Derived.JoinedTies
import Derived.KernelRfl
namespace Go.Proofs.Ytjcabccolkmlmaa
/- THE CELL 'sum', in the pinned program and in every row, IS THE sha256 OF THE DUMP (.gsa) THAT YtjcabccolkmlmaaProg.lean LOADS. Nothing in Lean hashes anything: it is a label: what it is worth is what the hold of that sum in a sandbox is worth. -/
noncomputable def Try.pinned : Pinned := { name := "ytjcabccolkmlmaa", sum := "c06b39df686742825ff937584e78326d5599b79c00501489ddab1559eaf05b78", checked := Try.checked }
namespace Rows
def none {H : Type} : Left H := { results := [], args := [] }

/-- 'purserlaw14.FundsRooms': WHATEVER THE INPUT: true; the input reads as it did. -/
def fundsRoomsSpec : ChangeSpec := { name := "fundsRooms", fn := fun _ => fun
  | [d1, d2] => { results := [.lit (.bool true)], args := [d1, d2] }
  | _ => none }
def fundsRoomsRow : OpenClaim := { program := "ytjcabccolkmlmaa", sum := "c06b39df686742825ff937584e78326d5599b79c00501489ddab1559eaf05b78", func := "purser/purserlaw14.FundsRooms", spec := "fundsRooms", unfollowed := true, recurses := true, apart := false }
def FundsRoomsSaid : Prop := fundsRoomsRow.holds Try.pinned (OpenSpec.ofChange fundsRoomsSpec)

/-- ITS FALSE NEIGHBOUR: 'it returns false'. Refute it at one input. -/
def fundsRoomsWrong : ChangeSpec := { name := "fundsRooms", fn := fun _ => fun
  | [d1, d2] => { results := [.lit (.bool false)], args := [d1, d2] }
  | _ => none }
def FundsRoomsWrongFalsely : Prop := fundsRoomsRow.holds Try.pinned (OpenSpec.ofChange fundsRoomsWrong)

/-- 'purserlaw14.FundsRolls': WHATEVER THE INPUT: true; the input reads as it did. -/
def fundsRollsSpec : ChangeSpec := { name := "fundsRolls", fn := fun _ => fun
  | [d1, d2, d3] => { results := [.lit (.bool true)], args := [d1, d2, d3] }
  | _ => none }
def fundsRollsRow : OpenClaim := { program := "ytjcabccolkmlmaa", sum := "c06b39df686742825ff937584e78326d5599b79c00501489ddab1559eaf05b78", func := "purser/purserlaw14.FundsRolls", spec := "fundsRolls", unfollowed := true, recurses := true, apart := false }
def FundsRollsSaid : Prop := fundsRollsRow.holds Try.pinned (OpenSpec.ofChange fundsRollsSpec)

/-- ITS FALSE NEIGHBOUR: 'it returns false'. Refute it at one input. -/
def fundsRollsWrong : ChangeSpec := { name := "fundsRolls", fn := fun _ => fun
  | [d1, d2, d3] => { results := [.lit (.bool false)], args := [d1, d2, d3] }
  | _ => none }
def FundsRollsWrongFalsely : Prop := fundsRollsRow.holds Try.pinned (OpenSpec.ofChange fundsRollsWrong)

/-- 'purserlaw04.DiskTears': WHATEVER THE INPUT: true; the input reads as it did. -/
def diskTearsSpec : ChangeSpec := { name := "diskTears", fn := fun _ => fun
  | [d1, d2, d3] => { results := [.lit (.bool true)], args := [d1, d2, d3] }
  | _ => none }
def diskTearsRow : OpenClaim := { program := "ytjcabccolkmlmaa", sum := "c06b39df686742825ff937584e78326d5599b79c00501489ddab1559eaf05b78", func := "purser/purserlaw04.DiskTears", spec := "diskTears", unfollowed := true, recurses := true, apart := false }
def DiskTearsSaid : Prop := diskTearsRow.holds Try.pinned (OpenSpec.ofChange diskTearsSpec)

/-- ITS FALSE NEIGHBOUR: 'it returns false'. Refute it at one input. -/
def diskTearsWrong : ChangeSpec := { name := "diskTears", fn := fun _ => fun
  | [d1, d2, d3] => { results := [.lit (.bool false)], args := [d1, d2, d3] }
  | _ => none }
def DiskTearsWrongFalsely : Prop := diskTearsRow.holds Try.pinned (OpenSpec.ofChange diskTearsWrong)

/-- 'purserlaw04.DiskJobs': WHATEVER THE INPUT: true; the input reads as it did. -/
def diskJobsSpec : ChangeSpec := { name := "diskJobs", fn := fun _ => fun
  | [d1, d2] => { results := [.lit (.bool true)], args := [d1, d2] }
  | _ => none }
def diskJobsRow : OpenClaim := { program := "ytjcabccolkmlmaa", sum := "c06b39df686742825ff937584e78326d5599b79c00501489ddab1559eaf05b78", func := "purser/purserlaw04.DiskJobs", spec := "diskJobs", unfollowed := true, recurses := true, apart := false }
def DiskJobsSaid : Prop := diskJobsRow.holds Try.pinned (OpenSpec.ofChange diskJobsSpec)

/-- ITS FALSE NEIGHBOUR: 'it returns false'. Refute it at one input. -/
def diskJobsWrong : ChangeSpec := { name := "diskJobs", fn := fun _ => fun
  | [d1, d2] => { results := [.lit (.bool false)], args := [d1, d2] }
  | _ => none }
def DiskJobsWrongFalsely : Prop := diskJobsRow.holds Try.pinned (OpenSpec.ofChange diskJobsWrong)

/-- 'purserlaw04.DiskLasts': WHATEVER THE INPUT: true; the input reads as it did. -/
def diskLastsSpec : ChangeSpec := { name := "diskLasts", fn := fun _ => fun
  | [d1, d2, d3] => { results := [.lit (.bool true)], args := [d1, d2, d3] }
  | _ => none }
def diskLastsRow : OpenClaim := { program := "ytjcabccolkmlmaa", sum := "c06b39df686742825ff937584e78326d5599b79c00501489ddab1559eaf05b78", func := "purser/purserlaw04.DiskLasts", spec := "diskLasts", unfollowed := true, recurses := true, apart := false }
def DiskLastsSaid : Prop := diskLastsRow.holds Try.pinned (OpenSpec.ofChange diskLastsSpec)

/-- ITS FALSE NEIGHBOUR: 'it returns false'. Refute it at one input. -/
def diskLastsWrong : ChangeSpec := { name := "diskLasts", fn := fun _ => fun
  | [d1, d2, d3] => { results := [.lit (.bool false)], args := [d1, d2, d3] }
  | _ => none }
def DiskLastsWrongFalsely : Prop := diskLastsRow.holds Try.pinned (OpenSpec.ofChange diskLastsWrong)

/-- 'purserlaw04.DiskNews': WHATEVER THE INPUT: true; the input reads as it did. -/
def diskNewsSpec : ChangeSpec := { name := "diskNews", fn := fun _ => fun
  | [d] => { results := [.lit (.bool true)], args := [d] }
  | _ => none }
def diskNewsRow : OpenClaim := { program := "ytjcabccolkmlmaa", sum := "c06b39df686742825ff937584e78326d5599b79c00501489ddab1559eaf05b78", func := "purser/purserlaw04.DiskNews", spec := "diskNews", unfollowed := true, recurses := true, apart := false }
def DiskNewsSaid : Prop := diskNewsRow.holds Try.pinned (OpenSpec.ofChange diskNewsSpec)

/-- ITS FALSE NEIGHBOUR: 'it returns false'. Refute it at one input. -/
def diskNewsWrong : ChangeSpec := { name := "diskNews", fn := fun _ => fun
  | [d] => { results := [.lit (.bool false)], args := [d] }
  | _ => none }
def DiskNewsWrongFalsely : Prop := diskNewsRow.holds Try.pinned (OpenSpec.ofChange diskNewsWrong)

/-- 'purserlaw13.TreeFull': WHATEVER THE INPUT: true; the input reads as it did. -/
def treeFullSpec : ChangeSpec := { name := "treeFull", fn := fun _ => fun
  | [d1, d2] => { results := [.lit (.bool true)], args := [d1, d2] }
  | _ => none }
def treeFullRow : OpenClaim := { program := "ytjcabccolkmlmaa", sum := "c06b39df686742825ff937584e78326d5599b79c00501489ddab1559eaf05b78", func := "purser/purserlaw13.TreeFull", spec := "treeFull", unfollowed := true, recurses := true, apart := false }
def TreeFullSaid : Prop := treeFullRow.holds Try.pinned (OpenSpec.ofChange treeFullSpec)

/-- ITS FALSE NEIGHBOUR: 'it returns false'. Refute it at one input. -/
def treeFullWrong : ChangeSpec := { name := "treeFull", fn := fun _ => fun
  | [d1, d2] => { results := [.lit (.bool false)], args := [d1, d2] }
  | _ => none }
def TreeFullWrongFalsely : Prop := treeFullRow.holds Try.pinned (OpenSpec.ofChange treeFullWrong)

/-- 'purserlaw13.TreeActs': WHATEVER THE INPUT: true; the input reads as it did. -/
def treeActsSpec : ChangeSpec := { name := "treeActs", fn := fun _ => fun
  | [d1, d2] => { results := [.lit (.bool true)], args := [d1, d2] }
  | _ => none }
def treeActsRow : OpenClaim := { program := "ytjcabccolkmlmaa", sum := "c06b39df686742825ff937584e78326d5599b79c00501489ddab1559eaf05b78", func := "purser/purserlaw13.TreeActs", spec := "treeActs", unfollowed := true, recurses := true, apart := false }
def TreeActsSaid : Prop := treeActsRow.holds Try.pinned (OpenSpec.ofChange treeActsSpec)

/-- ITS FALSE NEIGHBOUR: 'it returns false'. Refute it at one input. -/
def treeActsWrong : ChangeSpec := { name := "treeActs", fn := fun _ => fun
  | [d1, d2] => { results := [.lit (.bool false)], args := [d1, d2] }
  | _ => none }
def TreeActsWrongFalsely : Prop := treeActsRow.holds Try.pinned (OpenSpec.ofChange treeActsWrong)

/-- 'purserlaw13.TreePaths': WHATEVER THE INPUT: true; the input reads as it did. -/
def treePathsSpec : ChangeSpec := { name := "treePaths", fn := fun _ => fun
  | [d] => { results := [.lit (.bool true)], args := [d] }
  | _ => none }
def treePathsRow : OpenClaim := { program := "ytjcabccolkmlmaa", sum := "c06b39df686742825ff937584e78326d5599b79c00501489ddab1559eaf05b78", func := "purser/purserlaw13.TreePaths", spec := "treePaths", unfollowed := true, recurses := true, apart := false }
def TreePathsSaid : Prop := treePathsRow.holds Try.pinned (OpenSpec.ofChange treePathsSpec)

/-- ITS FALSE NEIGHBOUR: 'it returns false'. Refute it at one input. -/
def treePathsWrong : ChangeSpec := { name := "treePaths", fn := fun _ => fun
  | [d] => { results := [.lit (.bool false)], args := [d] }
  | _ => none }
def TreePathsWrongFalsely : Prop := treePathsRow.holds Try.pinned (OpenSpec.ofChange treePathsWrong)

/-- 'purserlaw13.TreeMoves': WHATEVER THE INPUT: true; the input reads as it did. -/
def treeMovesSpec : ChangeSpec := { name := "treeMoves", fn := fun _ => fun
  | [d1, d2, d3] => { results := [.lit (.bool true)], args := [d1, d2, d3] }
  | _ => none }
def treeMovesRow : OpenClaim := { program := "ytjcabccolkmlmaa", sum := "c06b39df686742825ff937584e78326d5599b79c00501489ddab1559eaf05b78", func := "purser/purserlaw13.TreeMoves", spec := "treeMoves", unfollowed := true, recurses := true, apart := false }
def TreeMovesSaid : Prop := treeMovesRow.holds Try.pinned (OpenSpec.ofChange treeMovesSpec)

/-- ITS FALSE NEIGHBOUR: 'it returns false'. Refute it at one input. -/
def treeMovesWrong : ChangeSpec := { name := "treeMoves", fn := fun _ => fun
  | [d1, d2, d3] => { results := [.lit (.bool false)], args := [d1, d2, d3] }
  | _ => none }
def TreeMovesWrongFalsely : Prop := treeMovesRow.holds Try.pinned (OpenSpec.ofChange treeMovesWrong)

/-- 'purserlaw14.FundsActs': WHATEVER THE INPUT: true; the input reads as it did. -/
def fundsActsSpec : ChangeSpec := { name := "fundsActs", fn := fun _ => fun
  | [d1, d2] => { results := [.lit (.bool true)], args := [d1, d2] }
  | _ => none }
def fundsActsRow : OpenClaim := { program := "ytjcabccolkmlmaa", sum := "c06b39df686742825ff937584e78326d5599b79c00501489ddab1559eaf05b78", func := "purser/purserlaw14.FundsActs", spec := "fundsActs", unfollowed := true, recurses := true, apart := false }
def FundsActsSaid : Prop := fundsActsRow.holds Try.pinned (OpenSpec.ofChange fundsActsSpec)

/-- ITS FALSE NEIGHBOUR: 'it returns false'. Refute it at one input. -/
def fundsActsWrong : ChangeSpec := { name := "fundsActs", fn := fun _ => fun
  | [d1, d2] => { results := [.lit (.bool false)], args := [d1, d2] }
  | _ => none }
def FundsActsWrongFalsely : Prop := fundsActsRow.holds Try.pinned (OpenSpec.ofChange fundsActsWrong)

/-- 'purserlaw14.FundsBack': WHATEVER THE INPUT: true; the input reads as it did. -/
def fundsBackSpec : ChangeSpec := { name := "fundsBack", fn := fun _ => fun
  | [d1, d2, d3] => { results := [.lit (.bool true)], args := [d1, d2, d3] }
  | _ => none }
def fundsBackRow : OpenClaim := { program := "ytjcabccolkmlmaa", sum := "c06b39df686742825ff937584e78326d5599b79c00501489ddab1559eaf05b78", func := "purser/purserlaw14.FundsBack", spec := "fundsBack", unfollowed := true, recurses := true, apart := false }
def FundsBackSaid : Prop := fundsBackRow.holds Try.pinned (OpenSpec.ofChange fundsBackSpec)

/-- ITS FALSE NEIGHBOUR: 'it returns false'. Refute it at one input. -/
def fundsBackWrong : ChangeSpec := { name := "fundsBack", fn := fun _ => fun
  | [d1, d2, d3] => { results := [.lit (.bool false)], args := [d1, d2, d3] }
  | _ => none }
def FundsBackWrongFalsely : Prop := fundsBackRow.holds Try.pinned (OpenSpec.ofChange fundsBackWrong)

/- THE SECOND FORM. 'bulk': how many values and letters a reading holds, each counted each time it is reached (what is shared counts as often as it is met; a slice's spare places count too). A statement '..UptoSaid' is the law's where the arguments, and the package variables that the reading takes, are together of bulk at most 1048576: NARROWER than '..Said'. Prove '..Said' where nothing that the law and all that it calls make is longer than what came in: it says more and counts as full. Else prove '..UptoSaid'. A law counts once. -/
mutual
def uptoBulk {H : Type} : DataW H → Nat
  | .lit (.string bytes) => bytes.length + 1
  | .lit _ => 1
  | .nil => 1
  | .ptr d => uptoBulk d + 1
  | .slice elems spare => uptoBulkAll elems + uptoBulkAll spare + 1
  | .agg parts => uptoBulkAll parts + 1
  | .iface _ d => uptoBulk d + 1
  | .map entries => uptoBulkEntries entries + 1
  | .held _ => 1
def uptoBulkAll {H : Type} : List (DataW H) → Nat
  | [] => 0
  | d :: r => uptoBulk d + uptoBulkAll r
def uptoBulkEntries {H : Type} : List (Lit × DataW H) → Nat
  | [] => 0
  | x :: r => uptoBulkEntry x + uptoBulkEntries r
def uptoBulkEntry {H : Type} : Lit × DataW H → Nat
  | (.string bytes, d) => bytes.length + uptoBulk d + 1
  | (_, d) => uptoBulk d + 1
 end
def uptoSmall : (H : Type) → List (DataW H) → Bool := fun _ ds => decide (uptoBulkAll ds ≤ 1048576)
def OpenSpec.upto (s : _root_.Go.ChangeSpec) : _root_.Go.OpenSpec := { _root_.Go.OpenSpec.ofChange s with cond := some uptoSmall }

/-- 'purserlaw14.FundsRooms', WHERE WHAT IT READS IS OF BULK AT MOST 1048576: true; the input reads as it did. -/
def fundsRoomsUptoRow : OpenClaim := { program := "ytjcabccolkmlmaa", sum := "c06b39df686742825ff937584e78326d5599b79c00501489ddab1559eaf05b78", func := "purser/purserlaw14.FundsRooms", spec := "fundsRooms", unfollowed := true, recurses := true, apart := false, narrowed := true }
def FundsRoomsUptoSaid : Prop := fundsRoomsUptoRow.holds Try.pinned (OpenSpec.upto fundsRoomsSpec)

/-- 'purserlaw14.FundsRolls', WHERE WHAT IT READS IS OF BULK AT MOST 1048576: true; the input reads as it did. -/
def fundsRollsUptoRow : OpenClaim := { program := "ytjcabccolkmlmaa", sum := "c06b39df686742825ff937584e78326d5599b79c00501489ddab1559eaf05b78", func := "purser/purserlaw14.FundsRolls", spec := "fundsRolls", unfollowed := true, recurses := true, apart := false, narrowed := true }
def FundsRollsUptoSaid : Prop := fundsRollsUptoRow.holds Try.pinned (OpenSpec.upto fundsRollsSpec)

/-- 'purserlaw04.DiskTears', WHERE WHAT IT READS IS OF BULK AT MOST 1048576: true; the input reads as it did. -/
def diskTearsUptoRow : OpenClaim := { program := "ytjcabccolkmlmaa", sum := "c06b39df686742825ff937584e78326d5599b79c00501489ddab1559eaf05b78", func := "purser/purserlaw04.DiskTears", spec := "diskTears", unfollowed := true, recurses := true, apart := false, narrowed := true }
def DiskTearsUptoSaid : Prop := diskTearsUptoRow.holds Try.pinned (OpenSpec.upto diskTearsSpec)

/-- 'purserlaw04.DiskJobs', WHERE WHAT IT READS IS OF BULK AT MOST 1048576: true; the input reads as it did. -/
def diskJobsUptoRow : OpenClaim := { program := "ytjcabccolkmlmaa", sum := "c06b39df686742825ff937584e78326d5599b79c00501489ddab1559eaf05b78", func := "purser/purserlaw04.DiskJobs", spec := "diskJobs", unfollowed := true, recurses := true, apart := false, narrowed := true }
def DiskJobsUptoSaid : Prop := diskJobsUptoRow.holds Try.pinned (OpenSpec.upto diskJobsSpec)

/-- 'purserlaw04.DiskLasts', WHERE WHAT IT READS IS OF BULK AT MOST 1048576: true; the input reads as it did. -/
def diskLastsUptoRow : OpenClaim := { program := "ytjcabccolkmlmaa", sum := "c06b39df686742825ff937584e78326d5599b79c00501489ddab1559eaf05b78", func := "purser/purserlaw04.DiskLasts", spec := "diskLasts", unfollowed := true, recurses := true, apart := false, narrowed := true }
def DiskLastsUptoSaid : Prop := diskLastsUptoRow.holds Try.pinned (OpenSpec.upto diskLastsSpec)

/-- 'purserlaw04.DiskNews', WHERE WHAT IT READS IS OF BULK AT MOST 1048576: true; the input reads as it did. -/
def diskNewsUptoRow : OpenClaim := { program := "ytjcabccolkmlmaa", sum := "c06b39df686742825ff937584e78326d5599b79c00501489ddab1559eaf05b78", func := "purser/purserlaw04.DiskNews", spec := "diskNews", unfollowed := true, recurses := true, apart := false, narrowed := true }
def DiskNewsUptoSaid : Prop := diskNewsUptoRow.holds Try.pinned (OpenSpec.upto diskNewsSpec)

/-- 'purserlaw13.TreeFull', WHERE WHAT IT READS IS OF BULK AT MOST 1048576: true; the input reads as it did. -/
def treeFullUptoRow : OpenClaim := { program := "ytjcabccolkmlmaa", sum := "c06b39df686742825ff937584e78326d5599b79c00501489ddab1559eaf05b78", func := "purser/purserlaw13.TreeFull", spec := "treeFull", unfollowed := true, recurses := true, apart := false, narrowed := true }
def TreeFullUptoSaid : Prop := treeFullUptoRow.holds Try.pinned (OpenSpec.upto treeFullSpec)

/-- 'purserlaw13.TreeActs', WHERE WHAT IT READS IS OF BULK AT MOST 1048576: true; the input reads as it did. -/
def treeActsUptoRow : OpenClaim := { program := "ytjcabccolkmlmaa", sum := "c06b39df686742825ff937584e78326d5599b79c00501489ddab1559eaf05b78", func := "purser/purserlaw13.TreeActs", spec := "treeActs", unfollowed := true, recurses := true, apart := false, narrowed := true }
def TreeActsUptoSaid : Prop := treeActsUptoRow.holds Try.pinned (OpenSpec.upto treeActsSpec)

/-- 'purserlaw13.TreePaths', WHERE WHAT IT READS IS OF BULK AT MOST 1048576: true; the input reads as it did. -/
def treePathsUptoRow : OpenClaim := { program := "ytjcabccolkmlmaa", sum := "c06b39df686742825ff937584e78326d5599b79c00501489ddab1559eaf05b78", func := "purser/purserlaw13.TreePaths", spec := "treePaths", unfollowed := true, recurses := true, apart := false, narrowed := true }
def TreePathsUptoSaid : Prop := treePathsUptoRow.holds Try.pinned (OpenSpec.upto treePathsSpec)

/-- 'purserlaw13.TreeMoves', WHERE WHAT IT READS IS OF BULK AT MOST 1048576: true; the input reads as it did. -/
def treeMovesUptoRow : OpenClaim := { program := "ytjcabccolkmlmaa", sum := "c06b39df686742825ff937584e78326d5599b79c00501489ddab1559eaf05b78", func := "purser/purserlaw13.TreeMoves", spec := "treeMoves", unfollowed := true, recurses := true, apart := false, narrowed := true }
def TreeMovesUptoSaid : Prop := treeMovesUptoRow.holds Try.pinned (OpenSpec.upto treeMovesSpec)

/-- 'purserlaw14.FundsActs', WHERE WHAT IT READS IS OF BULK AT MOST 1048576: true; the input reads as it did. -/
def fundsActsUptoRow : OpenClaim := { program := "ytjcabccolkmlmaa", sum := "c06b39df686742825ff937584e78326d5599b79c00501489ddab1559eaf05b78", func := "purser/purserlaw14.FundsActs", spec := "fundsActs", unfollowed := true, recurses := true, apart := false, narrowed := true }
def FundsActsUptoSaid : Prop := fundsActsUptoRow.holds Try.pinned (OpenSpec.upto fundsActsSpec)

/-- 'purserlaw14.FundsBack', WHERE WHAT IT READS IS OF BULK AT MOST 1048576: true; the input reads as it did. -/
def fundsBackUptoRow : OpenClaim := { program := "ytjcabccolkmlmaa", sum := "c06b39df686742825ff937584e78326d5599b79c00501489ddab1559eaf05b78", func := "purser/purserlaw14.FundsBack", spec := "fundsBack", unfollowed := true, recurses := true, apart := false, narrowed := true }
def FundsBackUptoSaid : Prop := fundsBackUptoRow.holds Try.pinned (OpenSpec.upto fundsBackSpec)

end Rows
end Go.Proofs.Ytjcabccolkmlmaa
