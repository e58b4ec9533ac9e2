/-
  No cell of these rows narrows 'for every input' (looked for: loops, veiled, ifaces, maps, wideKeys, modest, calm, conditions, laid).
  DERIVED. THE GIVEN ROWS OF THIS SEAT. 5 by the template 'for every input the law returns true; each argument reads behind the call as it read before'; 0 by the template 'total and deterministic' (their statements: YtjfgnmicjhjofaaGreatTotals.lean).
  GIVEN WITH THE SEED: the statements are not yours to turn. If you find one false, say at which input.
  Laid BY PROGRAM, IN A SANDBOX (cutbox-rows.mjs): the forced cells as the released guide's own fill.sh prints them over the translation 802e8ff8bda0f02f… (all of the seat's roots in one cut). By AI agents, Wed Nov 11 2026. No macro, syntax, notation, axiom, sorry.
-/
import Derived.Test.YtjfgnmicjhjofaaGreatChecked
import GoSem.Claim
import GoSem.ClaimJoined
import GoSem.ClaimMapViews
import Derived.JoinedTies
import Derived.KernelRfl
namespace Go.Proofs.YtjfgnmicjhjofaaGreat
/- THE CELL 'sum', in the pinned program and in every row, IS THE sha256 OF THE DUMP (.gsa) THAT YtjfgnmicjhjofaaGreatProg.lean LOADS. Nothing in Lean hashes anything: it is a label: what it is worth is what the hold of that sum in a sandbox is worth. -/
noncomputable def Tryz.pinned : Pinned := { name := "ytjfgnmicjhjofaagreat", sum := "802e8ff8bda0f02f85c81d115ec8b00014e35406ba0da806fb67a4b237832f02", checked := Tryz.checked }
namespace Rows
def none {H : Type} : Left H := { results := [], args := [] }

/-- 'shapesearchlaw27.TreeDepth': WHATEVER THE INPUT: true; the input reads as it did. -/
def treeDepthSpec : ChangeSpec := { name := "treeDepth", fn := fun _ => fun
  | [d1, d2, d3] => { results := [.lit (.bool true)], args := [d1, d2, d3] }
  | _ => none }
def treeDepthRow : OpenClaim := { program := "ytjfgnmicjhjofaagreat", sum := "802e8ff8bda0f02f85c81d115ec8b00014e35406ba0da806fb67a4b237832f02", func := "shapesearch/shapesearchlaw27.TreeDepth", spec := "treeDepth", inPlace := ["slices.overlaps[shapesearch/api.Entry]"], unfollowed := true, recurses := true, apart := false }
def TreeDepthSaid : Prop := treeDepthRow.holds Tryz.pinned (OpenSpec.ofChange treeDepthSpec)

/-- ITS FALSE NEIGHBOUR: 'it returns false'. Refute it at one input. -/
def treeDepthWrong : ChangeSpec := { name := "treeDepth", fn := fun _ => fun
  | [d1, d2, d3] => { results := [.lit (.bool false)], args := [d1, d2, d3] }
  | _ => none }
def TreeDepthWrongFalsely : Prop := treeDepthRow.holds Tryz.pinned (OpenSpec.ofChange treeDepthWrong)

/-- 'shapesearchlaw27.TreeBelongs': WHATEVER THE INPUT: true; the input reads as it did. -/
def treeBelongsSpec : ChangeSpec := { name := "treeBelongs", fn := fun _ => fun
  | [d1, d2] => { results := [.lit (.bool true)], args := [d1, d2] }
  | _ => none }
def treeBelongsRow : OpenClaim := { program := "ytjfgnmicjhjofaagreat", sum := "802e8ff8bda0f02f85c81d115ec8b00014e35406ba0da806fb67a4b237832f02", func := "shapesearch/shapesearchlaw27.TreeBelongs", spec := "treeBelongs", inPlace := ["slices.overlaps[shapesearch/api.Entry]"], unfollowed := true, recurses := true, apart := false }
def TreeBelongsSaid : Prop := treeBelongsRow.holds Tryz.pinned (OpenSpec.ofChange treeBelongsSpec)

/-- ITS FALSE NEIGHBOUR: 'it returns false'. Refute it at one input. -/
def treeBelongsWrong : ChangeSpec := { name := "treeBelongs", fn := fun _ => fun
  | [d1, d2] => { results := [.lit (.bool false)], args := [d1, d2] }
  | _ => none }
def TreeBelongsWrongFalsely : Prop := treeBelongsRow.holds Tryz.pinned (OpenSpec.ofChange treeBelongsWrong)

/-- 'shapesearchlaw27.TreeOrder': WHATEVER THE INPUT: true; the input reads as it did. -/
def treeOrderSpec : ChangeSpec := { name := "treeOrder", fn := fun _ => fun
  | [d1, d2, d3, d4] => { results := [.lit (.bool true)], args := [d1, d2, d3, d4] }
  | _ => none }
def treeOrderRow : OpenClaim := { program := "ytjfgnmicjhjofaagreat", sum := "802e8ff8bda0f02f85c81d115ec8b00014e35406ba0da806fb67a4b237832f02", func := "shapesearch/shapesearchlaw27.TreeOrder", spec := "treeOrder", inPlace := ["slices.overlaps[shapesearch/api.Entry]"], unfollowed := true, recurses := true, apart := false }
def TreeOrderSaid : Prop := treeOrderRow.holds Tryz.pinned (OpenSpec.ofChange treeOrderSpec)

/-- ITS FALSE NEIGHBOUR: 'it returns false'. Refute it at one input. -/
def treeOrderWrong : ChangeSpec := { name := "treeOrder", fn := fun _ => fun
  | [d1, d2, d3, d4] => { results := [.lit (.bool false)], args := [d1, d2, d3, d4] }
  | _ => none }
def TreeOrderWrongFalsely : Prop := treeOrderRow.holds Tryz.pinned (OpenSpec.ofChange treeOrderWrong)

/-- 'shapesearchlaw27.TreeRaw': WHATEVER THE INPUT: true; the input reads as it did. -/
def treeRawSpec : ChangeSpec := { name := "treeRaw", fn := fun _ => fun
  | [d1, d2, d3, d4, d5, d6] => { results := [.lit (.bool true)], args := [d1, d2, d3, d4, d5, d6] }
  | _ => none }
def treeRawRow : OpenClaim := { program := "ytjfgnmicjhjofaagreat", sum := "802e8ff8bda0f02f85c81d115ec8b00014e35406ba0da806fb67a4b237832f02", func := "shapesearch/shapesearchlaw27.TreeRaw", spec := "treeRaw", inPlace := ["slices.overlaps[shapesearch/api.Entry]"], unfollowed := true, recurses := true, apart := false }
def TreeRawSaid : Prop := treeRawRow.holds Tryz.pinned (OpenSpec.ofChange treeRawSpec)

/-- ITS FALSE NEIGHBOUR: 'it returns false'. Refute it at one input. -/
def treeRawWrong : ChangeSpec := { name := "treeRaw", fn := fun _ => fun
  | [d1, d2, d3, d4, d5, d6] => { results := [.lit (.bool false)], args := [d1, d2, d3, d4, d5, d6] }
  | _ => none }
def TreeRawWrongFalsely : Prop := treeRawRow.holds Tryz.pinned (OpenSpec.ofChange treeRawWrong)

/-- 'shapesearchlaw27.TreeMade': WHATEVER THE INPUT: true; the input reads as it did. -/
def treeMadeSpec : ChangeSpec := { name := "treeMade", fn := fun _ => fun
  | [d1, d2, d3] => { results := [.lit (.bool true)], args := [d1, d2, d3] }
  | _ => none }
def treeMadeRow : OpenClaim := { program := "ytjfgnmicjhjofaagreat", sum := "802e8ff8bda0f02f85c81d115ec8b00014e35406ba0da806fb67a4b237832f02", func := "shapesearch/shapesearchlaw27.TreeMade", spec := "treeMade", inPlace := ["slices.overlaps[shapesearch/api.Entry]"], unfollowed := true, recurses := true, apart := false }
def TreeMadeSaid : Prop := treeMadeRow.holds Tryz.pinned (OpenSpec.ofChange treeMadeSpec)

/-- ITS FALSE NEIGHBOUR: 'it returns false'. Refute it at one input. -/
def treeMadeWrong : ChangeSpec := { name := "treeMade", fn := fun _ => fun
  | [d1, d2, d3] => { results := [.lit (.bool false)], args := [d1, d2, d3] }
  | _ => none }
def TreeMadeWrongFalsely : Prop := treeMadeRow.holds Tryz.pinned (OpenSpec.ofChange treeMadeWrong)

/- THE SECOND FORM. 'bulk': how many values and letters a reading holds, each counted each time it is reached (what is shared counts as often as it is met; a slice's spare places count too). A statement '..UptoSaid' is the law's where the arguments, and the package variables that the reading takes, are together of bulk at most 1048576: NARROWER than '..Said'. Prove '..Said' where nothing that the law and all that it calls make is longer than what came in: it says more and counts as full. Else prove '..UptoSaid'. A law counts once. -/
mutual
def uptoBulk {H : Type} : DataW H → Nat
  | .lit (.string bytes) => bytes.length + 1
  | .lit _ => 1
  | .nil => 1
  | .ptr d => uptoBulk d + 1
  | .slice elems spare => uptoBulkAll elems + uptoBulkAll spare + 1
  | .agg parts => uptoBulkAll parts + 1
  | .iface _ d => uptoBulk d + 1
  | .map entries => uptoBulkEntries entries + 1
  | .held _ => 1
def uptoBulkAll {H : Type} : List (DataW H) → Nat
  | [] => 0
  | d :: r => uptoBulk d + uptoBulkAll r
def uptoBulkEntries {H : Type} : List (Lit × DataW H) → Nat
  | [] => 0
  | x :: r => uptoBulkEntry x + uptoBulkEntries r
def uptoBulkEntry {H : Type} : Lit × DataW H → Nat
  | (.string bytes, d) => bytes.length + uptoBulk d + 1
  | (_, d) => uptoBulk d + 1
 end
def uptoSmall : (H : Type) → List (DataW H) → Bool := fun _ ds => decide (uptoBulkAll ds ≤ 1048576)
def OpenSpec.upto (s : _root_.Go.ChangeSpec) : _root_.Go.OpenSpec := { _root_.Go.OpenSpec.ofChange s with cond := some uptoSmall }

/-- 'shapesearchlaw27.TreeDepth', WHERE WHAT IT READS IS OF BULK AT MOST 1048576: true; the input reads as it did. -/
def treeDepthUptoRow : OpenClaim := { program := "ytjfgnmicjhjofaagreat", sum := "802e8ff8bda0f02f85c81d115ec8b00014e35406ba0da806fb67a4b237832f02", func := "shapesearch/shapesearchlaw27.TreeDepth", spec := "treeDepth", inPlace := ["slices.overlaps[shapesearch/api.Entry]"], unfollowed := true, recurses := true, apart := false, narrowed := true }
def TreeDepthUptoSaid : Prop := treeDepthUptoRow.holds Tryz.pinned (OpenSpec.upto treeDepthSpec)

/-- 'shapesearchlaw27.TreeBelongs', WHERE WHAT IT READS IS OF BULK AT MOST 1048576: true; the input reads as it did. -/
def treeBelongsUptoRow : OpenClaim := { program := "ytjfgnmicjhjofaagreat", sum := "802e8ff8bda0f02f85c81d115ec8b00014e35406ba0da806fb67a4b237832f02", func := "shapesearch/shapesearchlaw27.TreeBelongs", spec := "treeBelongs", inPlace := ["slices.overlaps[shapesearch/api.Entry]"], unfollowed := true, recurses := true, apart := false, narrowed := true }
def TreeBelongsUptoSaid : Prop := treeBelongsUptoRow.holds Tryz.pinned (OpenSpec.upto treeBelongsSpec)

/-- 'shapesearchlaw27.TreeOrder', WHERE WHAT IT READS IS OF BULK AT MOST 1048576: true; the input reads as it did. -/
def treeOrderUptoRow : OpenClaim := { program := "ytjfgnmicjhjofaagreat", sum := "802e8ff8bda0f02f85c81d115ec8b00014e35406ba0da806fb67a4b237832f02", func := "shapesearch/shapesearchlaw27.TreeOrder", spec := "treeOrder", inPlace := ["slices.overlaps[shapesearch/api.Entry]"], unfollowed := true, recurses := true, apart := false, narrowed := true }
def TreeOrderUptoSaid : Prop := treeOrderUptoRow.holds Tryz.pinned (OpenSpec.upto treeOrderSpec)

/-- 'shapesearchlaw27.TreeRaw', WHERE WHAT IT READS IS OF BULK AT MOST 1048576: true; the input reads as it did. -/
def treeRawUptoRow : OpenClaim := { program := "ytjfgnmicjhjofaagreat", sum := "802e8ff8bda0f02f85c81d115ec8b00014e35406ba0da806fb67a4b237832f02", func := "shapesearch/shapesearchlaw27.TreeRaw", spec := "treeRaw", inPlace := ["slices.overlaps[shapesearch/api.Entry]"], unfollowed := true, recurses := true, apart := false, narrowed := true }
def TreeRawUptoSaid : Prop := treeRawUptoRow.holds Tryz.pinned (OpenSpec.upto treeRawSpec)

/-- 'shapesearchlaw27.TreeMade', WHERE WHAT IT READS IS OF BULK AT MOST 1048576: true; the input reads as it did. -/
def treeMadeUptoRow : OpenClaim := { program := "ytjfgnmicjhjofaagreat", sum := "802e8ff8bda0f02f85c81d115ec8b00014e35406ba0da806fb67a4b237832f02", func := "shapesearch/shapesearchlaw27.TreeMade", spec := "treeMade", inPlace := ["slices.overlaps[shapesearch/api.Entry]"], unfollowed := true, recurses := true, apart := false, narrowed := true }
def TreeMadeUptoSaid : Prop := treeMadeUptoRow.holds Tryz.pinned (OpenSpec.upto treeMadeSpec)

end Rows
end Go.Proofs.YtjfgnmicjhjofaaGreat
