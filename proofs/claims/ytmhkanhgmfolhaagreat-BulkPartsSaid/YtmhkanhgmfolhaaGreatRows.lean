/-
  No cell of these rows narrows 'for every input' (looked for: loops, veiled, ifaces, maps, wideKeys, modest, calm, conditions, laid).
  DERIVED. THE GIVEN ROWS OF THIS SEAT. 4 by the template 'for every input the law returns true; each argument reads behind the call as it read before'; 0 by the template 'total and deterministic' (their statements: YtmhkanhgmfolhaaGreatTotals.lean).
  GIVEN WITH THE SEED: the statements are not yours to turn. If you find one false, say at which input.
  Laid BY PROGRAM, IN A SANDBOX (cutbox-rows.mjs): the forced cells as the released guide's own fill.sh prints them over the translation 82070c33f713063b… (all of the seat's roots in one cut). By AI agents, Wed Nov 11 2026. No macro, syntax, notation, axiom, sorry.
-/
import Derived.Test.YtmhkanhgmfolhaaGreatChecked
import GoSem.Claim
import GoSem.ClaimJoined
import GoSem.ClaimMapViews
import Derived.JoinedTies
import Derived.KernelRfl
namespace Go.Proofs.YtmhkanhgmfolhaaGreat
/- THE CELL 'sum', in the pinned program and in every row, IS THE sha256 OF THE DUMP (.gsa) THAT YtmhkanhgmfolhaaGreatProg.lean LOADS. Nothing in Lean hashes anything: it is a label: what it is worth is what the hold of that sum in a sandbox is worth. -/
noncomputable def Tryz.pinned : Pinned := { name := "ytmhkanhgmfolhaagreat", sum := "82070c33f713063bf79f44e73f8790921fe5fc2ee9d1f585d6413e5bfdd05231", checked := Tryz.checked }
namespace Rows
def none {H : Type} : Left H := { results := [], args := [] }

/-- 'shapesearchlaw28.BulkLoads': WHATEVER THE INPUT: true; the input reads as it did. -/
def bulkLoadsSpec : ChangeSpec := { name := "bulkLoads", fn := fun _ => fun
  | [d1, d2, d3] => { results := [.lit (.bool true)], args := [d1, d2, d3] }
  | _ => none }
def bulkLoadsRow : OpenClaim := { program := "ytmhkanhgmfolhaagreat", sum := "82070c33f713063bf79f44e73f8790921fe5fc2ee9d1f585d6413e5bfdd05231", func := "shapesearch/shapesearchlaw28.BulkLoads", spec := "bulkLoads", unfollowed := true, recurses := true, apart := false }
def BulkLoadsSaid : Prop := bulkLoadsRow.holds Tryz.pinned (OpenSpec.ofChange bulkLoadsSpec)

/-- ITS FALSE NEIGHBOUR: 'it returns false'. Refute it at one input. -/
def bulkLoadsWrong : ChangeSpec := { name := "bulkLoads", fn := fun _ => fun
  | [d1, d2, d3] => { results := [.lit (.bool false)], args := [d1, d2, d3] }
  | _ => none }
def BulkLoadsWrongFalsely : Prop := bulkLoadsRow.holds Tryz.pinned (OpenSpec.ofChange bulkLoadsWrong)

/-- 'shapesearchlaw28.BulkMade': WHATEVER THE INPUT: true; the input reads as it did. -/
def bulkMadeSpec : ChangeSpec := { name := "bulkMade", fn := fun _ => fun
  | [d1, d2, d3, d4, d5] => { results := [.lit (.bool true)], args := [d1, d2, d3, d4, d5] }
  | _ => none }
def bulkMadeRow : OpenClaim := { program := "ytmhkanhgmfolhaagreat", sum := "82070c33f713063bf79f44e73f8790921fe5fc2ee9d1f585d6413e5bfdd05231", func := "shapesearch/shapesearchlaw28.BulkMade", spec := "bulkMade", unfollowed := true, recurses := true, apart := false }
def BulkMadeSaid : Prop := bulkMadeRow.holds Tryz.pinned (OpenSpec.ofChange bulkMadeSpec)

/-- ITS FALSE NEIGHBOUR: 'it returns false'. Refute it at one input. -/
def bulkMadeWrong : ChangeSpec := { name := "bulkMade", fn := fun _ => fun
  | [d1, d2, d3, d4, d5] => { results := [.lit (.bool false)], args := [d1, d2, d3, d4, d5] }
  | _ => none }
def BulkMadeWrongFalsely : Prop := bulkMadeRow.holds Tryz.pinned (OpenSpec.ofChange bulkMadeWrong)

/-- 'shapesearchlaw28.BulkGrows': WHATEVER THE INPUT: true; the input reads as it did. -/
def bulkGrowsSpec : ChangeSpec := { name := "bulkGrows", fn := fun _ => fun
  | [d1, d2] => { results := [.lit (.bool true)], args := [d1, d2] }
  | _ => none }
def bulkGrowsRow : OpenClaim := { program := "ytmhkanhgmfolhaagreat", sum := "82070c33f713063bf79f44e73f8790921fe5fc2ee9d1f585d6413e5bfdd05231", func := "shapesearch/shapesearchlaw28.BulkGrows", spec := "bulkGrows", unfollowed := true, recurses := true, apart := false }
def BulkGrowsSaid : Prop := bulkGrowsRow.holds Tryz.pinned (OpenSpec.ofChange bulkGrowsSpec)

/-- ITS FALSE NEIGHBOUR: 'it returns false'. Refute it at one input. -/
def bulkGrowsWrong : ChangeSpec := { name := "bulkGrows", fn := fun _ => fun
  | [d1, d2] => { results := [.lit (.bool false)], args := [d1, d2] }
  | _ => none }
def BulkGrowsWrongFalsely : Prop := bulkGrowsRow.holds Tryz.pinned (OpenSpec.ofChange bulkGrowsWrong)

/-- 'shapesearchlaw28.BulkParts': WHATEVER THE INPUT: true; the input reads as it did. -/
def bulkPartsSpec : ChangeSpec := { name := "bulkParts", fn := fun _ => fun
  | [d1, d2] => { results := [.lit (.bool true)], args := [d1, d2] }
  | _ => none }
def bulkPartsRow : OpenClaim := { program := "ytmhkanhgmfolhaagreat", sum := "82070c33f713063bf79f44e73f8790921fe5fc2ee9d1f585d6413e5bfdd05231", func := "shapesearch/shapesearchlaw28.BulkParts", spec := "bulkParts", unfollowed := true, recurses := true, apart := false }
def BulkPartsSaid : Prop := bulkPartsRow.holds Tryz.pinned (OpenSpec.ofChange bulkPartsSpec)

/-- ITS FALSE NEIGHBOUR: 'it returns false'. Refute it at one input. -/
def bulkPartsWrong : ChangeSpec := { name := "bulkParts", fn := fun _ => fun
  | [d1, d2] => { results := [.lit (.bool false)], args := [d1, d2] }
  | _ => none }
def BulkPartsWrongFalsely : Prop := bulkPartsRow.holds Tryz.pinned (OpenSpec.ofChange bulkPartsWrong)

/- THE SECOND FORM. 'bulk': how many values and letters a reading holds, each counted each time it is reached (what is shared counts as often as it is met; a slice's spare places count too). A statement '..UptoSaid' is the law's where the arguments, and the package variables that the reading takes, are together of bulk at most 1048576: NARROWER than '..Said'. Prove '..Said' where nothing that the law and all that it calls make is longer than what came in: it says more and counts as full. Else prove '..UptoSaid'. A law counts once. -/
mutual
def uptoBulk {H : Type} : DataW H → Nat
  | .lit (.string bytes) => bytes.length + 1
  | .lit _ => 1
  | .nil => 1
  | .ptr d => uptoBulk d + 1
  | .slice elems spare => uptoBulkAll elems + uptoBulkAll spare + 1
  | .agg parts => uptoBulkAll parts + 1
  | .iface _ d => uptoBulk d + 1
  | .map entries => uptoBulkEntries entries + 1
  | .held _ => 1
def uptoBulkAll {H : Type} : List (DataW H) → Nat
  | [] => 0
  | d :: r => uptoBulk d + uptoBulkAll r
def uptoBulkEntries {H : Type} : List (Lit × DataW H) → Nat
  | [] => 0
  | x :: r => uptoBulkEntry x + uptoBulkEntries r
def uptoBulkEntry {H : Type} : Lit × DataW H → Nat
  | (.string bytes, d) => bytes.length + uptoBulk d + 1
  | (_, d) => uptoBulk d + 1
 end
def uptoSmall : (H : Type) → List (DataW H) → Bool := fun _ ds => decide (uptoBulkAll ds ≤ 1048576)
def OpenSpec.upto (s : _root_.Go.ChangeSpec) : _root_.Go.OpenSpec := { _root_.Go.OpenSpec.ofChange s with cond := some uptoSmall }

/-- 'shapesearchlaw28.BulkLoads', WHERE WHAT IT READS IS OF BULK AT MOST 1048576: true; the input reads as it did. -/
def bulkLoadsUptoRow : OpenClaim := { program := "ytmhkanhgmfolhaagreat", sum := "82070c33f713063bf79f44e73f8790921fe5fc2ee9d1f585d6413e5bfdd05231", func := "shapesearch/shapesearchlaw28.BulkLoads", spec := "bulkLoads", unfollowed := true, recurses := true, apart := false, narrowed := true }
def BulkLoadsUptoSaid : Prop := bulkLoadsUptoRow.holds Tryz.pinned (OpenSpec.upto bulkLoadsSpec)

/-- 'shapesearchlaw28.BulkMade', WHERE WHAT IT READS IS OF BULK AT MOST 1048576: true; the input reads as it did. -/
def bulkMadeUptoRow : OpenClaim := { program := "ytmhkanhgmfolhaagreat", sum := "82070c33f713063bf79f44e73f8790921fe5fc2ee9d1f585d6413e5bfdd05231", func := "shapesearch/shapesearchlaw28.BulkMade", spec := "bulkMade", unfollowed := true, recurses := true, apart := false, narrowed := true }
def BulkMadeUptoSaid : Prop := bulkMadeUptoRow.holds Tryz.pinned (OpenSpec.upto bulkMadeSpec)

/-- 'shapesearchlaw28.BulkGrows', WHERE WHAT IT READS IS OF BULK AT MOST 1048576: true; the input reads as it did. -/
def bulkGrowsUptoRow : OpenClaim := { program := "ytmhkanhgmfolhaagreat", sum := "82070c33f713063bf79f44e73f8790921fe5fc2ee9d1f585d6413e5bfdd05231", func := "shapesearch/shapesearchlaw28.BulkGrows", spec := "bulkGrows", unfollowed := true, recurses := true, apart := false, narrowed := true }
def BulkGrowsUptoSaid : Prop := bulkGrowsUptoRow.holds Tryz.pinned (OpenSpec.upto bulkGrowsSpec)

/-- 'shapesearchlaw28.BulkParts', WHERE WHAT IT READS IS OF BULK AT MOST 1048576: true; the input reads as it did. -/
def bulkPartsUptoRow : OpenClaim := { program := "ytmhkanhgmfolhaagreat", sum := "82070c33f713063bf79f44e73f8790921fe5fc2ee9d1f585d6413e5bfdd05231", func := "shapesearch/shapesearchlaw28.BulkParts", spec := "bulkParts", unfollowed := true, recurses := true, apart := false, narrowed := true }
def BulkPartsUptoSaid : Prop := bulkPartsUptoRow.holds Tryz.pinned (OpenSpec.upto bulkPartsSpec)

end Rows
end Go.Proofs.YtmhkanhgmfolhaaGreat
