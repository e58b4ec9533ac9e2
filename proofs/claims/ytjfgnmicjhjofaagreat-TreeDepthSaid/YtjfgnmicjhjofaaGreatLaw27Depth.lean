/- TreeDepth returns true, whatever its three arguments are, and leaves them as they were: no condition. -/
import Derived.Test.YtjfgnmicjhjofaaGreatTg
import Derived.Test.YtjfgnmicjhjofaaGreatAw27
set_option linter.unusedVariables false
set_option linter.unusedSimpArgs false
namespace Go.Proofs.YtjfgnmicjhjofaaGreat
theorem awake27 : Go.AH.FC Tryz.prog 9 [] [] (.bool true) [] := Go.AH.Aw.s19 Go.AH.Aw.e19 (by simp [Go.AH.Aw.T19])
theorem treeDepth_holds : Rows.TreeDepthSaid := TR.over awake27
#print axioms treeDepth_holds
end Go.Proofs.YtjfgnmicjhjofaaGreat
