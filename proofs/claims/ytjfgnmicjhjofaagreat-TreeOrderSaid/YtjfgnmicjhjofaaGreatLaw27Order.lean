/- TreeOrder returns true, whatever its four arguments are, and leaves them as they were: no condition. -/
import Derived.Test.YtjfgnmicjhjofaaGreatTg
import Derived.Test.YtjfgnmicjhjofaaGreatAw27
set_option linter.unusedVariables false
set_option linter.unusedSimpArgs false
namespace Go.Proofs.YtjfgnmicjhjofaaGreat
theorem awake27c : Go.AH.FC Tryz.prog 9 [] [] (.bool true) [] := Go.AH.Aw.s19 Go.AH.Aw.e19 (by simp [Go.AH.Aw.T19])
theorem treeOrder_holds : Rows.TreeOrderSaid := TR.over5 awake27c
#print axioms treeOrder_holds
end Go.Proofs.YtjfgnmicjhjofaaGreat
