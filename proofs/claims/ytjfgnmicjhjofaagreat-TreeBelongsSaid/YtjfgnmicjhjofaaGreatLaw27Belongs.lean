/- TreeBelongs returns true, whatever its two arguments are, and leaves them as they were: no condition. -/
import Derived.Test.YtjfgnmicjhjofaaGreatTj
import Derived.Test.YtjfgnmicjhjofaaGreatAw27
set_option linter.unusedVariables false
set_option linter.unusedSimpArgs false
namespace Go.Proofs.YtjfgnmicjhjofaaGreat
theorem awake27b : Go.AH.FC Tryz.prog 9 [] [] (.bool true) [] := Go.AH.Aw.s19 Go.AH.Aw.e19 (by simp [Go.AH.Aw.T19])
theorem treeBelongs_holds : Rows.TreeBelongsSaid := TR.over4 awake27b
#print axioms treeBelongs_holds
end Go.Proofs.YtjfgnmicjhjofaaGreat
