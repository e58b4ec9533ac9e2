/- JoinOrder returns true, whatever its three arguments are, and leaves them as they were: no condition. -/
import Derived.Test.YtcahllecebcfdaaGreatJ9
import Derived.Test.YtcahllecebcfdaaGreatAw34
set_option linter.unusedVariables false
set_option linter.unusedSimpArgs false
namespace Go.Proofs.YtcahllecebcfdaaGreat
theorem awake34 : Go.AH.FC Tryz.prog 7 [] [] (.bool true) [] := Go.AH.Aw.s34 Go.AH.Aw.e34 (by simp [Go.AH.Aw.T34])
theorem joinOrder_holds : Rows.JoinOrderSaid := J.over awake34
#print axioms joinOrder_holds
end Go.Proofs.YtcahllecebcfdaaGreat
