/- ProgressiveRaw returns true, whatever its argument is, and leaves it as it was: no condition. -/
import Derived.Test.YtcahllecebcfdaaGreatJ20
import Derived.Test.YtcahllecebcfdaaGreatAw36
set_option linter.unusedVariables false
set_option linter.unusedSimpArgs false
namespace Go.Proofs.YtcahllecebcfdaaGreat
theorem awake36 : Go.AH.FC Tryz.prog 8 [] [] (.bool true) [] := Go.AH.Aw.s18 Go.AH.Aw.e18 (by simp [Go.AH.Aw.T18])
theorem progressiveRaw_holds : Rows.ProgressiveRawSaid := J.over awake36
#print axioms progressiveRaw_holds
end Go.Proofs.YtcahllecebcfdaaGreat
