/- BulkParts returns true, whatever its two arguments are, and leaves them as they were: no condition. -/
import Derived.Test.YtmhkanhgmfolhaaGreatTf
import Derived.Test.YtmhkanhgmfolhaaGreatAw28
set_option linter.unusedVariables false
set_option linter.unusedSimpArgs false
namespace Go.Proofs.YtmhkanhgmfolhaaGreat
theorem awake28 : Go.AH.FC Tryz.prog 8 [] [] (.bool true) [] := Go.AH.Aw.s12 Go.AH.Aw.e12 (by simp [Go.AH.Aw.T12])
theorem bulkParts_holds : Rows.BulkPartsSaid := TR.overP awake28
#print axioms bulkParts_holds
end Go.Proofs.YtmhkanhgmfolhaaGreat
