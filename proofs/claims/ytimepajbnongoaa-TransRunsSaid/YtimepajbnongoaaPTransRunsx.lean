-- Written by wip/oprint.py (a program of this repo, over the kit's print) for this claim.
import Derived.Test.YtimepajbnongoaaPTransRunsx0
import Derived.Test.YtimepajbnongoaaPTransRunsx1
import Derived.Test.YtimepajbnongoaaPTransRunsx2
import Derived.Test.YtimepajbnongoaaPTransRunsx3
import Derived.Test.YtimepajbnongoaaPTransRunsx4
import Derived.Test.YtimepajbnongoaaPTransRunsx5
import Derived.Test.YtimepajbnongoaaPTransRunsx6
namespace Go.Proofs.Ytimepajbnongoaa.PTransRuns
open Go.RowKit Go.Proofs.YtimepajbnongoaaW.PrintWords Go.Proofs.YtimepajbnongoaaW.PrintLast Go.Proofs.YtimepajbnongoaaW.PrintMore
attribute [local go_sem] max2_int min2_int max_two min_two max_three min_three max_four min_four   -- for this text's walks alone
set_option linter.unusedVariables false
set_option linter.unusedSimpArgs false

end Go.Proofs.Ytimepajbnongoaa.PTransRuns
