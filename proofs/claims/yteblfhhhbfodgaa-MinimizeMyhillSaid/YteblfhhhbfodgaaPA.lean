-- Plain proofs over the functions (texts of wip/sim/pure, expanded by macros.py).
import Derived.Test.YteblfhhhbfodgaaF7
set_option linter.unusedVariables false
set_option linter.unusedSimpArgs false
namespace Go.Proofs.Yteblfhhhbfodgaa.Sim
open Go
/-! ### semigrouplaw08.awake -/
set_option maxRecDepth 100000 in
set_option maxHeartbeats 0 in
theorem semigrouplaw08_awake_8 : semigrouplaw08_awake.f 8 = some true := by kernel_rfl
theorem awake_ok {k : Nat} (hk : 8 ≤ k) : semigrouplaw08_awake.f k = some true := semigrouplaw08_awake.up hk semigrouplaw08_awake_8

end Go.Proofs.Yteblfhhhbfodgaa.Sim
