/- How large the numbers are that e's row reckons with. No condition beyond those told. -/
import Derived.Test.YtjfaefgabaimaaaGreatPd
set_option linter.unusedSimpArgs false
set_option linter.unusedVariables false
namespace Go.Proofs.YtjfaefgabaimaaaGreat.P
open GQ
theorem pw_lt (a : Nat) : 2 ^ a < 2 ^ (a + 1) := by rw [Nat.pow_succ]; have := pow_pos2 a; omega
end Go.Proofs.YtjfaefgabaimaaaGreat.P
