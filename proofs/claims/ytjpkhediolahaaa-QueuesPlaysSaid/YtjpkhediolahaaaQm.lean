/- Contract of kind. Conditions: the arguments are ints, the second one 1 to 1000. -/
import Derived.Test.YtjpkhediolahaaaQl
set_option linter.unusedVariables false
set_option linter.unusedSimpArgs false
set_option linter.unusedSectionVars false
set_option linter.unnecessarySimpa false
namespace Go.Proofs.Ytjpkhediolahaaa
open Go.RowKit Go.Mk Go.Maps

def kindOf (c n : Int) : Int := (if c < 0 then -(c + 1) else c) % n
theorem kindOf_bd (c n : Int) (hn : 0 < n) : 0 ≤ kindOf c n ∧ kindOf c n < n := ⟨Int.emod_nonneg _ (by omega), Int.emod_lt_of_pos _ hn⟩

set_option maxHeartbeats 400000 in
theorem kind_any (c n : Int) (w : World) (h1 : -9223372036854775808 ≤ c) (h2 : c ≤ 9223372036854775807) (hn : 1 ≤ n) (hn2 : n ≤ 1000) :
    Calls Try.prog 13 #[.int .i64 c, .int .i64 n] w fun e w' => e = .returned (.int .i64 (kindOf c n)) ∧ w = w' := by
  by_cases hc : c < 0
  · go_enter Try.func13, Try.ntmps13
    go_wp2
    go_ret
    refine ⟨?_, rfl⟩
    have : -((c + 1).tmod n) = kindOf c n := by
      unfold kindOf
      rw [if_pos hc, ← Int.neg_tmod, Int.tmod_eq_emod_of_nonneg (by omega)]
    exact congrArg (fun x => Ending.returned (.int .i64 x)) this
  · go_enter Try.func13, Try.ntmps13
    go_wp2
    go_ret
    exact ⟨by simp [kindOf, show ¬ c < 0 by omega], rfl⟩

end Go.Proofs.Ytjpkhediolahaaa
