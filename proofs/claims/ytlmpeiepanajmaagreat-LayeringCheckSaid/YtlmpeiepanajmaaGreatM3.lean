import Derived.Test.YtlmpeiepanajmaaGreatRows
import Derived.Test.YtlmpeiepanajmaaGreatM2
set_option linter.all false
section
namespace Go.Proofs.YtlmpeiepanajmaaGreat
set_option maxHeartbeats 8000000 in
theorem pG : joinedFacts Tryz.prog 6 Tryz.f6 Rows.layeringCheckSpec Rows.layeringCheckRow = true := by
 unfold joinedFacts
 simp only [Bool.and_eq_true]
 repeat' apply And.intro
 all_goals (as_aux_lemma => kernel_rfl)
end Go.Proofs.YtlmpeiepanajmaaGreat
end
