import Derived.Test.YtlmpeiepanajmaaGreatRows
import Derived.Test.YtlmpeiepanajmaaGreatM2
set_option linter.all false
section
namespace Go.Proofs.YtlmpeiepanajmaaGreat
set_option maxHeartbeats 8000000 in
theorem ql : joinedFacts Tryz.prog 3 Tryz.f3 Rows.layeringReasonSpec Rows.layeringReasonRow = true := by
 unfold joinedFacts
 simp only [Bool.and_eq_true]
 repeat' apply And.intro
 all_goals (as_aux_lemma => kernel_rfl)
end Go.Proofs.YtlmpeiepanajmaaGreat
end
