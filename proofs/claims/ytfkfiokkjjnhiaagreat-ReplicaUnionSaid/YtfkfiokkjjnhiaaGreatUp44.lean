import Derived.Test.YtfkfiokkjjnhiaaGreatRows
import Derived.JoinedOf
import Derived.KernelRfl
set_option linter.unusedVariables false
set_option linter.unusedSimpArgs false
set_option maxHeartbeats 16000000
namespace Go.Proofs.YtfkfiokkjjnhiaaGreat.lawUnion
open Go
theorem facts : joinedFacts Tryz.prog 3 Tryz.f3 Rows.replicaUnionSpec Rows.replicaUnionRow = true := by kernel_rfl
theorem named : Tryz.prog.funcNamed Rows.replicaUnionRow.func = some 3 := by kernel_rfl
theorem inst : Tryz.f3.isInstance Tryz.prog Rows.replicaUnionRow.origin Rows.replicaUnionRow.targs := of_decide_eq_true (by kernel_rfl)
theorem wrap : Tryz.f3.isWrapper Tryz.prog Rows.replicaUnionRow.wrapper Rows.replicaUnionRow.mainSum := by unfold Func.isWrapper; first | (rw [if_pos (by decide +kernel)]; kernel_rfl) | (rw [if_neg (by decide +kernel)]; exact ⟨rfl, rfl⟩)
end Go.Proofs.YtfkfiokkjjnhiaaGreat.lawUnion
