/- The closed facts of the given row, each a lemma of its own. -/
import Derived.Test.YtoefahgookhicaaGreatDoorBesafterRows
import Derived.ProofKit
namespace Go.Proofs.YtoefahgookhicaaGreatDoorBesafter
open Go

set_option maxHeartbeats 4000000 in
/-- The row's closed facts, one by one: each a lemma of its own, so that the kernel gives its memory back behind it. -/
theorem facts : joinedFacts Tryz.prog 3 Tryz.f3 Rows.eftFusedSpec Rows.eftFusedRow = true := by
  unfold joinedFacts
  simp only [Bool.and_eq_true]
  and_intros
  all_goals as_aux_lemma => kernel_rfl

end Go.Proofs.YtoefahgookhicaaGreatDoorBesafter
