/-
  Walks of package formula's small functions: uses, operand, nodeError's closure.
-/
import Derived.Test.YtlgbbabijifflaaBase
namespace Go.Proofs.Ytlgbbabijifflaa
open Go.RowKit

set_option maxHeartbeats 4000000 in
theorem uses_any (op : Int) (w : World) :
    Calls Try.prog 57 #[.int .i64 op] w fun e w' => e = .returned (usV (us op)) ∧ Below w.heap.size w w' := by
  go_enter Try.func57, Try.ntmps57
  go_wp2
  all_goals
    refine bodyPost_ret (v := usV (us op)) ?_ rfl ⟨rfl, ((Below.refl _ _).alloc (Nat.le_refl _) _)⟩
    simp_all [results, Try.results57, go_sem, usV, us]
end Go.Proofs.Ytlgbbabijifflaa
