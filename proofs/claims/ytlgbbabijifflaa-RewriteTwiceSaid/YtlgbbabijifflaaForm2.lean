/-
  Walks of package formula: operand, nodeError and its closure.
-/
import Derived.Test.YtlgbbabijifflaaForm1
namespace Go.Proofs.Ytlgbbabijifflaa
open Go.RowKit

set_option maxHeartbeats 400000 in
theorem operand_any (u : Bool) (x at_ : Int) (w : World) :
    Calls Try.prog 104 #[.bool u, .int .i64 x, .int .i64 at_] w fun e w' => e = .returned (.bool (oprd u x at_)) ∧ w = w' := by
  go_enter Try.func104, Try.ntmps104
  go_wp2
  all_goals
    go_ret
    simp_all [oprd]
  all_goals omega

set_option maxHeartbeats 400000 in
theorem outside_any (u : Bool) (v low high : Int) (w : World) :
    Calls Try.prog 105 #[.bool u, .int .i64 v, .int .i64 low, .int .i64 high] w fun e w' => e = .returned (.bool (outs u v low high)) ∧ w = w' := by
  go_enter Try.func105, Try.ntmps105
  go_wp2
  all_goals
    go_ret
    simp_all [outs]
  all_goals omega
end Go.Proofs.Ytlgbbabijifflaa
