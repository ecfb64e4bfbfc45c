/-
  Walk of package formula: nodeError.
-/
import Derived.Test.YtlgbbabijifflaaForm2
namespace Go.Proofs.Ytlgbbabijifflaa
open Go.RowKit

/-- nodeErr with the operator's fields laid apart. -/
def nodeErrU (u : Us) (n : Nd) (at_ : Int) : Int :=
  if u.ok = false then 10 else
  if (!oprd u.x n.x at_ || !oprd u.y n.y at_) = true then 3 else
  if (!(u.fact || u.agent || u.event) && n.i != 0 || !u.event && n.e != 0 || !u.group && n.g != 0) = true then 3 else
  if (outs u.fact n.i 0 7 || outs u.agent n.i 0 3 || outs u.event n.i 0 7 || outs u.event n.e 0 7 || outs u.group n.g 1 15) = true then 2 else 0
theorem nodeErr_eq (n : Nd) (at_ : Int) : nodeErr n at_ = nodeErrU (us n.op) n at_ := rfl

set_option maxHeartbeats 8000000 in
theorem nodeError_any (op i e g x y at_ : Int) (w : World) :
    Calls Try.prog 58 #[.agg #[.int .i64 op, .int .i64 i, .int .i64 e, .int .i64 g, .int .i64 x, .int .i64 y], .int .i64 at_] w fun e' w' => e' = .returned (.int .i64 (nodeErr ⟨op, i, e, g, x, y⟩ at_)) ∧ Below w.heap.size w w' := by
  rw [nodeErr_eq]
  have hu := fun w => uses_any op w
  simp only
  generalize us op = u at hu ⊢
  obtain ⟨ux, uy, uf, ua, ug, ue, ufr, uok⟩ := u
  have Hu := Lib.hid hu
  clear hu
  go_enter Try.func58, Try.ntmps58
  go_wp2_with (first | (go_at_call 57; refine (Hu.out _).mono ?_; unfold usV; rintro e w1 ⟨rfl, hb⟩; obtain ⟨hc, hf⟩ := bcell hb; have hz : w.heap.size < w1.heap.size := (by have := hb.size; simp at this; omega); simp only [World.size_alloc] at hc hf; have hB : Below w.heap.size w w1 := ((Below.refl _ _).alloc (Nat.le_refl _) _).trans (hb.mono (by simp))) | (go_at_call 104; refine (operand_any _ _ _ _).mono ?_; rintro e w' ⟨rfl, rfl⟩) | (go_at_call 105; refine (outside_any _ _ _ _ _).mono ?_; rintro e w' ⟨rfl, rfl⟩))
  all_goals
    go_ret
    refine ⟨?_, hB.alloc hB.size _⟩
    clear hB hc hf hz
    simp_all [nodeErrU]
end Go.Proofs.Ytlgbbabijifflaa
