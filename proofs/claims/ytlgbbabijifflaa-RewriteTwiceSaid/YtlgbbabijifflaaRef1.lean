/-
  Walks of the reference's small functions: Few, UsesX, UsesY, agent, group.
-/
import Derived.Test.YtlgbbabijifflaaRBuild
namespace Go.Proofs.Ytlgbbabijifflaa
open Go.RowKit

theorem few_any (A : Option Addr) (c l : Nat) (n : Int) (w : World) : Calls Try.prog 5 #[.slice A l c, .int .i64 n] w fun e w' => e = .returned (.bool (decide ((l : Int) ≤ n))) ∧ w = w' := by
  go_enter Try.func5, Try.ntmps5
  go_wp2
  go_ret
  simp_all

theorem r_UsesX (op : Int) : (us op).x = (decide (4 ≤ op) && decide (op ≤ 21)) := by
  refine us_all (p := fun op u => u.x = (decide (4 ≤ op) && decide (op ≤ 21))) ?_ ?_ ?_ ?_ ?_ ?_ ?_ ?_ ?_ ?_ ?_ ?_ ?_ ?_ ?_ ?_ ?_ ?_ ?_ ?_ ?_ ?_ op
  rotate_right
  · intro o h
    symm
    simp
    omega
  all_goals decide
theorem r_UsesX_any (op : Int) (w : World) : Calls Try.prog 41 #[.int .i64 op] w fun e w' => e = .returned (.bool (us op).x) ∧ w = w' := by
  rw [r_UsesX]
  go_enter Try.func41, Try.ntmps41
  go_wp2
  all_goals
    go_ret
    first | (simp_all; done) | (simp_all; omega) | (simp_all; rw [Bool.eq_iff_iff]; simp; omega)
theorem r_UsesY (op : Int) : (us op).y = ((decide (5 ≤ op) && decide (op ≤ 8)) || op == 13 || op == 14 || op == 16 || op == 19 || op == 21) := by
  refine us_all (p := fun op u => u.y = ((decide (5 ≤ op) && decide (op ≤ 8)) || op == 13 || op == 14 || op == 16 || op == 19 || op == 21)) ?_ ?_ ?_ ?_ ?_ ?_ ?_ ?_ ?_ ?_ ?_ ?_ ?_ ?_ ?_ ?_ ?_ ?_ ?_ ?_ ?_ ?_ op
  rotate_right
  · intro o h
    symm
    simp
    omega
  all_goals decide
theorem r_UsesY_any (op : Int) (w : World) : Calls Try.prog 42 #[.int .i64 op] w fun e w' => e = .returned (.bool (us op).y) ∧ w = w' := by
  rw [r_UsesY]
  go_enter Try.func42, Try.ntmps42
  go_wp2
  all_goals
    go_ret
    first | (simp_all; done) | (simp_all; omega) | (simp_all; rw [Bool.eq_iff_iff]; simp; omega)
theorem r_agent (op : Int) : (us op).agent = (op == 9 || op == 10 || op == 14 || op == 15) := by
  refine us_all (p := fun op u => u.agent = (op == 9 || op == 10 || op == 14 || op == 15)) ?_ ?_ ?_ ?_ ?_ ?_ ?_ ?_ ?_ ?_ ?_ ?_ ?_ ?_ ?_ ?_ ?_ ?_ ?_ ?_ ?_ ?_ op
  rotate_right
  · intro o h
    symm
    simp
    omega
  all_goals decide
theorem r_agent_any (op : Int) (w : World) : Calls Try.prog 43 #[.int .i64 op] w fun e w' => e = .returned (.bool (us op).agent) ∧ w = w' := by
  rw [r_agent]
  go_enter Try.func43, Try.ntmps43
  go_wp2
  all_goals
    go_ret
    first | (simp_all; done) | (simp_all; omega) | (simp_all; rw [Bool.eq_iff_iff]; simp; omega)
theorem r_group (op : Int) : (us op).group = (decide (11 ≤ op) && decide (op ≤ 13)) := by
  refine us_all (p := fun op u => u.group = (decide (11 ≤ op) && decide (op ≤ 13))) ?_ ?_ ?_ ?_ ?_ ?_ ?_ ?_ ?_ ?_ ?_ ?_ ?_ ?_ ?_ ?_ ?_ ?_ ?_ ?_ ?_ ?_ op
  rotate_right
  · intro o h
    symm
    simp
    omega
  all_goals decide
theorem r_group_any (op : Int) (w : World) : Calls Try.prog 44 #[.int .i64 op] w fun e w' => e = .returned (.bool (us op).group) ∧ w = w' := by
  rw [r_group]
  go_enter Try.func44, Try.ntmps44
  go_wp2
  all_goals
    go_ret
    first | (simp_all; done) | (simp_all; omega) | (simp_all; rw [Bool.eq_iff_iff]; simp; omega)
theorem r_fact' (op : Int) : (us op).fact = (op == 3) := by
  refine us_all (p := fun op u => u.fact = (op == 3)) ?_ ?_ ?_ ?_ ?_ ?_ ?_ ?_ ?_ ?_ ?_ ?_ ?_ ?_ ?_ ?_ ?_ ?_ ?_ ?_ ?_ ?_ op
  rotate_right
  · intro o h
    symm
    simp
    omega
  all_goals decide
theorem r_event' (op : Int) : (us op).event = (op == 17) := by
  refine us_all (p := fun op u => u.event = (op == 17)) ?_ ?_ ?_ ?_ ?_ ?_ ?_ ?_ ?_ ?_ ?_ ?_ ?_ ?_ ?_ ?_ ?_ ?_ ?_ ?_ ?_ ?_ op
  rotate_right
  · intro o h
    symm
    simp
    omega
  all_goals decide
theorem r_ok' (op : Int) : (us op).ok = (decide (1 ≤ op) && decide (op ≤ 21)) := by
  refine us_all (p := fun op u => u.ok = (decide (1 ≤ op) && decide (op ≤ 21))) ?_ ?_ ?_ ?_ ?_ ?_ ?_ ?_ ?_ ?_ ?_ ?_ ?_ ?_ ?_ ?_ ?_ ?_ ?_ ?_ ?_ ?_ op
  rotate_right
  · intro o h
    symm
    simp
    omega
  all_goals decide
end Go.Proofs.Ytlgbbabijifflaa
