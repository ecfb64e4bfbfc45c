/-
  Walk of the reference's node: the error of a node at a place.
-/
import Derived.Test.YtlgbbabijifflaaRef1
namespace Go.Proofs.Ytlgbbabijifflaa
open Go.RowKit

/-- The error of a node whose fields' use is known. -/
theorem nodeErr_of {n : Nd} {k : Int} {X Y F A G E : Bool} (h1 : 1 ≤ n.op) (h2 : n.op ≤ 21) (hX : (us n.op).x = X) (hY : (us n.op).y = Y) (hF : (n.op == 3) = F) (hA : (us n.op).agent = A) (hG : (us n.op).group = G) (hE : (n.op == 17) = E) :
    nodeErr n k = if (!oprd X n.x k || !oprd Y n.y k) = true then 3 else
      if (!(F || A || E) && n.i != 0 || !E && n.e != 0 || !G && n.g != 0) = true then 3 else
      if (outs F n.i 0 7 || outs A n.i 0 3 || outs E n.i 0 7 || outs E n.e 0 7 || outs G n.g 1 15) = true then 2 else 0 := by
  unfold nodeErr
  simp only
  rw [if_neg (by rw [r_ok']; simp; omega), hX, hY, r_fact', hF, hA, r_event', hE, hG]


set_option maxRecDepth 100000 in
set_option maxHeartbeats 8000000 in
theorem r_node_any (n : Nd) (k : Int) (w : World) :
    Calls Try.prog 18 #[.agg #[.int .i64 n.op, .int .i64 n.i, .int .i64 n.e, .int .i64 n.g, .int .i64 n.x, .int .i64 n.y], .int .i64 k] w fun e w' => e = .returned (.int .i64 (nodeErr n k)) ∧ Below w.heap.size w w' := by
  have Hnew : ∀ ob, Below w.heap.size w (w.alloc ob) := fun ob => (Below.refl _ _).alloc (Nat.le_refl _) _
  have HN := Lib.hid Hnew
  clear Hnew
  by_cases hc : (n.op = 1 ∨ n.op = 2)
  · have hX : (us n.op).x = false := by rw [r_UsesX]; simp; omega
    have hY : (us n.op).y = false := by rw [r_UsesY]; simp; omega
    have hA : (us n.op).agent = false := by rw [r_agent]; simp; omega
    have hG : (us n.op).group = false := by rw [r_group]; simp; omega
    have hF : (n.op == 3) = false := by simp; omega
    have hE : (n.op == 17) = false := by simp; omega
    have hE' : (n.op != 17) = !false := by simp; omega
    have h1 : decide (n.op < 1) = false := by simp; omega
    have h2 : decide (21 < n.op) = false := by simp; omega
    rw [nodeErr_of (k := k) (by omega) (by omega) hX hY hF hA hG hE]
    obtain ⟨r, hr⟩ : ∃ r : Int, (if (!oprd false n.x k || !oprd false n.y k) = true then 3 else
        if (!(false || false || false) && n.i != 0 || !false && n.e != 0 || !false && n.g != 0) = true then 3 else
        if (outs false n.i 0 7 || outs false n.i 0 3 || outs false n.i 0 7 || outs false n.e 0 7 || outs false n.g 1 15) = true then 2 else 0) = r := ⟨_, rfl⟩
    rw [hr]
    simp only [oprd, outs, Bool.false_and, Bool.true_and, Bool.false_or, Bool.or_false, Bool.not_true, Bool.not_false, Bool.false_eq_true, if_false, if_true, Bool.or_true, Bool.true_or] at hr
    have Hr := Lib.hid hr
    clear hc hr
    go_enter Try.func18, Try.ntmps18
    go_wp2_with (first | (go_at_call 41; refine (r_UsesX_any _ _).mono ?_; rintro e w1 ⟨rfl, rfl⟩) | (go_at_call 42; refine (r_UsesY_any _ _).mono ?_; rintro e w1 ⟨rfl, rfl⟩) | (go_at_call 43; refine (r_agent_any _ _).mono ?_; rintro e w1 ⟨rfl, rfl⟩) | (go_at_call 44; refine (r_group_any _ _).mono ?_; rintro e w1 ⟨rfl, rfl⟩))
    all_goals
      go_ret
      refine ⟨?_, HN.out _⟩
      rw [← Hr.out]
      clear Hr HN hX hY hA hG hF hE hE' h1 h2
      have e : ∀ a b : Int, a = b → Ending.returned (.int .i64 a) = Ending.returned (.int .i64 b) := fun a b h => by rw [h]
      refine e _ _ ?_
      clear e
      first | (simp_all; done) | (simp_all; omega)
  by_cases hc : (n.op = 3)
  · have hX : (us n.op).x = false := by rw [r_UsesX]; simp; omega
    have hY : (us n.op).y = false := by rw [r_UsesY]; simp; omega
    have hA : (us n.op).agent = false := by rw [r_agent]; simp; omega
    have hG : (us n.op).group = false := by rw [r_group]; simp; omega
    have hF : (n.op == 3) = true := by simp; omega
    have hE : (n.op == 17) = false := by simp; omega
    have hE' : (n.op != 17) = !false := by simp; omega
    have h1 : decide (n.op < 1) = false := by simp; omega
    have h2 : decide (21 < n.op) = false := by simp; omega
    rw [nodeErr_of (k := k) (by omega) (by omega) hX hY hF hA hG hE]
    obtain ⟨r, hr⟩ : ∃ r : Int, (if (!oprd false n.x k || !oprd false n.y k) = true then 3 else
        if (!(true || false || false) && n.i != 0 || !false && n.e != 0 || !false && n.g != 0) = true then 3 else
        if (outs true n.i 0 7 || outs false n.i 0 3 || outs false n.i 0 7 || outs false n.e 0 7 || outs false n.g 1 15) = true then 2 else 0) = r := ⟨_, rfl⟩
    rw [hr]
    simp only [oprd, outs, Bool.false_and, Bool.true_and, Bool.false_or, Bool.or_false, Bool.not_true, Bool.not_false, Bool.false_eq_true, if_false, if_true, Bool.or_true, Bool.true_or] at hr
    have Hr := Lib.hid hr
    clear hc hr
    go_enter Try.func18, Try.ntmps18
    go_wp2_with (first | (go_at_call 41; refine (r_UsesX_any _ _).mono ?_; rintro e w1 ⟨rfl, rfl⟩) | (go_at_call 42; refine (r_UsesY_any _ _).mono ?_; rintro e w1 ⟨rfl, rfl⟩) | (go_at_call 43; refine (r_agent_any _ _).mono ?_; rintro e w1 ⟨rfl, rfl⟩) | (go_at_call 44; refine (r_group_any _ _).mono ?_; rintro e w1 ⟨rfl, rfl⟩))
    all_goals
      go_ret
      refine ⟨?_, HN.out _⟩
      rw [← Hr.out]
      clear Hr HN hX hY hA hG hF hE hE' h1 h2
      have e : ∀ a b : Int, a = b → Ending.returned (.int .i64 a) = Ending.returned (.int .i64 b) := fun a b h => by rw [h]
      refine e _ _ ?_
      clear e
      first | (simp_all; done) | (simp_all; omega)
  by_cases hc : (n.op = 4 ∨ n.op = 18 ∨ n.op = 20)
  · have hX : (us n.op).x = true := by rw [r_UsesX]; simp; omega
    have hY : (us n.op).y = false := by rw [r_UsesY]; simp; omega
    have hA : (us n.op).agent = false := by rw [r_agent]; simp; omega
    have hG : (us n.op).group = false := by rw [r_group]; simp; omega
    have hF : (n.op == 3) = false := by simp; omega
    have hE : (n.op == 17) = false := by simp; omega
    have hE' : (n.op != 17) = !false := by simp; omega
    have h1 : decide (n.op < 1) = false := by simp; omega
    have h2 : decide (21 < n.op) = false := by simp; omega
    rw [nodeErr_of (k := k) (by omega) (by omega) hX hY hF hA hG hE]
    obtain ⟨r, hr⟩ : ∃ r : Int, (if (!oprd true n.x k || !oprd false n.y k) = true then 3 else
        if (!(false || false || false) && n.i != 0 || !false && n.e != 0 || !false && n.g != 0) = true then 3 else
        if (outs false n.i 0 7 || outs false n.i 0 3 || outs false n.i 0 7 || outs false n.e 0 7 || outs false n.g 1 15) = true then 2 else 0) = r := ⟨_, rfl⟩
    rw [hr]
    simp only [oprd, outs, Bool.false_and, Bool.true_and, Bool.false_or, Bool.or_false, Bool.not_true, Bool.not_false, Bool.false_eq_true, if_false, if_true, Bool.or_true, Bool.true_or] at hr
    have Hr := Lib.hid hr
    clear hc hr
    go_enter Try.func18, Try.ntmps18
    go_wp2_with (first | (go_at_call 41; refine (r_UsesX_any _ _).mono ?_; rintro e w1 ⟨rfl, rfl⟩) | (go_at_call 42; refine (r_UsesY_any _ _).mono ?_; rintro e w1 ⟨rfl, rfl⟩) | (go_at_call 43; refine (r_agent_any _ _).mono ?_; rintro e w1 ⟨rfl, rfl⟩) | (go_at_call 44; refine (r_group_any _ _).mono ?_; rintro e w1 ⟨rfl, rfl⟩))
    all_goals
      go_ret
      refine ⟨?_, HN.out _⟩
      rw [← Hr.out]
      clear Hr HN hX hY hA hG hF hE hE' h1 h2
      have e : ∀ a b : Int, a = b → Ending.returned (.int .i64 a) = Ending.returned (.int .i64 b) := fun a b h => by rw [h]
      refine e _ _ ?_
      clear e
      first | (simp_all; done) | (simp_all; omega)
  by_cases hc : (n.op = 5 ∨ n.op = 6 ∨ n.op = 7 ∨ n.op = 8 ∨ n.op = 16 ∨ n.op = 19 ∨ n.op = 21)
  · have hX : (us n.op).x = true := by rw [r_UsesX]; simp; omega
    have hY : (us n.op).y = true := by rw [r_UsesY]; simp; omega
    have hA : (us n.op).agent = false := by rw [r_agent]; simp; omega
    have hG : (us n.op).group = false := by rw [r_group]; simp; omega
    have hF : (n.op == 3) = false := by simp; omega
    have hE : (n.op == 17) = false := by simp; omega
    have hE' : (n.op != 17) = !false := by simp; omega
    have h1 : decide (n.op < 1) = false := by simp; omega
    have h2 : decide (21 < n.op) = false := by simp; omega
    rw [nodeErr_of (k := k) (by omega) (by omega) hX hY hF hA hG hE]
    obtain ⟨r, hr⟩ : ∃ r : Int, (if (!oprd true n.x k || !oprd true n.y k) = true then 3 else
        if (!(false || false || false) && n.i != 0 || !false && n.e != 0 || !false && n.g != 0) = true then 3 else
        if (outs false n.i 0 7 || outs false n.i 0 3 || outs false n.i 0 7 || outs false n.e 0 7 || outs false n.g 1 15) = true then 2 else 0) = r := ⟨_, rfl⟩
    rw [hr]
    simp only [oprd, outs, Bool.false_and, Bool.true_and, Bool.false_or, Bool.or_false, Bool.not_true, Bool.not_false, Bool.false_eq_true, if_false, if_true, Bool.or_true, Bool.true_or] at hr
    have Hr := Lib.hid hr
    clear hc hr
    go_enter Try.func18, Try.ntmps18
    go_wp2_with (first | (go_at_call 41; refine (r_UsesX_any _ _).mono ?_; rintro e w1 ⟨rfl, rfl⟩) | (go_at_call 42; refine (r_UsesY_any _ _).mono ?_; rintro e w1 ⟨rfl, rfl⟩) | (go_at_call 43; refine (r_agent_any _ _).mono ?_; rintro e w1 ⟨rfl, rfl⟩) | (go_at_call 44; refine (r_group_any _ _).mono ?_; rintro e w1 ⟨rfl, rfl⟩))
    all_goals
      go_ret
      refine ⟨?_, HN.out _⟩
      rw [← Hr.out]
      clear Hr HN hX hY hA hG hF hE hE' h1 h2
      have e : ∀ a b : Int, a = b → Ending.returned (.int .i64 a) = Ending.returned (.int .i64 b) := fun a b h => by rw [h]
      refine e _ _ ?_
      clear e
      first | (simp_all; done) | (simp_all; omega)
  by_cases hc : (n.op = 9 ∨ n.op = 10 ∨ n.op = 15)
  · have hX : (us n.op).x = true := by rw [r_UsesX]; simp; omega
    have hY : (us n.op).y = false := by rw [r_UsesY]; simp; omega
    have hA : (us n.op).agent = true := by rw [r_agent]; simp; omega
    have hG : (us n.op).group = false := by rw [r_group]; simp; omega
    have hF : (n.op == 3) = false := by simp; omega
    have hE : (n.op == 17) = false := by simp; omega
    have hE' : (n.op != 17) = !false := by simp; omega
    have h1 : decide (n.op < 1) = false := by simp; omega
    have h2 : decide (21 < n.op) = false := by simp; omega
    rw [nodeErr_of (k := k) (by omega) (by omega) hX hY hF hA hG hE]
    obtain ⟨r, hr⟩ : ∃ r : Int, (if (!oprd true n.x k || !oprd false n.y k) = true then 3 else
        if (!(false || true || false) && n.i != 0 || !false && n.e != 0 || !false && n.g != 0) = true then 3 else
        if (outs false n.i 0 7 || outs true n.i 0 3 || outs false n.i 0 7 || outs false n.e 0 7 || outs false n.g 1 15) = true then 2 else 0) = r := ⟨_, rfl⟩
    rw [hr]
    simp only [oprd, outs, Bool.false_and, Bool.true_and, Bool.false_or, Bool.or_false, Bool.not_true, Bool.not_false, Bool.false_eq_true, if_false, if_true, Bool.or_true, Bool.true_or] at hr
    have Hr := Lib.hid hr
    clear hc hr
    go_enter Try.func18, Try.ntmps18
    go_wp2_with (first | (go_at_call 41; refine (r_UsesX_any _ _).mono ?_; rintro e w1 ⟨rfl, rfl⟩) | (go_at_call 42; refine (r_UsesY_any _ _).mono ?_; rintro e w1 ⟨rfl, rfl⟩) | (go_at_call 43; refine (r_agent_any _ _).mono ?_; rintro e w1 ⟨rfl, rfl⟩) | (go_at_call 44; refine (r_group_any _ _).mono ?_; rintro e w1 ⟨rfl, rfl⟩))
    all_goals
      go_ret
      refine ⟨?_, HN.out _⟩
      rw [← Hr.out]
      clear Hr HN hX hY hA hG hF hE hE' h1 h2
      have e : ∀ a b : Int, a = b → Ending.returned (.int .i64 a) = Ending.returned (.int .i64 b) := fun a b h => by rw [h]
      refine e _ _ ?_
      clear e
      first | (simp_all; done) | (simp_all; omega)
  by_cases hc : (n.op = 11 ∨ n.op = 12)
  · have hX : (us n.op).x = true := by rw [r_UsesX]; simp; omega
    have hY : (us n.op).y = false := by rw [r_UsesY]; simp; omega
    have hA : (us n.op).agent = false := by rw [r_agent]; simp; omega
    have hG : (us n.op).group = true := by rw [r_group]; simp; omega
    have hF : (n.op == 3) = false := by simp; omega
    have hE : (n.op == 17) = false := by simp; omega
    have hE' : (n.op != 17) = !false := by simp; omega
    have h1 : decide (n.op < 1) = false := by simp; omega
    have h2 : decide (21 < n.op) = false := by simp; omega
    rw [nodeErr_of (k := k) (by omega) (by omega) hX hY hF hA hG hE]
    obtain ⟨r, hr⟩ : ∃ r : Int, (if (!oprd true n.x k || !oprd false n.y k) = true then 3 else
        if (!(false || false || false) && n.i != 0 || !false && n.e != 0 || !true && n.g != 0) = true then 3 else
        if (outs false n.i 0 7 || outs false n.i 0 3 || outs false n.i 0 7 || outs false n.e 0 7 || outs true n.g 1 15) = true then 2 else 0) = r := ⟨_, rfl⟩
    rw [hr]
    simp only [oprd, outs, Bool.false_and, Bool.true_and, Bool.false_or, Bool.or_false, Bool.not_true, Bool.not_false, Bool.false_eq_true, if_false, if_true, Bool.or_true, Bool.true_or] at hr
    have Hr := Lib.hid hr
    clear hc hr
    go_enter Try.func18, Try.ntmps18
    go_wp2_with (first | (go_at_call 41; refine (r_UsesX_any _ _).mono ?_; rintro e w1 ⟨rfl, rfl⟩) | (go_at_call 42; refine (r_UsesY_any _ _).mono ?_; rintro e w1 ⟨rfl, rfl⟩) | (go_at_call 43; refine (r_agent_any _ _).mono ?_; rintro e w1 ⟨rfl, rfl⟩) | (go_at_call 44; refine (r_group_any _ _).mono ?_; rintro e w1 ⟨rfl, rfl⟩))
    all_goals
      go_ret
      refine ⟨?_, HN.out _⟩
      rw [← Hr.out]
      clear Hr HN hX hY hA hG hF hE hE' h1 h2
      have e : ∀ a b : Int, a = b → Ending.returned (.int .i64 a) = Ending.returned (.int .i64 b) := fun a b h => by rw [h]
      refine e _ _ ?_
      clear e
      first | (simp_all; done) | (simp_all; omega)
  by_cases hc : (n.op = 13)
  · have hX : (us n.op).x = true := by rw [r_UsesX]; simp; omega
    have hY : (us n.op).y = true := by rw [r_UsesY]; simp; omega
    have hA : (us n.op).agent = false := by rw [r_agent]; simp; omega
    have hG : (us n.op).group = true := by rw [r_group]; simp; omega
    have hF : (n.op == 3) = false := by simp; omega
    have hE : (n.op == 17) = false := by simp; omega
    have hE' : (n.op != 17) = !false := by simp; omega
    have h1 : decide (n.op < 1) = false := by simp; omega
    have h2 : decide (21 < n.op) = false := by simp; omega
    rw [nodeErr_of (k := k) (by omega) (by omega) hX hY hF hA hG hE]
    obtain ⟨r, hr⟩ : ∃ r : Int, (if (!oprd true n.x k || !oprd true n.y k) = true then 3 else
        if (!(false || false || false) && n.i != 0 || !false && n.e != 0 || !true && n.g != 0) = true then 3 else
        if (outs false n.i 0 7 || outs false n.i 0 3 || outs false n.i 0 7 || outs false n.e 0 7 || outs true n.g 1 15) = true then 2 else 0) = r := ⟨_, rfl⟩
    rw [hr]
    simp only [oprd, outs, Bool.false_and, Bool.true_and, Bool.false_or, Bool.or_false, Bool.not_true, Bool.not_false, Bool.false_eq_true, if_false, if_true, Bool.or_true, Bool.true_or] at hr
    have Hr := Lib.hid hr
    clear hc hr
    go_enter Try.func18, Try.ntmps18
    go_wp2_with (first | (go_at_call 41; refine (r_UsesX_any _ _).mono ?_; rintro e w1 ⟨rfl, rfl⟩) | (go_at_call 42; refine (r_UsesY_any _ _).mono ?_; rintro e w1 ⟨rfl, rfl⟩) | (go_at_call 43; refine (r_agent_any _ _).mono ?_; rintro e w1 ⟨rfl, rfl⟩) | (go_at_call 44; refine (r_group_any _ _).mono ?_; rintro e w1 ⟨rfl, rfl⟩))
    all_goals
      go_ret
      refine ⟨?_, HN.out _⟩
      rw [← Hr.out]
      clear Hr HN hX hY hA hG hF hE hE' h1 h2
      have e : ∀ a b : Int, a = b → Ending.returned (.int .i64 a) = Ending.returned (.int .i64 b) := fun a b h => by rw [h]
      refine e _ _ ?_
      clear e
      first | (simp_all; done) | (simp_all; omega)
  by_cases hc : (n.op = 14)
  · have hX : (us n.op).x = true := by rw [r_UsesX]; simp; omega
    have hY : (us n.op).y = true := by rw [r_UsesY]; simp; omega
    have hA : (us n.op).agent = true := by rw [r_agent]; simp; omega
    have hG : (us n.op).group = false := by rw [r_group]; simp; omega
    have hF : (n.op == 3) = false := by simp; omega
    have hE : (n.op == 17) = false := by simp; omega
    have hE' : (n.op != 17) = !false := by simp; omega
    have h1 : decide (n.op < 1) = false := by simp; omega
    have h2 : decide (21 < n.op) = false := by simp; omega
    rw [nodeErr_of (k := k) (by omega) (by omega) hX hY hF hA hG hE]
    obtain ⟨r, hr⟩ : ∃ r : Int, (if (!oprd true n.x k || !oprd true n.y k) = true then 3 else
        if (!(false || true || false) && n.i != 0 || !false && n.e != 0 || !false && n.g != 0) = true then 3 else
        if (outs false n.i 0 7 || outs true n.i 0 3 || outs false n.i 0 7 || outs false n.e 0 7 || outs false n.g 1 15) = true then 2 else 0) = r := ⟨_, rfl⟩
    rw [hr]
    simp only [oprd, outs, Bool.false_and, Bool.true_and, Bool.false_or, Bool.or_false, Bool.not_true, Bool.not_false, Bool.false_eq_true, if_false, if_true, Bool.or_true, Bool.true_or] at hr
    have Hr := Lib.hid hr
    clear hc hr
    go_enter Try.func18, Try.ntmps18
    go_wp2_with (first | (go_at_call 41; refine (r_UsesX_any _ _).mono ?_; rintro e w1 ⟨rfl, rfl⟩) | (go_at_call 42; refine (r_UsesY_any _ _).mono ?_; rintro e w1 ⟨rfl, rfl⟩) | (go_at_call 43; refine (r_agent_any _ _).mono ?_; rintro e w1 ⟨rfl, rfl⟩) | (go_at_call 44; refine (r_group_any _ _).mono ?_; rintro e w1 ⟨rfl, rfl⟩))
    all_goals
      go_ret
      refine ⟨?_, HN.out _⟩
      rw [← Hr.out]
      clear Hr HN hX hY hA hG hF hE hE' h1 h2
      have e : ∀ a b : Int, a = b → Ending.returned (.int .i64 a) = Ending.returned (.int .i64 b) := fun a b h => by rw [h]
      refine e _ _ ?_
      clear e
      first | (simp_all; done) | (simp_all; omega)
  by_cases hc : (n.op = 17)
  · have hX : (us n.op).x = true := by rw [r_UsesX]; simp; omega
    have hY : (us n.op).y = false := by rw [r_UsesY]; simp; omega
    have hA : (us n.op).agent = false := by rw [r_agent]; simp; omega
    have hG : (us n.op).group = false := by rw [r_group]; simp; omega
    have hF : (n.op == 3) = false := by simp; omega
    have hE : (n.op == 17) = true := by simp; omega
    have hE' : (n.op != 17) = !true := by simp; omega
    have h1 : decide (n.op < 1) = false := by simp; omega
    have h2 : decide (21 < n.op) = false := by simp; omega
    rw [nodeErr_of (k := k) (by omega) (by omega) hX hY hF hA hG hE]
    obtain ⟨r, hr⟩ : ∃ r : Int, (if (!oprd true n.x k || !oprd false n.y k) = true then 3 else
        if (!(false || false || true) && n.i != 0 || !true && n.e != 0 || !false && n.g != 0) = true then 3 else
        if (outs false n.i 0 7 || outs false n.i 0 3 || outs true n.i 0 7 || outs true n.e 0 7 || outs false n.g 1 15) = true then 2 else 0) = r := ⟨_, rfl⟩
    rw [hr]
    simp only [oprd, outs, Bool.false_and, Bool.true_and, Bool.false_or, Bool.or_false, Bool.not_true, Bool.not_false, Bool.false_eq_true, if_false, if_true, Bool.or_true, Bool.true_or] at hr
    have Hr := Lib.hid hr
    clear hc hr
    go_enter Try.func18, Try.ntmps18
    go_wp2_with (first | (go_at_call 41; refine (r_UsesX_any _ _).mono ?_; rintro e w1 ⟨rfl, rfl⟩) | (go_at_call 42; refine (r_UsesY_any _ _).mono ?_; rintro e w1 ⟨rfl, rfl⟩) | (go_at_call 43; refine (r_agent_any _ _).mono ?_; rintro e w1 ⟨rfl, rfl⟩) | (go_at_call 44; refine (r_group_any _ _).mono ?_; rintro e w1 ⟨rfl, rfl⟩))
    all_goals
      go_ret
      refine ⟨?_, HN.out _⟩
      rw [← Hr.out]
      clear Hr HN hX hY hA hG hF hE hE' h1 h2
      have e : ∀ a b : Int, a = b → Ending.returned (.int .i64 a) = Ending.returned (.int .i64 b) := fun a b h => by rw [h]
      refine e _ _ ?_
      clear e
      first | (simp_all; done) | (simp_all; omega)
  have hr : nodeErr n k = 10 := by
    unfold nodeErr
    simp only
    rw [if_pos (by rw [r_ok']; simp; omega)]
  rw [hr]
  clear hr
  by_cases h1 : n.op < 1
  · have e1 : decide (n.op < 1) = true := by simp; omega
    go_enter Try.func18, Try.ntmps18
    go_wp2
    go_ret
    exact ⟨rfl, HN.out _⟩
  · have e1 : decide (n.op < 1) = false := by simp; omega
    have e2 : decide (21 < n.op) = true := by simp; omega
    go_enter Try.func18, Try.ntmps18
    go_wp2
    go_ret
    exact ⟨rfl, HN.out _⟩
end Go.Proofs.Ytlgbbabijifflaa
