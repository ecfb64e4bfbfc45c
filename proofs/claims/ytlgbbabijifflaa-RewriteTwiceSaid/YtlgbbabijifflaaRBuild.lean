/-
  Walks of package rewrite: binary, build.
-/
import Derived.Test.YtlgbbabijifflaaCons
namespace Go.Proofs.Ytlgbbabijifflaa
open Go.RowKit

theorem us_bin (op : Int) : (us op).y = (op == 5 || op == 6 || op == 7 || op == 8 || op == 13 || op == 14 || op == 16 || op == 19 || op == 21) := by
  refine us_all (p := fun op u => u.y = (op == 5 || op == 6 || op == 7 || op == 8 || op == 13 || op == 14 || op == 16 || op == 19 || op == 21)) ?_ ?_ ?_ ?_ ?_ ?_ ?_ ?_ ?_ ?_ ?_ ?_ ?_ ?_ ?_ ?_ ?_ ?_ ?_ ?_ ?_ ?_ op
  rotate_right
  · intro o h
    symm
    simp only [Bool.or_eq_false_iff, beq_eq_false_iff_ne]
    omega
  all_goals decide
theorem us_un (op : Int) (h : (us op).ok = true) : (us op).x = decide (4 ≤ op) := by
  revert h
  refine us_all (p := fun op u => u.ok = true → u.x = decide (4 ≤ op)) ?_ ?_ ?_ ?_ ?_ ?_ ?_ ?_ ?_ ?_ ?_ ?_ ?_ ?_ ?_ ?_ ?_ ?_ ?_ ?_ ?_ ?_ op
  rotate_right
  · intro o _ h; cases h
  all_goals decide
theorem us_ok (op : Int) (h : (us op).ok = true) : 1 ≤ op ∧ op ≤ 21 := by
  by_cases h' : 1 ≤ op ∧ op ≤ 21
  · exact h'
  · rw [us_out h'] at h; cases h

set_option maxHeartbeats 2000000 in
theorem binary_any (op : Int) (w : World) : Calls Try.prog 60 #[.int .i64 op] w fun e w' => e = .returned (.bool (us op).y) ∧ w = w' := by
  rw [us_bin]
  go_enter Try.func60, Try.ntmps60
  go_wp2
  all_goals
    go_ret
    simp_all

/-- The operands of a node. -/
def opsOf (x : Nd) (a b : List Nd) : List (List Nd) := if (us x.op).x then (if (us x.op).y then [a, b] else [a]) else []
/-- rewrite's 'build' at a node whose fields are right. -/
def rbuild (x : Nd) (a b : List Nd) : List Nd := bld ⟨x.op, x.i, x.e, x.g, 0, 0⟩ (opsOf x a b)

set_option maxRecDepth 100000 in
set_option maxHeartbeats 8000000 in
theorem rbuild_any (x : Nd) (k : Int) (hx : nodeErr x k = 0) (A B : Option Addr) (c d : Nat) (a b : List Nd) (w : World) (ha : NS w A a) (hc : a.length ≤ c) (hb : NS w B b) (hd : b.length ≤ d) :
    Calls Try.prog 34 #[.agg #[.int .i64 x.op, .int .i64 x.i, .int .i64 x.e, .int .i64 x.g, .int .i64 x.x, .int .i64 x.y], .slice A a.length c, .slice B b.length d] w (RetF w (rbuild x a b)) := by
  obtain ⟨h1, _, _, h4, _⟩ := nodeErr_zero hx
  clear hx
  obtain ⟨op, i, e, g, xx, yy⟩ := x
  have Ha := Lib.hid (ha.below ((Below.refl _ w).alloc (Nat.le_refl _) (.cells #[.int .i64 op, .int .i64 i, .int .i64 e, .int .i64 g, .int .i64 xx, .int .i64 yy] 55)))
  have Hb := Lib.hid (hb.below ((Below.refl _ w).alloc (Nat.le_refl _) (.cells #[.int .i64 op, .int .i64 i, .int .i64 e, .int .i64 g, .int .i64 xx, .int .i64 yy] 55)))
  clear ha hb
  simp only at h1 h4
  rcases op_cases (us_ok op h1) with rfl | rfl | rfl | rfl | rfl | rfl | rfl | rfl | rfl | rfl | rfl | rfl | rfl | rfl | rfl | rfl | rfl | rfl | rfl | rfl | rfl
  all_goals
    simp [us] at h4
    clear h1
  · obtain ⟨rfl, rfl, rfl⟩ : i = 0 ∧ e = 0 ∧ g = 0 := by omega
    clear h4
    show Calls _ _ _ _ (RetF w (bld ⟨1, 0, 0, 0, 0, 0⟩ []))
    go_enter Try.func34, Try.ntmps34
    go_wp2_with (go_at_call 80; refine (c_true_any _).mono ?_; intro e w1 hr; obtain ⟨A', c', rfl, hc', hns, hfr', hb⟩ := hr.alloc)
    go_ret
    exact ⟨A', c', rfl, hc', hns, hfr', hb⟩
  · obtain ⟨rfl, rfl, rfl⟩ : i = 0 ∧ e = 0 ∧ g = 0 := by omega
    clear h4
    show Calls _ _ _ _ (RetF w (bld ⟨2, 0, 0, 0, 0, 0⟩ []))
    go_enter Try.func34, Try.ntmps34
    go_wp2_with (go_at_call 62; refine (c_false_any _).mono ?_; intro e w1 hr; obtain ⟨A', c', rfl, hc', hns, hfr', hb⟩ := hr.alloc)
    go_ret
    exact ⟨A', c', rfl, hc', hns, hfr', hb⟩
  · obtain ⟨rfl, rfl⟩ : e = 0 ∧ g = 0 := by omega
    clear h4
    show Calls _ _ _ _ (RetF w (bld ⟨3, i, 0, 0, 0, 0⟩ []))
    go_enter Try.func34, Try.ntmps34
    go_wp2_with (go_at_call 8; refine (c_fact_any i _).mono ?_; intro e w1 hr; obtain ⟨A', c', rfl, hc', hns, hfr', hb⟩ := hr.alloc)
    go_ret
    exact ⟨A', c', rfl, hc', hns, hfr', hb⟩
  · obtain ⟨rfl, rfl, rfl⟩ : i = 0 ∧ e = 0 ∧ g = 0 := by omega
    clear h4
    show Calls _ _ _ _ (RetF w (bld ⟨4, 0, 0, 0, 0, 0⟩ [a]))
    go_enter Try.func34, Try.ntmps34
    go_wp2_with (go_at_call 63; refine (c_not_any _ _ _ _ Ha.out hc).mono ?_; intro e w1 hr; obtain ⟨A', c', rfl, hc', hns, hfr', hb⟩ := hr.alloc)
    go_ret
    exact ⟨A', c', rfl, hc', hns, hfr', hb⟩
  · obtain ⟨rfl, rfl, rfl⟩ : i = 0 ∧ e = 0 ∧ g = 0 := by omega
    clear h4
    show Calls _ _ _ _ (RetF w (bld ⟨5, 0, 0, 0, 0, 0⟩ [a, b]))
    go_enter Try.func34, Try.ntmps34
    go_wp2_with (go_at_call 64; refine (c_and_any _ _ _ _ _ _ _ Ha.out hc Hb.out hd).mono ?_; intro e w1 hr; obtain ⟨A', c', rfl, hc', hns, hfr', hb⟩ := hr.alloc)
    go_ret
    exact ⟨A', c', rfl, hc', hns, hfr', hb⟩
  · obtain ⟨rfl, rfl, rfl⟩ : i = 0 ∧ e = 0 ∧ g = 0 := by omega
    clear h4
    show Calls _ _ _ _ (RetF w (bld ⟨6, 0, 0, 0, 0, 0⟩ [a, b]))
    go_enter Try.func34, Try.ntmps34
    go_wp2_with (go_at_call 65; refine (c_or_any _ _ _ _ _ _ _ Ha.out hc Hb.out hd).mono ?_; intro e w1 hr; obtain ⟨A', c', rfl, hc', hns, hfr', hb⟩ := hr.alloc)
    go_ret
    exact ⟨A', c', rfl, hc', hns, hfr', hb⟩
  · obtain ⟨rfl, rfl, rfl⟩ : i = 0 ∧ e = 0 ∧ g = 0 := by omega
    clear h4
    show Calls _ _ _ _ (RetF w (bld ⟨7, 0, 0, 0, 0, 0⟩ [a, b]))
    go_enter Try.func34, Try.ntmps34
    go_wp2_with (go_at_call 66; refine (c_imp_any _ _ _ _ _ _ _ Ha.out hc Hb.out hd).mono ?_; intro e w1 hr; obtain ⟨A', c', rfl, hc', hns, hfr', hb⟩ := hr.alloc)
    go_ret
    exact ⟨A', c', rfl, hc', hns, hfr', hb⟩
  · obtain ⟨rfl, rfl, rfl⟩ : i = 0 ∧ e = 0 ∧ g = 0 := by omega
    clear h4
    show Calls _ _ _ _ (RetF w (bld ⟨8, 0, 0, 0, 0, 0⟩ [a, b]))
    go_enter Try.func34, Try.ntmps34
    go_wp2_with (go_at_call 67; refine (c_iff_any _ _ _ _ _ _ _ Ha.out hc Hb.out hd).mono ?_; intro e w1 hr; obtain ⟨A', c', rfl, hc', hns, hfr', hb⟩ := hr.alloc)
    go_ret
    exact ⟨A', c', rfl, hc', hns, hfr', hb⟩
  · obtain ⟨rfl, rfl⟩ : e = 0 ∧ g = 0 := by omega
    clear h4
    show Calls _ _ _ _ (RetF w (bld ⟨9, i, 0, 0, 0, 0⟩ [a]))
    go_enter Try.func34, Try.ntmps34
    go_wp2_with (go_at_call 36; refine (c_know_any i _ _ _ _ Ha.out hc).mono ?_; intro e w1 hr; obtain ⟨A', c', rfl, hc', hns, hfr', hb⟩ := hr.alloc)
    go_ret
    exact ⟨A', c', rfl, hc', hns, hfr', hb⟩
  · obtain ⟨rfl, rfl⟩ : e = 0 ∧ g = 0 := by omega
    clear h4
    show Calls _ _ _ _ (RetF w (bld ⟨10, i, 0, 0, 0, 0⟩ [a]))
    go_enter Try.func34, Try.ntmps34
    go_wp2_with (go_at_call 68; refine (c_poss_any i _ _ _ _ Ha.out hc).mono ?_; intro e w1 hr; obtain ⟨A', c', rfl, hc', hns, hfr', hb⟩ := hr.alloc)
    go_ret
    exact ⟨A', c', rfl, hc', hns, hfr', hb⟩
  · obtain ⟨rfl, rfl⟩ : i = 0 ∧ e = 0 := by omega
    clear h4
    show Calls _ _ _ _ (RetF w (bld ⟨11, 0, 0, g, 0, 0⟩ [a]))
    go_enter Try.func34, Try.ntmps34
    go_wp2_with (go_at_call 69; refine (c_every_any g _ _ _ _ Ha.out hc).mono ?_; intro e w1 hr; obtain ⟨A', c', rfl, hc', hns, hfr', hb⟩ := hr.alloc)
    go_ret
    exact ⟨A', c', rfl, hc', hns, hfr', hb⟩
  · obtain ⟨rfl, rfl⟩ : i = 0 ∧ e = 0 := by omega
    clear h4
    show Calls _ _ _ _ (RetF w (bld ⟨12, 0, 0, g, 0, 0⟩ [a]))
    go_enter Try.func34, Try.ntmps34
    go_wp2_with (go_at_call 70; refine (c_dist_any g _ _ _ _ Ha.out hc).mono ?_; intro e w1 hr; obtain ⟨A', c', rfl, hc', hns, hfr', hb⟩ := hr.alloc)
    go_ret
    exact ⟨A', c', rfl, hc', hns, hfr', hb⟩
  · obtain ⟨rfl, rfl⟩ : i = 0 ∧ e = 0 := by omega
    clear h4
    show Calls _ _ _ _ (RetF w (bld ⟨13, 0, 0, g, 0, 0⟩ [a, b]))
    go_enter Try.func34, Try.ntmps34
    go_wp2_with (go_at_call 71; refine (c_common_any g _ _ _ _ _ _ _ Ha.out hc Hb.out hd).mono ?_; intro e w1 hr; obtain ⟨A', c', rfl, hc', hns, hfr', hb⟩ := hr.alloc)
    go_ret
    exact ⟨A', c', rfl, hc', hns, hfr', hb⟩
  · obtain ⟨rfl, rfl⟩ : e = 0 ∧ g = 0 := by omega
    clear h4
    show Calls _ _ _ _ (RetF w (bld ⟨14, i, 0, 0, 0, 0⟩ [a, b]))
    go_enter Try.func34, Try.ntmps34
    go_wp2_with (go_at_call 72; refine (c_belief_any i _ _ _ _ _ _ _ Ha.out hc Hb.out hd).mono ?_; intro e w1 hr; obtain ⟨A', c', rfl, hc', hns, hfr', hb⟩ := hr.alloc)
    go_ret
    exact ⟨A', c', rfl, hc', hns, hfr', hb⟩
  · obtain ⟨rfl, rfl⟩ : e = 0 ∧ g = 0 := by omega
    clear h4
    show Calls _ _ _ _ (RetF w (bld ⟨15, i, 0, 0, 0, 0⟩ [a]))
    go_enter Try.func34, Try.ntmps34
    go_wp2_with (go_at_call 73; refine (c_safe_any i _ _ _ _ Ha.out hc).mono ?_; intro e w1 hr; obtain ⟨A', c', rfl, hc', hns, hfr', hb⟩ := hr.alloc)
    go_ret
    exact ⟨A', c', rfl, hc', hns, hfr', hb⟩
  · obtain ⟨rfl, rfl, rfl⟩ : i = 0 ∧ e = 0 ∧ g = 0 := by omega
    clear h4
    show Calls _ _ _ _ (RetF w (bld ⟨16, 0, 0, 0, 0, 0⟩ [a, b]))
    go_enter Try.func34, Try.ntmps34
    go_wp2_with (go_at_call 74; refine (c_announce_any _ _ _ _ _ _ _ Ha.out hc Hb.out hd).mono ?_; intro e w1 hr; obtain ⟨A', c', rfl, hc', hns, hfr', hb⟩ := hr.alloc)
    go_ret
    exact ⟨A', c', rfl, hc', hns, hfr', hb⟩
  · obtain rfl : g = 0 := by omega
    clear h4
    show Calls _ _ _ _ (RetF w (bld ⟨17, i, e, 0, 0, 0⟩ [a]))
    go_enter Try.func34, Try.ntmps34
    go_wp2_with (go_at_call 75; refine (c_act_any i e _ _ _ _ Ha.out hc).mono ?_; intro e w1 hr; obtain ⟨A', c', rfl, hc', hns, hfr', hb⟩ := hr.alloc)
    go_ret
    exact ⟨A', c', rfl, hc', hns, hfr', hb⟩
  · obtain ⟨rfl, rfl, rfl⟩ : i = 0 ∧ e = 0 ∧ g = 0 := by omega
    clear h4
    show Calls _ _ _ _ (RetF w (bld ⟨18, 0, 0, 0, 0, 0⟩ [a]))
    go_enter Try.func34, Try.ntmps34
    go_wp2_with (go_at_call 76; refine (c_next_any _ _ _ _ Ha.out hc).mono ?_; intro e w1 hr; obtain ⟨A', c', rfl, hc', hns, hfr', hb⟩ := hr.alloc)
    go_ret
    exact ⟨A', c', rfl, hc', hns, hfr', hb⟩
  · obtain ⟨rfl, rfl, rfl⟩ : i = 0 ∧ e = 0 ∧ g = 0 := by omega
    clear h4
    show Calls _ _ _ _ (RetF w (bld ⟨19, 0, 0, 0, 0, 0⟩ [a, b]))
    go_enter Try.func34, Try.ntmps34
    go_wp2_with (go_at_call 77; refine (c_until_any _ _ _ _ _ _ _ Ha.out hc Hb.out hd).mono ?_; intro e w1 hr; obtain ⟨A', c', rfl, hc', hns, hfr', hb⟩ := hr.alloc)
    go_ret
    exact ⟨A', c', rfl, hc', hns, hfr', hb⟩
  · obtain ⟨rfl, rfl, rfl⟩ : i = 0 ∧ e = 0 ∧ g = 0 := by omega
    clear h4
    show Calls _ _ _ _ (RetF w (bld ⟨20, 0, 0, 0, 0, 0⟩ [a]))
    go_enter Try.func34, Try.ntmps34
    go_wp2_with (go_at_call 78; refine (c_prev_any _ _ _ _ Ha.out hc).mono ?_; intro e w1 hr; obtain ⟨A', c', rfl, hc', hns, hfr', hb⟩ := hr.alloc)
    go_ret
    exact ⟨A', c', rfl, hc', hns, hfr', hb⟩
  · obtain ⟨rfl, rfl, rfl⟩ : i = 0 ∧ e = 0 ∧ g = 0 := by omega
    clear h4
    show Calls _ _ _ _ (RetF w (bld ⟨21, 0, 0, 0, 0, 0⟩ [a, b]))
    go_enter Try.func34, Try.ntmps34
    go_wp2_with (go_at_call 79; refine (c_since_any _ _ _ _ _ _ _ Ha.out hc Hb.out hd).mono ?_; intro e w1 hr; obtain ⟨A', c', rfl, hc', hns, hfr', hb⟩ := hr.alloc)
    go_ret
    exact ⟨A', c', rfl, hc', hns, hfr', hb⟩
end Go.Proofs.Ytlgbbabijifflaa
