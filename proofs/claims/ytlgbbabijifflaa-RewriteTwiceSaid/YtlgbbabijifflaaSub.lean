/-
  Walks of package formula: Sub, Compact.
-/
import Derived.Test.YtlgbbabijifflaaCompact
namespace Go.Proofs.Ytlgbbabijifflaa
open Go.RowKit

theorem chkL_all (f : List Nd) : ∀ (j : Nat), chkL f j = 0 → ∀ (k : Nat) (n : Nd), f[k]? = some n → nodeErr n ((j + k : Nat) : Int) = 0 := by
  induction f with
  | nil => intro j _ k n h; simp at h
  | cons a r ih =>
    intro j h k n hk
    rw [chkL] at h
    split at h
    · rename_i h'; rw [h] at h'; simp at h'
    · rename_i h'
      have h0 : nodeErr a j = 0 := by simpa using h'
      cases k with
      | zero => simp at hk; subst hk; simpa using h0
      | succ k =>
        have := ih (j + 1) (by simpa using h) k n (by simpa using hk)
        rw [show j + (k + 1) = j + 1 + k from by omega]
        exact this
/-- A formula. -/
structure Fml (f : List Nd) : Prop where
  pos : 0 < f.length
  len : f.length ≤ 200
  node : ∀ (k : Nat) (n : Nd), f[k]? = some n → nodeErr n k = 0
theorem Fml.of_chk {f : List Nd} (h : chk f = 0) : Fml f := by
  unfold chk at h
  split at h
  · cases h
  · split at h
    · cases h
    · refine ⟨by omega, by omega, fun k n hk => ?_⟩
      have := chkL_all f 0 (by simpa using h) k n hk
      simpa using this
theorem chkL_of (f : List Nd) : ∀ (j : Nat), (∀ (k : Nat) (n : Nd), f[k]? = some n → nodeErr n ((j + k : Nat) : Int) = 0) → chkL f j = 0 := by
  induction f with
  | nil => intro j _; rfl
  | cons a r ih =>
    intro j h
    have h0 := h 0 a rfl
    rw [chkL, Nat.add_zero] at *
    rw [h0]
    have := ih (j + 1) fun k n hk => by
      have := h (k + 1) n (by simpa using hk)
      rwa [show j + (k + 1) = j + 1 + k from by omega] at this
    simpa using this
theorem Fml.chk {f : List Nd} (h : Fml f) : chk f = 0 := by
  unfold Go.Proofs.Ytlgbbabijifflaa.chk
  rw [if_neg (by have := h.pos; omega), if_neg (by have := h.len; omega)]
  exact chkL_of f 0 fun k n hk => by simpa using h.node k n hk
theorem nodeErr_zero {n : Nd} {k : Int} (h : nodeErr n k = 0) : (us n.op).ok = true ∧ oprd (us n.op).x n.x k = true ∧ oprd (us n.op).y n.y k = true ∧
    (!((us n.op).fact || (us n.op).agent || (us n.op).event) && n.i != 0 || !(us n.op).event && n.e != 0 || !(us n.op).group && n.g != 0) = false ∧
    (outs (us n.op).fact n.i 0 7 || outs (us n.op).agent n.i 0 3 || outs (us n.op).event n.i 0 7 || outs (us n.op).event n.e 0 7 || outs (us n.op).group n.g 1 15) = false := by
  unfold nodeErr at h
  simp only at h
  split at h
  · cases h
  split at h
  · cases h
  split at h
  · cases h
  split at h
  · cases h
  rename_i h1 h2 h3 h4
  simp only [Bool.not_eq_false] at h1
  simp only [Bool.or_eq_true, Bool.not_eq_true', not_or, Bool.not_eq_false] at h2
  exact ⟨h1, h2.1, h2.2, by simpa using h3, by simpa using h4⟩
theorem Fml.ordered {f : List Nd} (h : Fml f) : Ordered f := fun k n hk => by
  obtain ⟨_, hx, hy, _⟩ := nodeErr_zero (h.node k n hk)
  refine ⟨fun e => ?_, fun e => ?_⟩
  · rw [e] at hx; simpa [oprd] using hx
  · rw [e] at hy; simpa [oprd] using hy

/-- 'Sub' and 'Compact'. -/
def sub (f : List Nd) (node : Int) : List Nd := if chk f ≠ 0 ∨ node < 0 ∨ (f.length : Int) ≤ node then [] else cmpt f node.toNat
def comp (f : List Nd) : List Nd := if chk f ≠ 0 then [] else cmpt f (f.length - 1)

set_option maxHeartbeats 1000000 in
theorem sub_any (A : Option Addr) (c : Nat) (f : List Nd) (node : Int) (w : World) (h : NS w A f) :
    Calls Try.prog 61 #[.slice A f.length c, .int .i64 node] w (RetF w (sub f node)) := by
  have H := Lib.hid h
  clear h
  by_cases h1 : chk f = 0
  · have hf := Fml.of_chk h1
    have e1 : (chk f != 0) = false := by simp [h1]
    by_cases h2 : node < 0
    · have hs : sub f node = [] := by simp [sub, h2]
      rw [hs]
      have e2 : decide (node < 0) = true := by simp [h2]
      clear h1 hf hs h2
      go_enter Try.func61, Try.ntmps61
      go_wp2_with (go_at_call 30; refine (check_any _ _ _ _ H.out).mono ?_; rintro e w1 ⟨rfl, hb⟩)
      go_ret
      exact ⟨none, 0, rfl, Nat.le_refl _, NS.nil _ _, Fresh.none _, hb⟩
    by_cases h3 : (f.length : Int) ≤ node
    · have hs : sub f node = [] := by simp [sub, h3]
      rw [hs]
      have e2 : decide (node < 0) = false := by simp; omega
      have e3 : decide ((f.length : Int) ≤ node) = true := by simp [h3]
      clear h1 hf hs h2 h3
      go_enter Try.func61, Try.ntmps61
      go_wp2_with (go_at_call 30; refine (check_any _ _ _ _ H.out).mono ?_; rintro e w1 ⟨rfl, hb⟩)
      go_ret
      exact ⟨none, 0, rfl, Nat.le_refl _, NS.nil _ _, Fresh.none _, hb⟩
    · obtain ⟨k, rfl⟩ := Int.eq_ofNat_of_zero_le (show 0 ≤ node by omega)
      have hs : sub f k = cmpt f k := by simp [sub, h1]; omega
      rw [hs]
      have e2 : decide ((k : Int) < 0) = false := by simp
      have e3 : decide ((f.length : Int) ≤ (k : Int)) = false := by simp; omega
      have hk : k < f.length := by omega
      have Hf := Lib.hid hf
      clear h1 hf hs h2 h3
      go_enter Try.func61, Try.ntmps61
      go_wp2_with (first | (go_at_call 30; refine (check_any _ _ _ _ H.out).mono ?_; rintro e w1 ⟨rfl, hb⟩) | (go_at_call 59; refine (compact_any _ _ _ _ _ (H.out.below hb) Hf.out.ordered (by have := Hf.out.len; omega) hk).mono ?_; rintro e w2 ⟨A', c', rfl, hc', hns, hfr', hb2⟩))
      go_ret
      exact ⟨A', c', rfl, hc', hns, hfr'.mono hb.size, hb.trans (hb2.mono hb.size)⟩
  · have hs : sub f node = [] := by simp [sub, h1]
    rw [hs]
    have e1 : (chk f != 0) = true := by simp [h1]
    clear hs h1
    go_enter Try.func61, Try.ntmps61
    go_wp2_with (go_at_call 30; refine (check_any _ _ _ _ H.out).mono ?_; rintro e w1 ⟨rfl, hb⟩)
    go_ret
    exact ⟨none, 0, rfl, Nat.le_refl _, NS.nil _ _, Fresh.none _, hb⟩

set_option maxHeartbeats 1000000 in
theorem comp_any (A : Option Addr) (c : Nat) (f : List Nd) (w : World) (h : NS w A f) (hl : f.length ≤ 9223372036854775807) :
    Calls Try.prog 33 #[.slice A f.length c] w (RetF w (comp f)) := by
  have hs : sub f ((f.length : Int) - 1) = comp f := by
    unfold sub comp
    by_cases h1 : chk f = 0
    · have := (Fml.of_chk h1).pos
      rw [if_neg (by rw [h1]; omega), if_neg (by rw [h1]; omega)]
      congr 1
      omega
    · simp [h1]
  rw [← hs]
  have H := Lib.hid h
  clear h hs
  go_enter Try.func33, Try.ntmps33
  go_wp2_with (go_at_call 61; refine (sub_any _ _ _ _ _ H.out).mono ?_; rintro e w2 ⟨A', c', rfl, hc', hns, hfr', hb2⟩)
  go_ret
  exact ⟨A', c', rfl, hc', hns, hfr', hb2⟩
end Go.Proofs.Ytlgbbabijifflaa
