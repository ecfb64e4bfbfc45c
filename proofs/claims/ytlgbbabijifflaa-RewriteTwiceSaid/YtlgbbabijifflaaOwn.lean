/-
  A row of the call's own, read as a slice.
-/
import Derived.Test.YtlgbbabijifflaaArms
namespace Go.Proofs.Ytlgbbabijifflaa
open Go.RowKit

theorem flat_get {α : Type} (sz : Nat) : ∀ (css : List (List α)), (∀ cs ∈ css, cs.length = sz) → ∀ (k j : Nat), j < sz → css.flatten[k * sz + j]? = (css[k]?).bind fun cs => cs[j]? := by
  intro css
  induction css with
  | nil => intro _ k j _; simp
  | cons cs r ih =>
    intro h k j hj
    have hc : cs.length = sz := h cs (by simp)
    cases k with
    | zero =>
      rw [List.flatten_cons, List.getElem?_append_left (by omega)]
      simp
    | succ k =>
      rw [List.flatten_cons, List.getElem?_append_right (by rw [hc, Nat.succ_mul]; omega), hc, show (k + 1) * sz + j - sz = k * sz + j from by rw [Nat.succ_mul]; omega, ih (fun c hc => h c (by simp [hc])) k j hj]
      simp
theorem own_SlR {w : World} {base : Nat} {e : TypeId} {sz n : Nat} {v : Value} {css : List (List Value)} (h : w.ownsRow base e sz v n css.flatten) (hl : ∀ cs ∈ css, cs.length = sz) (hz : 0 < sz) :
    ∃ A c, v = .slice A n c ∧ n ≤ c ∧ SlR w sz A css ∧ ∀ g, v.ownBlock = some g → base ≤ g ∧ g < w.heap.size := by
  obtain ⟨A, c, rfl, hc, hlt⟩ := own_form h
  refine ⟨A, c, rfl, hc, ?_, hlt⟩
  intro h0
  rcases h.2 with ⟨hv, rfl⟩ | ⟨g, cap, cur, hv, _, hg, _⟩
  · -- nothing lies in it: then no element
    have h1 : css.flatten = [] := List.eq_nil_of_length_eq_zero (by simpa using h.1)
    injection hv with hA
    subst hA
    exfalso
    have := flat_get sz css hl 0 0 hz
    rw [h1] at this
    obtain ⟨cs, r, rfl⟩ : ∃ cs r, css = cs :: r := by
      cases css with
      | nil => simp at h0
      | cons cs r => exact ⟨cs, r, rfl⟩
    have hcs := hl cs (by simp)
    simp at this
    rw [this] at hcs
    simp at hcs
    omega
  · injection hv with hA _ _
    subst hA
    refine ⟨g, 0, rfl, fun k cs hk j u hj => ?_⟩
    have hj' : j < sz := by
      have := (List.getElem?_eq_some_iff.1 hj).1
      rw [hl cs (List.mem_of_getElem? hk)] at this
      exact this
    have := h.cells (g := g) rfl (k * sz + j) u (by rw [flat_get sz css hl k j hj', hk]; exact hj)
    have hadd : (⟨g, 0, none⟩ : Addr).add (k * sz + j) = ⟨g, 0 + k * sz + j, none⟩ := by unfold Addr.add; split <;> simp_all
    rwa [hadd] at this
end Go.Proofs.Ytlgbbabijifflaa
