/-
  Plain law: compact's closure computes the canonical list of a tree.
-/
import Derived.Test.YtlgbbabijifflaaTree
namespace Go.Proofs.Ytlgbbabijifflaa

theorem idx_inj {ts : List Tr} {t u : Tr} (ht : t ∈ ts) (h : ts.idxOf t = ts.idxOf u) : t = u := by
  have h1 : ts.idxOf t < ts.length := List.idxOf_lt_length_iff.2 ht
  have h2 := List.getElem_idxOf h1
  have h3 : ts.idxOf u < ts.length := h ▸ h1
  have h4 := List.getElem_idxOf h3
  rw [← h2, ← h4]
  congr 1
theorem nd_inj {ts : List Tr} {t u : Tr} (wt : WF t) (wu : WF u) (kt : Kids ts t) (ku : Kids ts u) (h : nd ts t = nd ts u) : t = u := by
  cases t with
  | lf op i e g =>
    cases u with
    | lf op' i' e' g' => simp only [nd, Nd.mk.injEq] at h; obtain ⟨rfl, rfl, rfl, rfl, _⟩ := h; rfl
    | un op' i' e' g' x => simp only [nd, Nd.mk.injEq] at h; obtain ⟨rfl, _⟩ := h; have := wu.1; rw [wt.1] at this; cases this
    | bi op' i' e' g' x y => simp only [nd, Nd.mk.injEq] at h; obtain ⟨rfl, _⟩ := h; have := wu.1; rw [wt.2] at this; cases this
  | un op i e g x =>
    cases u with
    | lf op' i' e' g' => simp only [nd, Nd.mk.injEq] at h; obtain ⟨rfl, _⟩ := h; have := wt.1; rw [wu.1] at this; cases this
    | un op' i' e' g' x' => simp only [nd, Nd.mk.injEq] at h; obtain ⟨rfl, rfl, rfl, rfl, hx, _⟩ := h; rw [idx_inj kt (Int.ofNat.inj hx)]
    | bi op' i' e' g' x' y => simp only [nd, Nd.mk.injEq] at h; obtain ⟨rfl, _⟩ := h; have := wu.1; rw [wt.2.1] at this; cases this
  | bi op i e g x y =>
    cases u with
    | lf op' i' e' g' => simp only [nd, Nd.mk.injEq] at h; obtain ⟨rfl, _⟩ := h; have := wt.1; rw [wu.2] at this; cases this
    | un op' i' e' g' x' => simp only [nd, Nd.mk.injEq] at h; obtain ⟨rfl, _⟩ := h; have := wt.1; rw [wu.2.1] at this; cases this
    | bi op' i' e' g' x' y' => simp only [nd, Nd.mk.injEq] at h; obtain ⟨rfl, rfl, rfl, rfl, hx, hy⟩ := h; rw [idx_inj kt.1 (Int.ofNat.inj hx), idx_inj kt.2 (Int.ofNat.inj hy)]

/-- Fuel does not matter. -/
theorem tr_fuel (f : List Nd) (ho : Ordered f) : ∀ (k : Nat), k < f.length → ∀ m, k < m → tr f m k = tr f (k + 1) k := by
  intro k
  induction k using Nat.strongRecOn with
  | ind k ih =>
    intro hk m hm
    obtain ⟨m, rfl⟩ : ∃ m', m = m' + 1 := ⟨m - 1, by omega⟩
    obtain ⟨n, hn⟩ : ∃ n, f[k]? = some n := ⟨_, List.getElem?_eq_getElem hk⟩
    have hg : f.getD k Nd.zero = n := by simp [List.getD_eq_getElem?_getD, hn]
    obtain ⟨hx, hy⟩ := ho k n hn
    simp only [tr, hg]
    cases ey : (us n.op).y with
    | true =>
      have ex := us_yx _ ey
      have h1 := hx ex
      have h2 := hy ey
      rw [if_pos rfl, if_pos rfl, ih n.x.toNat (by omega) (by omega) m (by omega), ih n.y.toNat (by omega) (by omega) m (by omega), ih n.x.toNat (by omega) (by omega) k (by omega), ih n.y.toNat (by omega) (by omega) k (by omega)]
    | false =>
      cases ex : (us n.op).x with
      | true =>
        have h1 := hx ex
        simp only [Bool.false_eq_true, if_false, if_true]
        rw [ih n.x.toNat (by omega) (by omega) m (by omega), ih n.x.toNat (by omega) (by omega) k (by omega)]
      | false => rfl
/-- The tree of a node. -/
def T (f : List Nd) (k : Nat) : Tr := tr f (k + 1) k
end Go.Proofs.Ytlgbbabijifflaa
