/-
  Plain law: compact's closure puts the parts of a tree.
-/
import Derived.Test.YtlgbbabijifflaaTree2
namespace Go.Proofs.Ytlgbbabijifflaa

theorem numT_hit (out : List Nd) (x : Nd) : ∀ (i k : Nat), out[k]? = some x → (∀ j, j < k → out[j]? ≠ some x) → (numF i out).lookup x = some ((i + k : Nat) : Int) := by
  induction out with
  | nil => intro i k h; simp at h
  | cons a r ih =>
    intro i k h hn
    cases k with
    | zero =>
      simp at h
      subst h
      simp [numF, List.lookup]
    | succ k =>
      have ha : x ≠ a := fun e => hn 0 (by omega) (by simp [e])
      simp only [numF, List.lookup, beq_eq_false_iff_ne.2 ha]
      rw [ih (i + 1) k (by simpa using h) (fun j hj => by have := hn (j + 1) (by omega); simpa using this)]
      congr 2; omega
theorem numT_miss (out : List Nd) (x : Nd) : ∀ (i : Nat), (∀ j : Nat, out[j]? ≠ some x) → (numF i out).lookup x = none := by
  induction out with
  | nil => intro i _; rfl
  | cons a r ih =>
    intro i hn
    have ha : x ≠ a := fun e => hn 0 (by simp [e])
    simp only [numF, List.lookup, beq_eq_false_iff_ne.2 ha]
    exact ih (i + 1) (fun j => by have := hn (j + 1); simpa using this)
theorem before_idx : ∀ (ts : List Tr) (u : Tr) (j : Nat), j < ts.idxOf u → ts[j]? ≠ some u := by
  intro ts u
  induction ts with
  | nil => intro j h; simp at h
  | cons a r ih =>
    intro j hj
    by_cases e : a = u
    · subst e; simp at hj
    · rw [List.idxOf_cons, beq_eq_false_iff_ne.2 e] at hj
      cases j with
      | zero => simpa using e
      | succ j => simpa using ih j (by simpa using hj)
theorem enc_get {ts : List Tr} {j : Nat} {x : Nd} (h : (enc ts)[j]? = some x) : ∃ u, ts[j]? = some u ∧ nd ts u = x := by
  unfold enc at h
  rw [List.getElem?_map] at h
  exact Option.map_eq_some_iff.1 h
/-- The number of a tree in the list of its nodes. -/
theorem num_enc {ts : List Tr} (hc : Closed ts) (hw : ∀ t ∈ ts, WF t) {t : Tr} (wt : WF t) (kt : Kids ts t) : (numL (enc ts)).lookup (nd ts t) = if t ∈ ts then some (ts.idxOf t : Int) else none := by
  have hinj : ∀ j u, ts[j]? = some u → nd ts u = nd ts t → u = t := fun j u hu e => by
    have hm := List.mem_of_getElem? hu
    exact nd_inj (hw u hm) wt (hc u hm) kt e
  by_cases ht : t ∈ ts
  · rw [if_pos ht]
    have hlt := List.idxOf_lt_length_iff.2 ht
    have hg : ts[ts.idxOf t]? = some t := by rw [List.getElem?_eq_getElem hlt, List.getElem_idxOf hlt]
    have := numT_hit (enc ts) (nd ts t) 0 (ts.idxOf t) (by unfold enc; rw [List.getElem?_map, hg]; rfl) (fun j hj e => by
      obtain ⟨u, hu, e⟩ := enc_get e
      have := hinj j u hu e
      subst this
      exact before_idx ts u j hj hu)
    unfold numL
    rw [this]
    simp
  · rw [if_neg ht]
    exact numT_miss (enc ts) (nd ts t) 0 (fun j e => by
      obtain ⟨u, hu, e⟩ := enc_get e
      exact ht (hinj j u hu e ▸ List.mem_of_getElem? hu))
end Go.Proofs.Ytlgbbabijifflaa
