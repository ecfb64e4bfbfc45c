/-
  The canonical list of a formula is a formula. (Plain.)
-/
import Derived.Test.YtlgbbabijifflaaSub
namespace Go.Proofs.Ytlgbbabijifflaa
open Go.RowKit

theorem nodeErr_with {n : Nd} {k k' a b : Int} (h : nodeErr n k = 0) (hx : (us n.op).x = true → 0 ≤ a ∧ a < k') (hx' : (us n.op).x = false → a = n.x) (hy : (us n.op).y = true → 0 ≤ b ∧ b < k') (hy' : (us n.op).y = false → b = n.y) :
    nodeErr { n with x := a, y := b } k' = 0 := by
  obtain ⟨h1, h2, h3, h4, h5⟩ := nodeErr_zero h
  have e1 : oprd (us n.op).x a k' = true := by
    cases ex : (us n.op).x with
    | true => have := hx ex; simp [oprd]; exact this
    | false => rw [ex] at h2; rw [hx' ex]; simpa [oprd] using h2
  have e2 : oprd (us n.op).y b k' = true := by
    cases ey : (us n.op).y with
    | true => have := hy ey; simp [oprd]; exact this
    | false => rw [ey] at h3; rw [hy' ey]; simpa [oprd] using h3
  unfold nodeErr
  simp only [h1, e1, e2, h4, h5]
  simp

theorem numF_lookup (out : List Nd) (n : Nd) : ∀ (i : Nat) (k : Int), (numF i out).lookup n = some k → ∃ j : Nat, k = ((i + j : Nat) : Int) ∧ out[j]? = some n := by
  induction out with
  | nil => intro i k h; simp [numF] at h
  | cons a r ih =>
    intro i k h
    by_cases e : n = a
    · subst e
      simp [numF, List.lookup] at h
      exact ⟨0, by omega, rfl⟩
    · simp only [numF, List.lookup, beq_eq_false_iff_ne.2 e] at h
      obtain ⟨j, rfl, hj⟩ := ih (i + 1) k h
      exact ⟨j + 1, by omega, by simpa using hj⟩
theorem numL_lookup {out : List Nd} {n : Nd} {k : Int} (h : (numL out).lookup n = some k) : ∃ j : Nat, k = (j : Int) ∧ out[j]? = some n := by
  obtain ⟨j, h1, h2⟩ := numF_lookup out n 0 k h
  exact ⟨j, by simpa using h1, h2⟩
theorem numF_none (out : List Nd) (n : Nd) : ∀ i, (numF i out).lookup n = none → n ∉ out := by
  induction out with
  | nil => intro i _; simp
  | cons a r ih =>
    intro i h
    by_cases e : n = a
    · subst e; simp [numF, List.lookup] at h
    · simp only [numF, List.lookup, beq_eq_false_iff_ne.2 e] at h
      simp [e, ih _ h]

/-- Each node of the list is right at its place; what is done has a number in the list. -/
structure FGood (s : FS) : Prop where
  node : ∀ (k : Nat) (n : Nd), s.out[k]? = some n → nodeErr n k = 0
  num : ∀ (i k : Int), s.done.lookup i = some k → 0 ≤ k ∧ k < s.out.length
theorem finEnd_good {r : FS} (h : FGood r) (i : Int) {n : Nd} (hn : nodeErr n r.out.length = 0) :
    FGood (finEnd r i n).1 ∧ 0 ≤ (finEnd r i n).2 ∧ (finEnd r i n).2 < (finEnd r i n).1.out.length ∧ r.out.length ≤ (finEnd r i n).1.out.length := by
  unfold finEnd
  split
  · rename_i k hk
    obtain ⟨j, rfl, hj⟩ := numL_lookup hk
    have hl := (List.getElem?_eq_some_iff.1 hj).1
    refine ⟨⟨h.node, fun a b hab => ?_⟩, by simp, by simp; exact hl, by simp⟩
    rw [lookup_snoc] at hab
    cases hd : r.done.lookup a with
    | some v => rw [hd] at hab; simp at hab; subst hab; exact h.num a v hd
    | none => rw [hd] at hab; simp at hab; obtain ⟨_, rfl⟩ := hab; exact ⟨by omega, by simp; exact hl⟩
  · refine ⟨⟨fun k m hk => ?_, fun a b hab => ?_⟩, by simp, by simp; omega, by simp⟩
    · rcases Nat.lt_or_ge k r.out.length with hl | hl
      · rw [List.getElem?_append_left hl] at hk; exact h.node k m hk
      · rw [List.getElem?_append_right hl] at hk
        have : k = r.out.length := by
          have := (List.getElem?_eq_some_iff.1 hk).1
          simp at this; omega
        subst this
        simp at hk
        subst hk
        exact hn
    · simp only at hab
      rw [lookup_snoc] at hab
      simp only [List.length_append, List.length_singleton]
      cases hd : r.done.lookup a with
      | some v => rw [hd] at hab; simp at hab; subst hab; have := h.num a v hd; omega
      | none => rw [hd] at hab; simp at hab; obtain ⟨_, rfl⟩ := hab; omega
theorem fin_good (f : List Nd) (hf : ∀ (k : Nat) (n : Nd), f[k]? = some n → nodeErr n k = 0) (ho : Ordered f) : ∀ (m j : Nat) (s : FS), j < f.length → j < m → FGood s →
    FGood (fin f m j s).1 ∧ 0 ≤ (fin f m j s).2 ∧ (fin f m j s).2 < (fin f m j s).1.out.length ∧ s.out.length ≤ (fin f m j s).1.out.length := by
  intro m
  induction m with
  | zero => intro j s _ h; omega
  | succ m ih =>
    intro j s hjl hjm hs
    cases hd : s.done.lookup (j : Int) with
    | some k => rw [fin_some f m j s k hd]; exact ⟨hs, (hs.num _ _ hd).1, (hs.num _ _ hd).2, Nat.le_refl _⟩
    | none =>
      obtain ⟨n, hn⟩ : ∃ n, f[j]? = some n := ⟨_, List.getElem?_eq_getElem hjl⟩
      obtain ⟨hx, hy⟩ := ho j n hn
      rw [fin_eq f m j s n hd hn]
      have h1 : FGood (if (us n.op).x then fin f m n.x s else (s, n.x)).1 ∧ ((us n.op).x = true → 0 ≤ (if (us n.op).x then fin f m n.x s else (s, n.x)).2 ∧ (if (us n.op).x then fin f m n.x s else (s, n.x)).2 < (if (us n.op).x then fin f m n.x s else (s, n.x)).1.out.length) ∧
          ((us n.op).x = false → (if (us n.op).x then fin f m n.x s else (s, n.x)).2 = n.x) ∧ s.out.length ≤ (if (us n.op).x then fin f m n.x s else (s, n.x)).1.out.length := by
        split
        · rename_i h
          obtain ⟨a, b⟩ := hx h
          obtain ⟨x, hx'⟩ := Int.eq_ofNat_of_zero_le a
          rw [hx'] at b ⊢
          obtain ⟨i1, i2, i3, i4⟩ := ih x s (by omega) (by omega) hs
          exact ⟨i1, fun _ => ⟨i2, i3⟩, fun e => by rw [h] at e; (cases e), i4⟩
        · rename_i h
          exact ⟨hs, fun e => absurd e h, fun _ => rfl, Nat.le_refl _⟩
      generalize (if (us n.op).x then fin f m n.x s else (s, n.x)) = r1 at h1 ⊢
      obtain ⟨g1, u1, v1, l1⟩ := h1
      have h2 : FGood (if (us n.op).y then fin f m n.y r1.1 else (r1.1, n.y)).1 ∧ ((us n.op).y = true → 0 ≤ (if (us n.op).y then fin f m n.y r1.1 else (r1.1, n.y)).2 ∧ (if (us n.op).y then fin f m n.y r1.1 else (r1.1, n.y)).2 < (if (us n.op).y then fin f m n.y r1.1 else (r1.1, n.y)).1.out.length) ∧
          ((us n.op).y = false → (if (us n.op).y then fin f m n.y r1.1 else (r1.1, n.y)).2 = n.y) ∧ r1.1.out.length ≤ (if (us n.op).y then fin f m n.y r1.1 else (r1.1, n.y)).1.out.length := by
        split
        · rename_i h
          obtain ⟨a, b⟩ := hy h
          obtain ⟨y, hy'⟩ := Int.eq_ofNat_of_zero_le a
          rw [hy'] at b ⊢
          obtain ⟨i1, i2, i3, i4⟩ := ih y r1.1 (by omega) (by omega) g1
          exact ⟨i1, fun _ => ⟨i2, i3⟩, fun e => by rw [h] at e; (cases e), i4⟩
        · rename_i h
          exact ⟨g1, fun e => absurd e h, fun _ => rfl, Nat.le_refl _⟩
      generalize (if (us n.op).y then fin f m n.y r1.1 else (r1.1, n.y)) = r2 at h2 ⊢
      obtain ⟨g2, u2, v2, l2⟩ := h2
      obtain ⟨e1, e2, e3, e4⟩ := finEnd_good g2 j (n := { n with x := r1.2, y := r2.2 }) (nodeErr_with (hf j n hn) (fun e => by have := u1 e; omega) v1 u2 v2)
      exact ⟨e1, e2, e3, by omega⟩
/-- The list of a node of a list of right nodes. -/
theorem cmpt_good {f : List Nd} (hf : ∀ (k : Nat) (n : Nd), f[k]? = some n → nodeErr n k = 0) (ho : Ordered f) {root : Nat} (hr : root < f.length) :
    0 < (cmpt f root).length ∧ (cmpt f root).length ≤ f.length ∧ ∀ (k : Nat) (n : Nd), (cmpt f root)[k]? = some n → nodeErr n k = 0 := by
  obtain ⟨h1, h2, h3, _⟩ := fin_good f hf ho (root + 1) root ⟨[], []⟩ hr (by omega) ⟨fun k n h => by simp at h, fun i k h => by simp [List.lookup] at h⟩
  have hi := (fin_inv f ho (root + 1) root ⟨[], []⟩ hr (by omega) ⟨by simp, by simp, by simp⟩).bound
  exact ⟨by unfold cmpt; omega, hi, h1.node⟩
theorem Fml.comp {f : List Nd} (h : Fml f) : Fml (comp f) := by
  have hc : Go.Proofs.Ytlgbbabijifflaa.comp f = cmpt f (f.length - 1) := by unfold Go.Proofs.Ytlgbbabijifflaa.comp; rw [if_neg (by rw [h.chk]; omega)]
  obtain ⟨h1, h2, h3⟩ := cmpt_good h.node h.ordered (root := f.length - 1) (by have := h.pos; omega)
  rw [hc]
  exact ⟨h1, by have := h.len; omega, h3⟩
end Go.Proofs.Ytlgbbabijifflaa
