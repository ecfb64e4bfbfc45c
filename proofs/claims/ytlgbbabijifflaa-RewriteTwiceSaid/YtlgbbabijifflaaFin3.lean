/-
  compact: the closure at every node, and the function itself.
-/
import Derived.Test.YtlgbbabijifflaaFin2
namespace Go.Proofs.Ytlgbbabijifflaa
open Go.RowKit

/-- Operands stand before their nodes. -/
def Ordered (f : List Nd) : Prop := ∀ (k : Nat) (n : Nd), f[k]? = some n → ((us n.op).x = true → 0 ≤ n.x ∧ n.x < k) ∧ ((us n.op).y = true → 0 ≤ n.y ∧ n.y < k)
theorem us_yx (op : Int) (h : (us op).y = true) : (us op).x = true := by
  revert h
  refine us_all (p := fun _ u => u.y = true → u.x = true) ?_ ?_ ?_ ?_ ?_ ?_ ?_ ?_ ?_ ?_ ?_ ?_ ?_ ?_ ?_ ?_ ?_ ?_ ?_ ?_ ?_ ?_ op
  rotate_right
  · intro _ _ h; cases h
  all_goals decide

theorem getD_of {f : List Nd} {i : Nat} {n : Nd} (h : f[i]? = some n) : f.getD (i : Int).toNat Nd.zero = n := by
  simp [List.getD_eq_getElem?_getD, h]
theorem fin_eq (f : List Nd) (m i : Nat) (s : FS) (n : Nd) (hd : s.done.lookup (i : Int) = none) (hn : f[i]? = some n) :
    fin f (m + 1) i s = finEnd (if (us n.op).y then fin f m n.y (if (us n.op).x then fin f m n.x s else (s, n.x)).1 else ((if (us n.op).x then fin f m n.x s else (s, n.x)).1, n.y)).1 i
      { n with x := (if (us n.op).x then fin f m n.x s else (s, n.x)).2, y := (if (us n.op).y then fin f m n.y (if (us n.op).x then fin f m n.x s else (s, n.x)).1 else ((if (us n.op).x then fin f m n.x s else (s, n.x)).1, n.y)).2 } := by
  rw [fin, hd]
  simp only [getD_of hn]
  rfl
theorem fin_some (f : List Nd) (m : Nat) (i : Int) (s : FS) (k : Int) (hd : s.done.lookup i = some k) : fin f (m + 1) i s = (s, k) := by
  rw [fin, hd]

theorem lookup_snoc (l : List (Int × Int)) (a k b : Int) : (l ++ [(a, k)]).lookup b = match l.lookup b with | some v => some v | none => if b = a then some k else none := by
  induction l with
  | nil =>
    by_cases h : b = a
    · subst h; simp [List.lookup]
    · simp [List.lookup, h, beq_eq_false_iff_ne.2 h]
  | cons p r ih =>
    obtain ⟨x, y⟩ := p
    by_cases h : b = x
    · subst h; simp [List.lookup]
    · simp only [List.cons_append, List.lookup, beq_eq_false_iff_ne.2 h]
      exact ih
theorem finEnd_done (r : FS) (i : Int) (n : Nd) : ∃ k, (finEnd r i n).1.done = r.done ++ [(i, k)] := by
  unfold finEnd
  split
  · exact ⟨_, rfl⟩
  · exact ⟨_, rfl⟩
/-- What finish marks as done lies at or below its node. -/
theorem fin_done (f : List Nd) (ho : Ordered f) : ∀ (m j : Nat) (s : FS) (i : Nat), j < i → j < f.length → j < m → (fin f m j s).1.done.lookup (i : Int) = s.done.lookup (i : Int) := by
  intro m
  induction m with
  | zero => intro j s i _ _ h; omega
  | succ m ih =>
    intro j s i hji hjl hjm
    cases hd : s.done.lookup (j : Int) with
    | some k => rw [fin_some f m j s k hd]
    | none =>
      obtain ⟨n, hn⟩ : ∃ n, f[j]? = some n := ⟨_, List.getElem?_eq_getElem hjl⟩
      obtain ⟨hx, hy⟩ := ho j n hn
      rw [fin_eq f m j s n hd hn]
      obtain ⟨k, hk⟩ := finEnd_done (if (us n.op).y then fin f m n.y (if (us n.op).x then fin f m n.x s else (s, n.x)).1 else ((if (us n.op).x then fin f m n.x s else (s, n.x)).1, n.y)).1 j { n with x := (if (us n.op).x then fin f m n.x s else (s, n.x)).2, y := (if (us n.op).y then fin f m n.y (if (us n.op).x then fin f m n.x s else (s, n.x)).1 else ((if (us n.op).x then fin f m n.x s else (s, n.x)).1, n.y)).2 }
      rw [hk, lookup_snoc]
      have hne : ¬ (i : Int) = j := by omega
      have h1 : (if (us n.op).x then fin f m n.x s else (s, n.x)).1.done.lookup (i : Int) = s.done.lookup (i : Int) := by
        split
        · rename_i h
          obtain ⟨a, b⟩ := hx h
          obtain ⟨x, hx'⟩ := Int.eq_ofNat_of_zero_le a
          rw [hx'] at b ⊢
          exact ih x s i (by omega) (by omega) (by omega)
        · rfl
      have h2 : (if (us n.op).y then fin f m n.y (if (us n.op).x then fin f m n.x s else (s, n.x)).1 else ((if (us n.op).x then fin f m n.x s else (s, n.x)).1, n.y)).1.done.lookup (i : Int) = s.done.lookup (i : Int) := by
        split
        · rename_i h
          obtain ⟨a, b⟩ := hy h
          obtain ⟨y, hy'⟩ := Int.eq_ofNat_of_zero_le a
          rw [hy'] at b ⊢
          rw [ih y _ i (by omega) (by omega) (by omega)]
          exact h1
        · exact h1
      rw [h2]
      cases s.done.lookup (i : Int) <;> simp [hne]

/-- The state's bounds. -/
structure FInv (f : List Nd) (s : FS) : Prop where
  len : s.out.length ≤ s.done.length
  nodup : (s.done.map (·.1)).Nodup
  keys : ∀ k : Int, k ∈ s.done.map (·.1) → 0 ≤ k ∧ k < f.length
theorem FInv.bound {f : List Nd} {s : FS} (h : FInv f s) : s.out.length ≤ f.length := by
  have hs : (s.done.map (·.1)).length ≤ ((List.range f.length).map fun k : Nat => (k : Int)).length := h.nodup.length_le_of_subset fun k hk => by
    obtain ⟨a, b⟩ := h.keys k hk
    exact List.mem_map.2 ⟨k.toNat, List.mem_range.2 (by omega), by omega⟩
  simp at hs
  have := h.len
  omega
theorem lookup_none_not_mem (l : List (Int × Int)) (a : Int) (h : l.lookup a = none) : a ∉ l.map (·.1) := by
  induction l with
  | nil => simp
  | cons p r ih =>
    obtain ⟨x, y⟩ := p
    by_cases e : a = x
    · subst e; simp [List.lookup] at h
    · simp only [List.lookup, beq_eq_false_iff_ne.2 e] at h
      simp only [List.map_cons, List.mem_cons, not_or]
      exact ⟨e, ih h⟩
theorem FInv.push {f : List Nd} {r : FS} (h : FInv f r) (i : Nat) (n : Nd) (hi : i < f.length) (hd : r.done.lookup (i : Int) = none) : FInv f (finEnd r i n).1 := by
  have hm := lookup_none_not_mem _ _ hd
  have hnd : ∀ k : Int, ((r.done ++ [((i : Int), k)]).map (·.1)).Nodup := fun k => by
    rw [List.map_append, List.nodup_append]
    refine ⟨h.nodup, by simp, ?_⟩
    intro a ha b hb
    simp at hb
    subst hb
    exact fun e => hm (e ▸ ha)
  have hk : ∀ k q : Int, q ∈ (r.done ++ [((i : Int), k)]).map (·.1) → 0 ≤ q ∧ q < f.length := fun k q hq => by
    rw [List.map_append, List.mem_append] at hq
    rcases hq with hq | hq
    · exact h.keys q hq
    · simp at hq; omega
  have hl := h.len
  unfold finEnd
  split
  · exact ⟨by simp; omega, hnd _, hk _⟩
  · exact ⟨by simp; omega, hnd _, hk _⟩
theorem fin_inv (f : List Nd) (ho : Ordered f) : ∀ (m j : Nat) (s : FS), j < f.length → j < m → FInv f s → FInv f (fin f m j s).1 := by
  intro m
  induction m with
  | zero => intro j s _ h; omega
  | succ m ih =>
    intro j s hjl hjm hs
    cases hd : s.done.lookup (j : Int) with
    | some k => rw [fin_some f m j s k hd]; exact hs
    | none =>
      obtain ⟨n, hn⟩ : ∃ n, f[j]? = some n := ⟨_, List.getElem?_eq_getElem hjl⟩
      obtain ⟨hx, hy⟩ := ho j n hn
      rw [fin_eq f m j s n hd hn]
      have h1 : FInv f (if (us n.op).x then fin f m n.x s else (s, n.x)).1 ∧ (if (us n.op).x then fin f m n.x s else (s, n.x)).1.done.lookup (j : Int) = none := by
        split
        · rename_i h
          obtain ⟨a, b⟩ := hx h
          obtain ⟨x, hx'⟩ := Int.eq_ofNat_of_zero_le a
          rw [hx'] at b ⊢
          exact ⟨ih x s (by omega) (by omega) hs, (fin_done f ho m x s j (by omega) (by omega) (by omega)).trans hd⟩
        · exact ⟨hs, hd⟩
      have h2 : FInv f (if (us n.op).y then fin f m n.y (if (us n.op).x then fin f m n.x s else (s, n.x)).1 else ((if (us n.op).x then fin f m n.x s else (s, n.x)).1, n.y)).1 ∧ (if (us n.op).y then fin f m n.y (if (us n.op).x then fin f m n.x s else (s, n.x)).1 else ((if (us n.op).x then fin f m n.x s else (s, n.x)).1, n.y)).1.done.lookup (j : Int) = none := by
        split
        · rename_i h
          obtain ⟨a, b⟩ := hy h
          obtain ⟨y, hy'⟩ := Int.eq_ofNat_of_zero_le a
          rw [hy'] at b ⊢
          exact ⟨ih y _ (by omega) (by omega) h1.1, (fin_done f ho m y _ j (by omega) (by omega) (by omega)).trans h1.2⟩
        · exact h1
      exact h2.1.push j _ hjl h2.2

/-- The closure 'finish' at every node. -/
theorem finish_any (w0 : World) (A : Option Addr) (c : Nat) (f : List Nd) (ho : Ordered f) (hf : f.length ≤ 1000) (hNS : NS w0 A f) :
    ∀ (m i : Nat) (s : FS) (w : World) (v : Value), i < f.length → i < m → FInv f s → FOk w0 A c f w s.out (numL s.out) s.done v →
      Calls Try.prog 106 (finArgs w0 i) w (FPost w0 A c f w v (fin f m i s)) := by
  intro m
  induction m with
  | zero => intro i s w v _ h; omega
  | succ m ih =>
    intro i s w v hil him hs hok
    cases hd : s.done.lookup (i : Int) with
    | some k => rw [fin_some f m i s k hd]; exact finish_done w0 A c f i s w v hok k hd
    | none =>
      obtain ⟨n, hn⟩ : ∃ n, f[i]? = some n := ⟨_, List.getElem?_eq_getElem hil⟩
      obtain ⟨hx, hy⟩ := ho i n hn
      rw [fin_eq f m i s n hd hn]
      cases ex : (us n.op).x with
      | false =>
        have ey : (us n.op).y = false := by
          cases ey : (us n.op).y with
          | false => rfl
          | true => rw [us_yx _ ey] at ex; cases ex
        simp only [ey, Bool.false_eq_true, if_false]
        exact finish_lf w0 A c f i s w v hok hNS hd n hn ex ey (by have := hs.bound; omega)
      | true =>
        obtain ⟨a, b⟩ := hx ex
        obtain ⟨x, hx'⟩ := Int.eq_ofNat_of_zero_le a
        rw [hx'] at b
        have i1 := fin_inv f ho m x s (by omega) (by omega) hs
        have d1 := (fin_done f ho m x s i (by omega) (by omega) (by omega)).trans hd
        cases ey : (us n.op).y with
        | false =>
          simp only [if_true, Bool.false_eq_true, if_false]
          rw [hx']
          exact finish_un w0 A c f i s (fin f m x s).1 (fin f m x s).2 w v hok hNS hd n hn ex ey (fun w v hk => by rw [hx']; exact ih x s w v (by omega) (by omega) hs hk) (by have := i1.bound; omega) d1
        | true =>
          obtain ⟨a', b'⟩ := hy ey
          obtain ⟨y, hy'⟩ := Int.eq_ofNat_of_zero_le a'
          rw [hy'] at b'
          have i2 := fin_inv f ho m y (fin f m x s).1 (by omega) (by omega) i1
          have d2 := (fin_done f ho m y (fin f m x s).1 i (by omega) (by omega) (by omega)).trans d1
          simp only [if_true]
          rw [hx', hy']
          exact finish_bi w0 A c f i s (fin f m x s).1 (fin f m y (fin f m x s).1).1 (fin f m x s).2 (fin f m y (fin f m x s).1).2 w v hok hNS hd n hn ex ey (fun w v hk => by rw [hx']; exact ih x s w v (by omega) (by omega) hs hk)
            (fun w v hk => by rw [hy']; exact ih y _ w v (by omega) (by omega) i1 hk) (by have := i2.bound; omega) d2
end Go.Proofs.Ytlgbbabijifflaa
