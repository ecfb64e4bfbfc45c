/-
  Plain law: compact's list is the canonical list of its tree.
-/
import Derived.Test.YtlgbbabijifflaaTree3
namespace Go.Proofs.Ytlgbbabijifflaa

/-- compact's state over a list of trees. -/
structure TInv (f : List Nd) (s : FS) (ts : List Tr) : Prop where
  out : s.out = enc ts
  nodup : ts.Nodup
  closed : Closed ts
  wf : ∀ t ∈ ts, WF t
  done : ∀ (i k : Int), s.done.lookup i = some k → ∃ j : Nat, i = j ∧ j < f.length ∧ T f j ∈ ts ∧ k = (ts.idxOf (T f j) : Int)
/-- One tree is put. -/
theorem TInv.put {f : List Nd} {s : FS} {ts : List Tr} (h : TInv f s ts) {i : Nat} (hi : i < f.length) {n : Nd} (hd : s.done.lookup (i : Int) = none) (hn : n = nd ts (T f i)) (hk : Kids ts (T f i)) (hw : WF (T f i)) :
    TInv f (finEnd s i n).1 (addT ts (T f i)) ∧ (finEnd s i n).2 = ((addT ts (T f i)).idxOf (T f i) : Int) := by
  have hl := num_enc h.closed h.wf hw hk
  rw [← h.out, ← hn] at hl
  have hdone : ∀ (ts' : List Tr) (v : Int), (∀ t ∈ ts, t ∈ ts' ∧ ts'.idxOf t = ts.idxOf t) → T f i ∈ ts' → v = (ts'.idxOf (T f i) : Int) → ∀ (a k : Int), (s.done ++ [((i : Int), v)]).lookup a = some k → ∃ j : Nat, a = j ∧ j < f.length ∧ T f j ∈ ts' ∧ k = (ts'.idxOf (T f j) : Int) := by
    intro ts' v hm ht hv a k hk
    rw [lookup_snoc] at hk
    cases hs : s.done.lookup a with
    | some w =>
      rw [hs] at hk
      simp at hk
      subst hk
      obtain ⟨j, h1, h2, h3, h4⟩ := h.done a w hs
      exact ⟨j, h1, h2, (hm _ h3).1, by rw [(hm _ h3).2]; exact h4⟩
    | none =>
      rw [hs] at hk
      simp at hk
      obtain ⟨rfl, rfl⟩ := hk
      exact ⟨i, rfl, hi, ht, hv⟩
  unfold finEnd addT
  by_cases ht : T f i ∈ ts
  · rw [if_pos ht] at hl
    rw [hl, if_pos ht]
    exact ⟨⟨h.out, h.nodup, h.closed, h.wf, hdone ts _ (fun t ht => ⟨ht, rfl⟩) ht rfl⟩, rfl⟩
  · rw [if_neg ht] at hl
    rw [hl, if_neg ht]
    have hlen : s.out.length = ts.length := by rw [h.out]; simp [enc]
    have hidx : ((ts ++ [T f i]).idxOf (T f i) : Int) = s.out.length := by
      rw [List.idxOf_append, if_neg ht, hlen]; simp
    refine ⟨⟨?_, ?_, ?_, ?_, hdone _ _ (fun t hm => ⟨List.mem_append_left _ hm, idx_pre hm⟩) (by simp) hidx.symm⟩, hidx.symm⟩
    · show s.out ++ [n] = _
      rw [enc_snoc h.closed hk, ← h.out, ← hn]
    · have := Nodup.addT h.nodup (T f i); unfold addT at this; rwa [if_neg ht] at this
    · have := h.closed.addT hk; unfold addT at this; rwa [if_neg ht] at this
    · intro t hm
      rcases List.mem_append.1 hm with hm | hm
      · exact h.wf t hm
      · rw [List.mem_singleton.1 hm]; exact hw

theorem us_unx {op : Int} {b : Bool} {v k : Int} (h : oprd b v k = true) (e : b = false) : v = 0 := by
  rw [e] at h; simpa [oprd] using h
/-- The tree of a node, by its operands. -/
theorem T_eq {f : List Nd} (ho : Ordered f) {i : Nat} {n : Nd} (hn : f[i]? = some n) :
    T f i = if (us n.op).y then .bi n.op n.i n.e n.g (T f n.x.toNat) (T f n.y.toNat) else if (us n.op).x then .un n.op n.i n.e n.g (T f n.x.toNat) else .lf n.op n.i n.e n.g := by
  have hil := (List.getElem?_eq_some_iff.1 hn).1
  have hg : f.getD i Nd.zero = n := by simp [List.getD_eq_getElem?_getD, hn]
  obtain ⟨hx, hy⟩ := ho i n hn
  show tr f (i + 1) i = _
  simp only [tr, hg]
  cases ey : (us n.op).y with
  | true =>
    have h1 := hx (us_yx _ ey)
    have h2 := hy ey
    simp only [if_true]
    rw [tr_fuel f ho n.x.toNat (by omega) i (by omega), tr_fuel f ho n.y.toNat (by omega) i (by omega)]; rfl
  | false =>
    simp only [Bool.false_eq_true, if_false]
    cases ex : (us n.op).x with
    | true =>
      have h1 := hx ex
      simp only [if_true]
      rw [tr_fuel f ho n.x.toNat (by omega) i (by omega)]; rfl
    | false => simp
/-- The closure puts the parts of the node's tree. -/
theorem fin_tr (f : List Nd) (hf : ∀ (k : Nat) (n : Nd), f[k]? = some n → nodeErr n k = 0) (ho : Ordered f) : ∀ (m i : Nat) (s : FS) (ts : List Tr), i < f.length → i < m → TInv f s ts →
    TInv f (fin f m i s).1 (ins (T f i) ts) ∧ (fin f m i s).2 = ((ins (T f i) ts).idxOf (T f i) : Int) ∧ WF (T f i) := by
  intro m
  induction m with
  | zero => intro i s ts _ h; omega
  | succ m ih =>
    intro i s ts hil him hs
    cases hd : s.done.lookup (i : Int) with
    | some k =>
      obtain ⟨j, h1, h2, h3, h4⟩ := hs.done _ _ hd
      obtain rfl : i = j := by omega
      rw [fin_some f m i s k hd, ins_of_mem _ hs.closed h3]
      exact ⟨hs, h4, hs.wf _ h3⟩
    | none =>
      obtain ⟨n, hn⟩ : ∃ n, f[i]? = some n := ⟨_, List.getElem?_eq_getElem hil⟩
      obtain ⟨hx, hy⟩ := ho i n hn
      obtain ⟨_, ox, oy, _⟩ := nodeErr_zero (hf i n hn)
      have hT := T_eq ho hn
      rw [fin_eq f m i s n hd hn]
      cases ex : (us n.op).x with
      | false =>
        have ey : (us n.op).y = false := by
          cases ey : (us n.op).y with
          | false => rfl
          | true => rw [us_yx _ ey] at ex; cases ex
        have x0 := us_unx (op := n.op) ox ex
        have y0 := us_unx (op := n.op) oy ey
        rw [ex, ey] at hT
        simp only [Bool.false_eq_true, if_false] at hT
        simp only [ex, ey, Bool.false_eq_true, if_false]
        have hw : WF (T f i) := by rw [hT]; exact ⟨ex, ey⟩
        have hp := hs.put hil (n := { n with x := n.x, y := n.y }) hd (by rw [hT]; obtain ⟨a, b, c, d, e, g⟩ := n; simp only at x0 y0; subst x0; subst y0; rfl) (by rw [hT]; trivial) hw
        have hi : ins (T f i) ts = addT ts (T f i) := by rw [hT]; rfl
        rw [hi]
        exact ⟨hp.1, hp.2, hw⟩
      | true =>
        obtain ⟨a, b⟩ := hx ex
        obtain ⟨x, hx'⟩ := Int.eq_ofNat_of_zero_le a
        rw [hx'] at b
        have d1 := (fin_done f ho m x s i (by omega) (by omega) (by omega)).trans hd
        obtain ⟨t1, v1, w1⟩ := ih x s ts (by omega) (by omega) hs
        cases ey : (us n.op).y with
        | false =>
          have y0 := us_unx (op := n.op) oy ey
          rw [ex, ey, hx'] at hT
          simp only [Bool.false_eq_true, if_false, if_true, Int.toNat_natCast] at hT
          simp only [ex, ey, if_true, Bool.false_eq_true, if_false, hx']
          have hw : WF (T f i) := by rw [hT]; exact ⟨ex, ey, w1⟩
          have hp := t1.put hil (n := { n with x := (fin f m x s).2, y := n.y }) d1 (by rw [hT, v1]; obtain ⟨a, b, c, d, e, g⟩ := n; simp only at y0; subst y0; rfl) (by rw [hT]; exact mem_ins _ _) hw
          have hi : ins (T f i) ts = addT (ins (T f x) ts) (T f i) := by rw [hT]; rfl
          rw [hi]
          exact ⟨hp.1, hp.2, hw⟩
        | true =>
          obtain ⟨a', b'⟩ := hy ey
          obtain ⟨y, hy'⟩ := Int.eq_ofNat_of_zero_le a'
          rw [hy'] at b'
          have d2 := (fin_done f ho m y (fin f m x s).1 i (by omega) (by omega) (by omega)).trans d1
          obtain ⟨t2, v2, w2⟩ := ih y (fin f m x s).1 (ins (T f x) ts) (by omega) (by omega) t1
          rw [ey, hx', hy'] at hT
          simp only [if_true, Int.toNat_natCast] at hT
          simp only [ex, ey, if_true, hx', hy']
          have hw : WF (T f i) := by rw [hT]; exact ⟨ey, w1, w2⟩
          have hx2 : (ins (T f y) (ins (T f x) ts)).idxOf (T f x) = (ins (T f x) ts).idxOf (T f x) := by
            obtain ⟨r, e⟩ := ins_pre (T f y) (ins (T f x) ts)
            rw [e, idx_pre (mem_ins _ _)]
          have hp := t2.put hil (n := { n with x := (fin f m x s).2, y := (fin f m y (fin f m x s).1).2 }) d2 (by rw [hT, v1, v2]; simp only [nd]; rw [hx2]) (by rw [hT]; exact ⟨ins_mono (mem_ins _ _), mem_ins _ _⟩) hw
          have hi : ins (T f i) ts = addT (ins (T f y) (ins (T f x) ts)) (T f i) := by rw [hT]; rfl
          rw [hi]
          exact ⟨hp.1, hp.2, hw⟩
theorem TInv.nil (f : List Nd) : TInv f ⟨[], []⟩ [] := ⟨rfl, List.nodup_nil, fun t h => by simp at h, fun t h => by simp at h, fun i k h => by simp at h⟩
/-- compact's list is the canonical list of the node's tree. -/
theorem cmpt_canon {f : List Nd} (hf : ∀ (k : Nat) (n : Nd), f[k]? = some n → nodeErr n k = 0) (ho : Ordered f) {k : Nat} (hk : k < f.length) : cmpt f k = canon (T f k) ∧ WF (T f k) := by
  obtain ⟨h1, _, h3⟩ := fin_tr f hf ho (k + 1) k ⟨[], []⟩ [] hk (by omega) (TInv.nil f)
  exact ⟨h1.out, h3⟩
end Go.Proofs.Ytlgbbabijifflaa
