/-
  Plain law: the tree of a canonical list; right trees; the canonical list of a formula.
-/
import Derived.Test.YtlgbbabijifflaaTree4
namespace Go.Proofs.Ytlgbbabijifflaa

/-- The parts of a tree. -/
def parts : Tr → List Tr
  | .lf op i e g => [.lf op i e g]
  | .un op i e g x => .un op i e g x :: parts x
  | .bi op i e g x y => .bi op i e g x y :: (parts x ++ parts y)
def sz : Tr → Nat
  | .lf _ _ _ _ => 1
  | .un _ _ _ _ x => sz x + 1
  | .bi _ _ _ _ x y => sz x + sz y + 1
theorem parts_self (t : Tr) : t ∈ parts t := by cases t <;> simp [parts]
theorem parts_sz : ∀ (t u : Tr), u ∈ parts t → sz u ≤ sz t := by
  intro t
  induction t with
  | lf => intro u h; simp [parts] at h; subst h; exact Nat.le_refl _
  | un _ _ _ _ x ih =>
    intro u h
    rcases List.mem_cons.1 h with rfl | h
    · exact Nat.le_refl _
    · have := ih u h; simp only [sz]; omega
  | bi _ _ _ _ x y ih1 ih2 =>
    intro u h
    rcases List.mem_cons.1 h with rfl | h
    · exact Nat.le_refl _
    · rcases List.mem_append.1 h with h | h
      · have := ih1 u h; simp only [sz]; omega
      · have := ih2 u h; simp only [sz]; omega
theorem mem_addT_iff (acc : List Tr) (t u : Tr) : u ∈ addT acc t ↔ u ∈ acc ∨ u = t := by
  unfold addT
  split
  · rename_i h
    exact ⟨.inl, fun h' => h'.elim id fun e => e ▸ h⟩
  · simp
theorem mem_ins_iff : ∀ (t : Tr) (acc : List Tr) (u : Tr), u ∈ ins t acc ↔ u ∈ acc ∨ u ∈ parts t := by
  intro t
  induction t with
  | lf => intro acc u; rw [ins, mem_addT_iff]; simp [parts]
  | un _ _ _ _ x ih => intro acc u; rw [ins, mem_addT_iff, ih]; simp only [parts, List.mem_cons]; grind
  | bi _ _ _ _ x y ih1 ih2 => intro acc u; rw [ins, mem_addT_iff, ih2, ih1]; simp only [parts, List.mem_cons, List.mem_append]; grind
/-- A tree is the last of its list. -/
theorem ins_last (t : Tr) : ∃ r, ins t [] = r ++ [t] := by
  cases t with
  | lf => exact ⟨[], by simp [ins, addT]⟩
  | un op i e g x =>
    refine ⟨ins x [], ?_⟩
    rw [ins, addT, if_neg]
    rw [mem_ins_iff]
    rintro (h | h)
    · cases h
    · have := parts_sz _ _ h; simp only [sz] at this; omega
  | bi op i e g x y =>
    refine ⟨ins y (ins x []), ?_⟩
    rw [ins, addT, if_neg]
    rw [mem_ins_iff, mem_ins_iff]
    rintro ((h | h) | h)
    · cases h
    · have := parts_sz _ _ h; simp only [sz] at this; omega
    · have := parts_sz _ _ h; simp only [sz] at this; omega

/-- Parts stand before their wholes. -/
def Down (ts : List Tr) : Prop := ∀ (j : Nat) (t : Tr), ts[j]? = some t → Kids (ts.take j) t
theorem Kids.of_take {ts : List Tr} {j : Nat} {t : Tr} (h : Kids (ts.take j) t) : Kids ts t := by
  have e := List.take_append_drop j ts
  rw [← e]; exact h.mono
theorem Down.closed {ts : List Tr} (h : Down ts) : Closed ts := fun t ht => by
  obtain ⟨j, hj⟩ := List.getElem?_of_mem ht
  exact (h j t hj).of_take
theorem Down.addT {ts : List Tr} (h : Down ts) {t : Tr} (hk : Kids ts t) : Down (addT ts t) := by
  unfold Go.Proofs.Ytlgbbabijifflaa.addT
  split
  · exact h
  · intro j u hu
    rcases Nat.lt_or_ge j ts.length with hl | hl
    · rw [List.getElem?_append_left hl] at hu
      rw [List.take_append_of_le_length (by omega)]
      exact h j u hu
    · rw [List.getElem?_append_right hl] at hu
      have : j = ts.length := by
        have := (List.getElem?_eq_some_iff.1 hu).1
        simp at this; omega
      subst this
      simp at hu
      subst hu
      rw [List.take_left]
      exact hk
theorem Down.ins : ∀ (t : Tr) {ts : List Tr}, Down ts → Down (ins t ts) := by
  intro t
  induction t with
  | lf => intro ts h; exact h.addT trivial
  | un _ _ _ _ x ih => intro ts h; exact (ih h).addT (mem_ins x ts)
  | bi _ _ _ _ x y ih1 ih2 => intro ts h; exact (ih2 (ih1 h)).addT ⟨ins_mono (mem_ins x ts), mem_ins y _⟩
theorem Down.nil : Down [] := fun j t h => by simp at h

/-- The fields of a node are right, whatever its operands. -/
def Ok4 (op i e g : Int) : Prop := ∃ (x y k : Int), nodeErr ⟨op, i, e, g, x, y⟩ k = 0
def Good : Tr → Prop
  | .lf op i e g => Ok4 op i e g
  | .un op i e g x => Ok4 op i e g ∧ Good x
  | .bi op i e g x y => Ok4 op i e g ∧ Good x ∧ Good y
/-- Built by its operators, with right fields. -/
structure GT (t : Tr) : Prop where
  wf : WF t
  good : Good t
theorem GT.kids_un {op i e g : Int} {x : Tr} (h : GT (.un op i e g x)) : GT x := ⟨h.wf.2.2, h.good.2⟩
theorem GT.kids_bi {op i e g : Int} {x y : Tr} (h : GT (.bi op i e g x y)) : GT x ∧ GT y := ⟨⟨h.wf.2.1, h.good.2.1⟩, ⟨h.wf.2.2, h.good.2.2⟩⟩
theorem GT.part : ∀ (t : Tr), GT t → ∀ u ∈ parts t, GT u := by
  intro t
  induction t with
  | lf => intro h u hu; simp [parts] at hu; subst hu; exact h
  | un _ _ _ _ x ih =>
    intro h u hu
    rcases List.mem_cons.1 hu with rfl | hu
    · exact h
    · exact ih h.kids_un u hu
  | bi _ _ _ _ x y ih1 ih2 =>
    intro h u hu
    rcases List.mem_cons.1 hu with rfl | hu
    · exact h
    · rcases List.mem_append.1 hu with hu | hu
      · exact ih1 h.kids_bi.1 u hu
      · exact ih2 h.kids_bi.2 u hu
theorem Ok4.at_ {op i e g : Int} (h : Ok4 op i e g) {a b k : Int} (hx : (us op).x = true → 0 ≤ a ∧ a < k) (hx' : (us op).x = false → a = 0) (hy : (us op).y = true → 0 ≤ b ∧ b < k) (hy' : (us op).y = false → b = 0) : nodeErr ⟨op, i, e, g, a, b⟩ k = 0 := by
  obtain ⟨x, y, k', h⟩ := h
  obtain ⟨_, ox, oy, _⟩ := nodeErr_zero h
  refine nodeErr_with (n := ⟨op, i, e, g, x, y⟩) h hx (fun ex => ?_) hy (fun ey => ?_)
  · rw [hx' ex]; exact (us_unx (op := op) ox ex).symm
  · rw [hy' ey]; exact (us_unx (op := op) oy ey).symm
theorem idx_lt {ts : List Tr} {j : Nat} {t : Tr} (h : t ∈ ts.take j) : ts.idxOf t < j := by
  have e := List.take_append_drop j ts
  have h1 : ts.idxOf t = (ts.take j).idxOf t := by
    have := idx_pre (r := ts.drop j) h
    rwa [e] at this
  have h2 := List.idxOf_lt_length_iff.2 h
  rw [List.length_take] at h2
  omega
/-- A node of a list of right trees is right. -/
theorem nd_ok {ts : List Tr} {j : Nat} {t : Tr} (hg : GT t) (hk : Kids (ts.take j) t) : nodeErr (nd ts t) j = 0 := by
  cases t with
  | lf op i e g => exact Ok4.at_ hg.good (fun h => by rw [hg.wf.1] at h; cases h) (fun _ => rfl) (fun h => by rw [hg.wf.2] at h; cases h) (fun _ => rfl)
  | un op i e g x =>
    have := idx_lt (t := x) hk
    exact Ok4.at_ hg.good.1 (fun h => by omega) (fun h => by rw [hg.wf.1] at h; cases h) (fun h => by rw [hg.wf.2.1] at h; cases h) (fun _ => rfl)
  | bi op i e g x y =>
    have h1 := idx_lt (t := x) hk.1
    have h2 := idx_lt (t := y) hk.2
    exact Ok4.at_ hg.good.1 (fun h => by omega) (fun h => by rw [us_yx _ hg.wf.1] at h; cases h) (fun h => by omega) (fun h => by rw [hg.wf.1] at h; cases h)
theorem enc_node {ts : List Tr} (hd : Down ts) (hg : ∀ t ∈ ts, GT t) : ∀ (k : Nat) (n : Nd), (enc ts)[k]? = some n → nodeErr n k = 0 := fun k n h => by
  obtain ⟨u, hu, rfl⟩ := enc_get h
  exact nd_ok (hg u (List.mem_of_getElem? hu)) (hd k u hu)
theorem ordered_of {f : List Nd} (h : ∀ (k : Nat) (n : Nd), f[k]? = some n → nodeErr n k = 0) : Ordered f := fun k n hk => by
  obtain ⟨_, hx, hy, _⟩ := nodeErr_zero (h k n hk)
  refine ⟨fun e => ?_, fun e => ?_⟩
  · rw [e] at hx; simpa [oprd] using hx
  · rw [e] at hy; simpa [oprd] using hy
/-- The trees of a list of trees. -/
theorem T_enc {ts : List Tr} (hd : Down ts) (hg : ∀ t ∈ ts, GT t) : ∀ (j : Nat) (t : Tr), ts[j]? = some t → T (enc ts) j = t := by
  have ho := ordered_of (enc_node hd hg)
  intro j
  induction j using Nat.strongRecOn with
  | ind j ih =>
    intro t ht
    have hn : (enc ts)[j]? = some (nd ts t) := by unfold enc; rw [List.getElem?_map, ht]; rfl
    have hk := hd j t ht
    have w := (hg t (List.mem_of_getElem? ht)).wf
    have hget : ∀ u, u ∈ ts.take j → ts[ts.idxOf u]? = some u := fun u hu => by
      have hm := List.mem_of_mem_take hu
      have hl := List.idxOf_lt_length_iff.2 hm
      rw [List.getElem?_eq_getElem hl, List.getElem_idxOf hl]
    rw [T_eq ho hn]
    cases t with
    | lf op i e g => simp only [nd, w.1, w.2, Bool.false_eq_true, if_false]
    | un op i e g x =>
      simp only [nd, w.1, w.2.1, Bool.false_eq_true, if_false, if_true, Int.toNat_natCast]
      rw [ih _ (idx_lt (t := x) hk) x (hget x hk)]
    | bi op i e g x y =>
      simp only [nd, w.1, if_true, Int.toNat_natCast]
      rw [ih _ (idx_lt (t := x) hk.1) x (hget x hk.1), ih _ (idx_lt (t := y) hk.2) y (hget y hk.2)]
/-- How many different parts a tree has. -/
def cnt (t : Tr) : Nat := (ins t []).length
theorem cnt_pos (t : Tr) : 0 < cnt t := by
  obtain ⟨r, e⟩ := ins_last t
  unfold cnt; rw [e]; simp
theorem canon_len (t : Tr) : (canon t).length = cnt t := by simp [canon, enc, cnt]
theorem ins_gt {t : Tr} (h : GT t) : ∀ u ∈ ins t [], GT u := fun u hu => by
  rcases (mem_ins_iff t [] u).1 hu with h' | h'
  · cases h'
  · exact GT.part t h u h'
/-- The canonical list is a formula, and its tree is the tree. -/
theorem canon_node {t : Tr} (h : GT t) : ∀ (k : Nat) (n : Nd), (canon t)[k]? = some n → nodeErr n k = 0 := enc_node (Down.ins t Down.nil) (ins_gt h)
theorem canon_T {t : Tr} (h : GT t) : T (canon t) (cnt t - 1) = t := by
  refine T_enc (Down.ins t Down.nil) (ins_gt h) _ _ ?_
  obtain ⟨r, e⟩ := ins_last t
  unfold cnt
  rw [e]
  simp
theorem canon_fml {t : Tr} (h : GT t) (hc : cnt t ≤ 200) : Fml (canon t) := ⟨by rw [canon_len]; exact cnt_pos t, by rw [canon_len]; exact hc, canon_node h⟩
/-- A formula's tree. -/
def tree (f : List Nd) : Tr := T f (f.length - 1)
theorem tree_canon {t : Tr} (h : GT t) : tree (canon t) = t := by unfold tree; rw [canon_len]; exact canon_T h
theorem T_good {f : List Nd} (hf : ∀ (k : Nat) (n : Nd), f[k]? = some n → nodeErr n k = 0) : ∀ k, k < f.length → GT (T f k) := by
  have ho := ordered_of hf
  intro k hk
  refine ⟨(cmpt_canon hf ho hk).2, ?_⟩
  induction k using Nat.strongRecOn with
  | ind k ih =>
    obtain ⟨n, hn⟩ : ∃ n, f[k]? = some n := ⟨_, List.getElem?_eq_getElem hk⟩
    obtain ⟨hx, hy⟩ := ho k n hn
    have h4 : Ok4 n.op n.i n.e n.g := ⟨n.x, n.y, k, hf k n hn⟩
    rw [T_eq ho hn]
    cases ey : (us n.op).y with
    | true =>
      have h1 := hx (us_yx _ ey)
      have h2 := hy ey
      simp only [if_true]
      exact ⟨h4, ih _ (by omega) (by omega), ih _ (by omega) (by omega)⟩
    | false =>
      simp only [Bool.false_eq_true, if_false]
      cases ex : (us n.op).x with
      | true =>
        have h1 := hx ex
        simp only [if_true]
        exact ⟨h4, ih _ (by omega) (by omega)⟩
      | false => simp only [Bool.false_eq_true, if_false]; exact h4
theorem Fml.gt {f : List Nd} (h : Fml f) : GT (tree f) := T_good h.node _ (by have := h.pos; omega)
theorem comp_canon {f : List Nd} (h : Fml f) : comp f = canon (tree f) := by
  unfold comp; rw [if_neg (by rw [h.chk]; omega)]
  exact (cmpt_canon h.node h.ordered (by have := h.pos; omega)).1
theorem Fml.cnt {f : List Nd} (h : Fml f) : cnt (tree f) ≤ f.length := by
  rw [← canon_len, ← comp_canon h]
  unfold Go.Proofs.Ytlgbbabijifflaa.comp; rw [if_neg (by rw [h.chk]; omega)]
  exact (cmpt_good h.node h.ordered (by have := h.pos; omega)).2.1
end Go.Proofs.Ytlgbbabijifflaa
