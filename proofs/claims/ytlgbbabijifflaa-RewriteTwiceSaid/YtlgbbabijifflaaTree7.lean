/-
  Plain law: substitution of trees; Subst computes it.
-/
import Derived.Test.YtlgbbabijifflaaTree6
import Derived.Test.YtlgbbabijifflaaSubst
namespace Go.Proofs.Ytlgbbabijifflaa

/-- Substitution. -/
def sb (σ : Nat → Tr) : Tr → Tr
  | .lf op i e g => if op = 3 then σ i.toNat else .lf op i e g
  | .un op i e g x => .un op i e g (sb σ x)
  | .bi op i e g x y => .bi op i e g (sb σ x) (sb σ y)
theorem Ok4.fact {i e g : Int} (h : Ok4 3 i e g) : 0 ≤ i ∧ i < 8 ∧ e = 0 ∧ g = 0 := by
  obtain ⟨x, y, k, h⟩ := h
  obtain ⟨_, _, _, h4, h5⟩ := nodeErr_zero h
  simp [us, outs] at h4 h5
  omega
theorem sb_gt {σ : Nat → Tr} (hσ : ∀ i, i < 8 → GT (σ i)) : ∀ (t : Tr), GT t → GT (sb σ t) := by
  intro t
  induction t with
  | lf op i e g =>
    intro h
    unfold sb
    split
    · rename_i h3
      subst h3
      have := Ok4.fact h.good
      exact hσ _ (by omega)
    · exact h
  | un op i e g x ih => intro h; exact ⟨⟨h.wf.1, h.wf.2.1, (ih h.kids_un).wf⟩, ⟨h.good.1, (ih h.kids_un).good⟩⟩
  | bi op i e g x y ih1 ih2 => intro h; exact ⟨⟨h.wf.1, (ih1 h.kids_bi.1).wf, (ih2 h.kids_bi.2).wf⟩, ⟨h.good.1, (ih1 h.kids_bi.1).good, (ih2 h.kids_bi.2).good⟩⟩
theorem parts_trans : ∀ (t u v : Tr), u ∈ parts t → v ∈ parts u → v ∈ parts t := by
  intro t
  induction t with
  | lf => intro u v hu hv; simp [parts] at hu; subst hu; exact hv
  | un _ _ _ _ x ih =>
    intro u v hu hv
    rcases List.mem_cons.1 hu with rfl | hu
    · exact hv
    · exact List.mem_cons_of_mem _ (ih u v hu hv)
  | bi _ _ _ _ x y ih1 ih2 =>
    intro u v hu hv
    rcases List.mem_cons.1 hu with rfl | hu
    · exact hv
    · rcases List.mem_append.1 hu with hu | hu
      · exact List.mem_cons_of_mem _ (List.mem_append_left _ (ih1 u v hu hv))
      · exact List.mem_cons_of_mem _ (List.mem_append_right _ (ih2 u v hu hv))
theorem parts_sb {σ : Nat → Tr} : ∀ (t s : Tr), s ∈ parts t → sb σ s ∈ parts (sb σ t) := by
  intro t
  induction t with
  | lf => intro s h; simp [parts] at h; subst h; exact parts_self _
  | un _ _ _ _ x ih =>
    intro s h
    rcases List.mem_cons.1 h with rfl | h
    · exact parts_self _
    · exact List.mem_cons_of_mem _ (ih s h)
  | bi _ _ _ _ x y ih1 ih2 =>
    intro s h
    rcases List.mem_cons.1 h with rfl | h
    · exact parts_self _
    · rcases List.mem_append.1 h with h | h
      · exact List.mem_cons_of_mem _ (List.mem_append_left _ (ih1 s h))
      · exact List.mem_cons_of_mem _ (List.mem_append_right _ (ih2 s h))
theorem nodup_len : ∀ (l m : List Tr), l.Nodup → (∀ a ∈ l, a ∈ m) → l.length ≤ m.length := by
  intro l
  induction l with
  | nil => intro m _ _; exact Nat.zero_le _
  | cons a r ih =>
    intro m hn hs
    rw [List.nodup_cons] at hn
    have ha := hs a (by simp)
    have := ih (m.erase a) hn.2 fun b hb => (List.mem_erase_of_ne (fun e : b = a => hn.1 (by rw [← e]; exact hb))).2 (hs b (List.mem_cons_of_mem _ hb))
    rw [List.length_erase_of_mem ha] at this
    have := List.length_pos_of_mem ha
    simp only [List.length_cons]
    omega
theorem ins_nodup (t : Tr) : (ins t []).Nodup := Nodup.ins t List.nodup_nil
theorem mem_ins_nil {t u : Tr} : u ∈ ins t [] ↔ u ∈ parts t := by rw [mem_ins_iff]; simp
theorem cnt_le {t : Tr} {m : List Tr} (h : ∀ u ∈ parts t, u ∈ m) : cnt t ≤ m.length := nodup_len _ _ (ins_nodup t) fun a ha => h a (mem_ins_nil.1 ha)
theorem cnt_part {t s : Tr} (h : s ∈ parts t) : cnt s ≤ cnt t := cnt_le fun u hu => mem_ins_nil.2 (parts_trans t s u h hu)
theorem cnt_sb_part {σ : Nat → Tr} {t s : Tr} (h : s ∈ parts t) : cnt (sb σ s) ≤ cnt (sb σ t) := cnt_part (parts_sb t s h)
theorem parts_of_sb {σ : Nat → Tr} : ∀ (t : Tr), GT t → ∀ u ∈ parts (sb σ t), (∃ s ∈ parts t, u = sb σ s) ∨ ∃ i, i < 8 ∧ u ∈ parts (σ i) := by
  intro t
  induction t with
  | lf op i e g =>
    intro h u hu
    unfold sb at hu
    split at hu
    · rename_i h3
      subst h3
      have := Ok4.fact h.good
      exact .inr ⟨_, by omega, hu⟩
    · rename_i h3
      simp [parts] at hu
      subst hu
      exact .inl ⟨_, parts_self _, by simp [sb, h3]⟩
  | un op i e g x ih =>
    intro h u hu
    rcases List.mem_cons.1 hu with rfl | hu
    · exact .inl ⟨_, parts_self _, rfl⟩
    · rcases ih h.kids_un u hu with ⟨s, hs, e⟩ | h'
      · exact .inl ⟨s, List.mem_cons_of_mem _ hs, e⟩
      · exact .inr h'
  | bi op i e g x y ih1 ih2 =>
    intro h u hu
    rcases List.mem_cons.1 hu with rfl | hu
    · exact .inl ⟨_, parts_self _, rfl⟩
    · rcases List.mem_append.1 hu with hu | hu
      · rcases ih1 h.kids_bi.1 u hu with ⟨s, hs, e⟩ | h'
        · exact .inl ⟨s, List.mem_cons_of_mem _ (List.mem_append_left _ hs), e⟩
        · exact .inr h'
      · rcases ih2 h.kids_bi.2 u hu with ⟨s, hs, e⟩ | h'
        · exact .inl ⟨s, List.mem_cons_of_mem _ (List.mem_append_right _ hs), e⟩
        · exact .inr h'
theorem flat_len (σ : Nat → Tr) (b : Nat) (hb : ∀ i, i < 8 → cnt (σ i) ≤ b) : ∀ n, n ≤ 8 → ((List.range n).flatMap fun i => ins (σ i) []).length ≤ n * b := by
  intro n
  induction n with
  | zero => intro _; simp
  | succ n ih =>
    intro hn
    rw [List.range_succ, List.flatMap_append, List.length_append, Nat.succ_mul]
    have h1 := ih (by omega)
    have h2 := hb n (by omega)
    unfold cnt at h2
    simp only [List.flatMap_cons, List.flatMap_nil, List.append_nil]
    omega
/-- How many parts a substituted tree has. -/
theorem cnt_sb {σ : Nat → Tr} {t : Tr} (ht : GT t) {b : Nat} (hb : ∀ i, i < 8 → cnt (σ i) ≤ b) : cnt (sb σ t) ≤ cnt t + 8 * b := by
  have h1 := cnt_le (t := sb σ t) (m := (ins t []).map (sb σ) ++ (List.range 8).flatMap fun i => ins (σ i) []) fun u hu => by
    rcases parts_of_sb t ht u hu with ⟨s, hs, rfl⟩ | ⟨i, hi, hu⟩
    · exact List.mem_append_left _ (List.mem_map_of_mem (mem_ins_nil.2 hs))
    · exact List.mem_append_right _ (List.mem_flatMap.2 ⟨i, List.mem_range.2 hi, mem_ins_nil.2 hu⟩)
  have h2 := flat_len σ b hb 8 (Nat.le_refl _)
  rw [List.length_append, List.length_map] at h1
  unfold cnt at h1 ⊢
  omega
/-- Two substitutions one after the other. -/
theorem sb_sb (σ τ : Nat → Tr) : ∀ t, sb τ (sb σ t) = sb (fun i => sb τ (σ i)) t := by
  intro t
  induction t with
  | lf op i e g => simp only [sb]; split <;> simp [sb, *]
  | un _ _ _ _ x ih => simp only [sb, ih]
  | bi _ _ _ _ x y ih1 ih2 => simp only [sb, ih1, ih2]
theorem sb_self : ∀ t, GT t → sb (fun i => .lf 3 i 0 0) t = t := by
  intro t
  induction t with
  | lf op i e g =>
    intro h
    simp only [sb]
    split
    · rename_i h3
      subst h3
      obtain ⟨h0, _, rfl, rfl⟩ := Ok4.fact h.good
      rw [Int.toNat_of_nonneg h0]
    · rfl
  | un _ _ _ _ x ih => intro h; simp only [sb, ih h.kids_un]
  | bi _ _ _ _ x y ih1 ih2 => intro h; simp only [sb, ih1 h.kids_bi.1, ih2 h.kids_bi.2]
theorem sb_congr {σ τ : Nat → Tr} (h : ∀ i, i < 8 → σ i = τ i) : ∀ t, GT t → sb σ t = sb τ t := by
  intro t
  induction t with
  | lf op i e g =>
    intro ht
    simp only [sb]
    split
    · rename_i h3
      subst h3
      have := Ok4.fact ht.good
      exact h _ (by omega)
    · rfl
  | un _ _ _ _ x ih => intro h; simp only [sb, ih h.kids_un]
  | bi _ _ _ _ x y ih1 ih2 => intro h; simp only [sb, ih1 h.kids_bi.1, ih2 h.kids_bi.2]

/-- The trees of a list of formulas. -/
def trees (to : List (List Nd)) (i : Nat) : Tr := tree (to.getD i [])
theorem map_take_getD {ts : List Tr} {d : List Nd} (F : Tr → List Nd) {j : Nat} {u : Tr} (h : u ∈ ts.take j) : ((ts.take j).map F).getD (ts.idxOf u) d = F u := by
  have hm := List.mem_of_mem_take h
  have hl := List.idxOf_lt_length_iff.2 hm
  have h2 := idx_lt h
  rw [List.getD_eq_getElem?_getD, List.getElem?_map, List.getElem?_take_of_lt h2, List.getElem?_eq_getElem hl, List.getElem_idxOf hl]
  rfl
/-- One step of upward. -/
theorem sbR_nd {to : List (List Nd)} (h8 : to.length = 8) (hto : ∀ g ∈ to, Fml g) {ts : List Tr} {j : Nat} {t : Tr} (ht : GT t) (hk : Kids (ts.take j) t) (hc : ∀ u ∈ parts t, cnt (sb (trees to) u) ≤ 200) :
    sbR to (nd ts t) (if (us (nd ts t).op).x then ((ts.take j).map fun s => canon (sb (trees to) s)).getD (nd ts t).x.toNat [] else []) (if (us (nd ts t).op).y then ((ts.take j).map fun s => canon (sb (trees to) s)).getD (nd ts t).y.toNat [] else []) = canon (sb (trees to) t) := by
  have hσ : ∀ i, i < 8 → GT (trees to i) := fun i hi => by
    unfold trees
    have hg : to[i]? = some to[i] := List.getElem?_eq_getElem (by omega)
    rw [List.getD_eq_getElem?_getD, hg]
    exact (hto _ (List.getElem_mem _)).gt
  cases t with
  | lf op i e g =>
    simp only [nd, ht.wf.1, ht.wf.2, Bool.false_eq_true, if_false]
    unfold sbR
    by_cases h3 : op = 3
    · subst h3
      have hf := Ok4.fact ht.good
      rw [if_pos ⟨rfl, by rw [h8]; exact hf.2.1⟩]
      simp only [sb, if_true]
      have hl : i.toNat < to.length := by omega
      have hg : to[i.toNat]? = some to[i.toNat] := List.getElem?_eq_getElem hl
      unfold trees
      simp only [List.getD_eq_getElem?_getD, hg, Option.getD_some]
      exact comp_canon (hto _ (List.getElem_mem _))
    · rw [if_neg (fun h => h3 h.1)]
      simp only [sb, if_neg h3]
      unfold rbuild opsOf
      simp only [ht.wf.1, Bool.false_eq_true, if_false]
      exact bld_lf ht.good ht.wf.1 ht.wf.2
  | un op i e g x =>
    have h3 : op ≠ 3 := fun h => by subst h; have := ht.wf.1; simp [us] at this
    simp only [nd, ht.wf.1, ht.wf.2.1, Bool.false_eq_true, if_false, if_true, Int.toNat_natCast]
    rw [map_take_getD (fun s => canon (sb (trees to) s)) (u := x) hk]
    unfold sbR
    rw [if_neg (fun h => h3 h.1)]
    unfold rbuild opsOf
    simp only [ht.wf.1, ht.wf.2.1, Bool.false_eq_true, if_false, if_true]
    exact bld_un ht.good.1 ht.wf.1 ht.wf.2.1 (sb_gt hσ x ht.kids_un) (hc _ (parts_self _)) (hc x (List.mem_cons_of_mem _ (parts_self x)))
  | bi op i e g x y =>
    have h3 : op ≠ 3 := fun h => by subst h; have := ht.wf.1; simp [us] at this
    have ex := us_yx _ ht.wf.1
    simp only [nd, ex, ht.wf.1, if_true, Int.toNat_natCast]
    rw [map_take_getD (fun s => canon (sb (trees to) s)) (u := x) hk.1, map_take_getD (fun s => canon (sb (trees to) s)) (u := y) hk.2]
    unfold sbR
    rw [if_neg (fun h => h3 h.1)]
    unfold rbuild opsOf
    simp only [ex, ht.wf.1, if_true]
    exact bld_bi ht.good.1 ht.wf.1 (sb_gt hσ x ht.kids_bi.1) (sb_gt hσ y ht.kids_bi.2) (hc _ (parts_self _)) (hc x (List.mem_cons_of_mem _ (List.mem_append_left _ (parts_self x)))) (hc y (List.mem_cons_of_mem _ (List.mem_append_right _ (parts_self y))))
theorem upL_enc {to : List (List Nd)} (h8 : to.length = 8) (hto : ∀ g ∈ to, Fml g) {ts : List Tr} (hd : Down ts) (hg : ∀ t ∈ ts, GT t) (hc : ∀ t ∈ ts, ∀ u ∈ parts t, cnt (sb (trees to) u) ≤ 200) :
    ∀ (m j : Nat), j + m = ts.length → upL (sbR to) ((enc ts).drop j) ((ts.take j).map fun s => canon (sb (trees to) s)) = some (ts.map fun s => canon (sb (trees to) s)) := by
  intro m
  induction m with
  | zero =>
    intro j hj
    have : j = ts.length := by omega
    subst this
    rw [List.drop_eq_nil_of_le (by simp [enc]), List.take_length]
    rfl
  | succ m ih =>
    intro j hj
    obtain ⟨t, ht⟩ : ∃ t, ts[j]? = some t := ⟨_, List.getElem?_eq_getElem (by omega)⟩
    have hm := List.mem_of_getElem? ht
    have hn : (enc ts)[j]? = some (nd ts t) := by unfold enc; rw [List.getElem?_map, ht]; rfl
    rw [upL_step _ _ j _ _ hn, sbR_nd h8 hto (hg t hm) (hd j t ht) (hc t hm), if_neg]
    · have := ih (j + 1) (by omega)
      rw [List.take_add_one, ht] at this
      simpa using this
    · rw [canon_len]
      have := cnt_pos (sb (trees to) t)
      omega
/-- Subst at a formula computes the canonical list of the substituted tree. -/
theorem subst_canon {f : List Nd} {to : List (List Nd)} (hf : Fml f) (h8 : to.length = 8) (hto : ∀ g ∈ to, Fml g) (hc : cnt (sb (trees to) (tree f)) ≤ 200) : subst f to = (canon (sb (trees to) (tree f)), 0) := by
  have hz : chks to = 0 := by
    clear h8 hc
    induction to with
    | nil => rfl
    | cons a r ih => rw [chks, if_neg (by rw [(hto a (by simp)).chk]; omega)]; exact ih fun g hg => hto g (List.mem_cons_of_mem _ hg)
  have hu := upL_enc h8 hto (Down.ins (tree f) Down.nil) (ins_gt hf.gt) (fun t ht u hu => Nat.le_trans (cnt_sb_part (parts_trans _ _ _ (mem_ins_nil.1 ht) hu)) hc) (ins (tree f) []).length 0 (by simp)
  rw [List.drop_zero, List.take_zero, List.map_nil] at hu
  unfold subst
  rw [if_neg (by rw [hf.chk]; omega), if_neg (by rw [hz]; omega)]
  unfold upw
  rw [if_neg (by rw [hf.chk]; omega), comp_canon hf]
  unfold canon at hu ⊢
  rw [hu]
  obtain ⟨r, e⟩ := ins_last (tree f)
  rw [e]
  simp [canon, enc]
end Go.Proofs.Ytlgbbabijifflaa
