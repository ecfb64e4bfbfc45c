/-
  Plain law: the law RewriteTwice of Subst.
-/
import Derived.Test.YtlgbbabijifflaaTree7
namespace Go.Proofs.Ytlgbbabijifflaa

theorem trees_gt {to : List (List Nd)} (h8 : to.length = 8) (hto : ∀ g ∈ to, Fml g) : ∀ i, i < 8 → GT (trees to i) := fun i hi => by
  unfold trees
  have hg : to[i]? = some to[i] := List.getElem?_eq_getElem (by omega)
  rw [List.getD_eq_getElem?_getD, hg]
  exact (hto _ (List.getElem_mem _)).gt
theorem trees_cnt {to : List (List Nd)} (h8 : to.length = 8) (hto : ∀ g ∈ to, Fml g ∧ g.length ≤ 8) : ∀ i, i < 8 → cnt (trees to i) ≤ 8 := fun i hi => by
  unfold trees
  have hg : to[i]? = some to[i] := List.getElem?_eq_getElem (by omega)
  rw [List.getD_eq_getElem?_getD, hg]
  have := hto _ (List.getElem_mem (l := to) (n := i) (by omega))
  have := this.1.cnt
  simp only [Option.getD_some]
  omega
/-- The formula of fact i. -/
def factF (i : Nat) : List Nd := bld ⟨3, i, 0, 0, 0, 0⟩ []
theorem fact_ok (i : Nat) (hi : i < 8) : Ok4 3 i 0 0 := ⟨0, 0, 0, by simp [nodeErr, us, oprd, outs]; omega⟩
theorem fact_gt (i : Nat) (hi : i < 8) : GT (.lf 3 i 0 0) := ⟨by constructor <;> simp [us], fact_ok i hi⟩
theorem fact_canon (i : Nat) (hi : i < 8) : factF i = canon (.lf 3 i 0 0) := bld_lf (fact_ok i hi) (by simp [us]) (by simp [us])
theorem fact_cnt (i : Nat) : cnt (.lf 3 i 0 0) = 1 := by simp [cnt, ins, addT]
def selfL (n : Nat) : List (List Nd) := (List.range n).map factF
theorem self_len (n : Nat) : (selfL n).length = n := by simp [selfL]
theorem self_at {n i : Nat} (hi : i < n) : (selfL n)[i]? = some (factF i) := by simp [selfL, hi]
theorem self_fml : ∀ g ∈ selfL 8, Fml g := fun g hg => by
  simp only [selfL, List.mem_map, List.mem_range] at hg
  obtain ⟨i, hi, rfl⟩ := hg
  rw [fact_canon i hi]
  exact canon_fml (fact_gt i hi) (by rw [fact_cnt]; omega)
theorem self_trees (i : Nat) (hi : i < 8) : trees (selfL 8) i = .lf 3 i 0 0 := by
  unfold trees
  rw [List.getD_eq_getElem?_getD, self_at hi, Option.getD_some, fact_canon i hi, tree_canon (fact_gt i hi)]
/-- Each fact by itself. -/
theorem twice_self {f : List Nd} (hf : Fml f) : subst f (selfL 8) = (comp f, 0) := by
  have e : sb (trees (selfL 8)) (tree f) = tree f := by
    rw [sb_congr (τ := fun i => .lf 3 i 0 0) (fun i hi => self_trees i hi) _ hf.gt, sb_self _ hf.gt]
  rw [subst_canon hf (self_len 8) self_fml (by rw [e]; have := hf.cnt; have := hf.len; omega), e, comp_canon hf]
/-- The substituted formulas. -/
def joinL (first second : List (List Nd)) : List (List Nd) := first.map fun g => (subst g second).1
theorem twice_join {g : List Nd} {second : List (List Nd)} (hg : Fml g ∧ g.length ≤ 8) (h8 : second.length = 8) (hs : ∀ g ∈ second, Fml g ∧ g.length ≤ 8) :
    subst g second = (canon (sb (trees second) (tree g)), 0) ∧ cnt (sb (trees second) (tree g)) ≤ 72 := by
  have h1 := cnt_sb (σ := trees second) hg.1.gt (trees_cnt h8 hs)
  have h2 := hg.1.cnt
  exact ⟨subst_canon hg.1 h8 (fun g hg => (hs g hg).1) (by omega), by omega⟩
theorem twice_joined {g : List Nd} {second : List (List Nd)} (hg : Fml g ∧ g.length ≤ 8) (h8 : second.length = 8) (hs : ∀ g ∈ second, Fml g ∧ g.length ≤ 8) : (subst g second).2 = 0 ∧ 0 < (subst g second).1.length := by
  rw [(twice_join hg h8 hs).1]
  exact ⟨rfl, by rw [canon_len]; exact cnt_pos _⟩
/-- Two substitutions one after the other. -/
theorem twice_twice {f : List Nd} {first second : List (List Nd)} (hf : Fml f) (hl : f.length ≤ 12) (h1 : first.length = 8) (h2 : second.length = 8) (hs1 : ∀ g ∈ first, Fml g ∧ g.length ≤ 8) (hs2 : ∀ g ∈ second, Fml g ∧ g.length ≤ 8) :
    (subst f first).2 = 0 ∧ subst (subst f first).1 second = subst f (joinL first second) := by
  have hσ1 := trees_gt h1 fun g hg => (hs1 g hg).1
  have hσ2 := trees_gt h2 fun g hg => (hs2 g hg).1
  have c0 := hf.cnt
  have c1 := cnt_sb (σ := trees first) hf.gt (trees_cnt h1 hs1)
  have g1 := sb_gt hσ1 _ hf.gt
  have c2 := cnt_sb (σ := trees second) g1 (trees_cnt h2 hs2)
  have ha := subst_canon hf h1 (fun g hg => (hs1 g hg).1) (by omega)
  rw [ha]
  refine ⟨rfl, ?_⟩
  have hb := subst_canon (canon_fml g1 (by omega)) h2 (fun g hg => (hs2 g hg).1) (by rw [tree_canon g1]; omega)
  rw [tree_canon g1] at hb
  have hj8 : (joinL first second).length = 8 := by simp [joinL, h1]
  have hjt : ∀ i, i < 8 → trees (joinL first second) i = sb (trees second) (trees first i) := fun i hi => by
    obtain ⟨g, hg⟩ : ∃ g, first[i]? = some g := ⟨_, List.getElem?_eq_getElem (by omega)⟩
    have hgm := List.mem_of_getElem? hg
    unfold trees joinL
    rw [List.getD_eq_getElem?_getD, List.getElem?_map, hg]
    simp only [Option.map_some, Option.getD_some]
    rw [(twice_join (hs1 g hgm) h2 hs2).1, tree_canon (sb_gt hσ2 _ (hs1 g hgm).1.gt), List.getD_eq_getElem?_getD, hg]
    rfl
  have hjf : ∀ g ∈ joinL first second, Fml g := fun g hg => by
    simp only [joinL, List.mem_map] at hg
    obtain ⟨k, hk, rfl⟩ := hg
    have := twice_join (hs1 k hk) h2 hs2
    rw [this.1]
    exact canon_fml (sb_gt hσ2 _ (hs1 k hk).1.gt) (by omega)
  have hjs : sb (trees (joinL first second)) (tree f) = sb (trees second) (sb (trees first) (tree f)) := by
    rw [sb_sb, sb_congr hjt _ hf.gt]
  have hc := subst_canon hf hj8 hjf (by rw [hjs]; omega)
  show subst (canon (sb (trees first) (tree f))) second = subst f (joinL first second)
  rw [hb, hc, hjs]
theorem twice_len {f : List Nd} {first second : List (List Nd)} (hf : Fml f) (hl : f.length ≤ 12) (h1 : first.length = 8) (h2 : second.length = 8) (hs1 : ∀ g ∈ first, Fml g ∧ g.length ≤ 8) (hs2 : ∀ g ∈ second, Fml g ∧ g.length ≤ 8) :
    (subst (subst f first).1 second).1.length ≤ 1000 := by
  have hσ1 := trees_gt h1 fun g hg => (hs1 g hg).1
  have c0 := hf.cnt
  have c1 := cnt_sb (σ := trees first) hf.gt (trees_cnt h1 hs1)
  have g1 := sb_gt hσ1 _ hf.gt
  have c2 := cnt_sb (σ := trees second) g1 (trees_cnt h2 hs2)
  have ha := subst_canon hf h1 (fun g hg => (hs1 g hg).1) (by omega)
  have hb := subst_canon (canon_fml g1 (by omega)) h2 (fun g hg => (hs2 g hg).1) (by rw [tree_canon g1]; omega)
  rw [tree_canon g1] at hb
  rw [ha]
  show (subst (canon (sb (trees first) (tree f))) second).1.length ≤ 1000
  rw [hb]
  show (canon _).length ≤ 1000
  rw [canon_len]; omega
end Go.Proofs.Ytlgbbabijifflaa
