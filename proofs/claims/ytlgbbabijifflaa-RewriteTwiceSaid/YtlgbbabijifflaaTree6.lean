/-
  Plain law: build at canonical lists computes the canonical list of the node's tree.
-/
import Derived.Test.YtlgbbabijifflaaTree5
import Derived.Test.YtlgbbabijifflaaRBuild
namespace Go.Proofs.Ytlgbbabijifflaa

/-- More nodes behind change no tree. -/
theorem T_app {f r : List Nd} (hf : Ordered f) (ho : Ordered (f ++ r)) : ∀ k, k < f.length → T (f ++ r) k = T f k := by
  intro k
  induction k using Nat.strongRecOn with
  | ind k ih =>
    intro hk
    obtain ⟨n, hn⟩ : ∃ n, f[k]? = some n := ⟨_, List.getElem?_eq_getElem hk⟩
    have hn' : (f ++ r)[k]? = some n := by rw [List.getElem?_append_left hk]; exact hn
    obtain ⟨hx, hy⟩ := hf k n hn
    rw [T_eq ho hn', T_eq hf hn]
    cases ey : (us n.op).y with
    | true =>
      have h1 := hx (us_yx _ ey)
      have h2 := hy ey
      simp only [if_true]
      rw [ih _ (by omega) (by omega), ih _ (by omega) (by omega)]
    | false =>
      simp only [Bool.false_eq_true, if_false]
      cases ex : (us n.op).x with
      | true =>
        have h1 := hx ex
        simp only [if_true]
        rw [ih _ (by omega) (by omega)]
      | false => simp
/-- Nodes that are moved behind others keep their trees. -/
theorem T_shift {f g : List Nd} (hg : Ordered g) (ho : Ordered (f ++ g.map (shift f.length))) : ∀ k, k < g.length → T (f ++ g.map (shift f.length)) (f.length + k) = T g k := by
  intro k
  induction k using Nat.strongRecOn with
  | ind k ih =>
    intro hk
    obtain ⟨n, hn⟩ : ∃ n, g[k]? = some n := ⟨_, List.getElem?_eq_getElem hk⟩
    have hn' : (f ++ g.map (shift f.length))[f.length + k]? = some (shift f.length n) := by
      rw [List.getElem?_append_right (by omega), List.getElem?_map, Nat.add_sub_cancel_left, hn]; rfl
    obtain ⟨hx, hy⟩ := hg k n hn
    rw [T_eq ho hn', T_eq hg hn]
    simp only [shift]
    rcases Bool.eq_false_or_eq_true (us n.op).y with ey | ey
    · have h1 := hx (us_yx _ ey)
      have h2 := hy ey
      simp only [us_yx _ ey, ey, if_true]
      have e1 : (n.x + (f.length : Int)).toNat = f.length + n.x.toNat := by omega
      have e2 : (n.y + (f.length : Int)).toNat = f.length + n.y.toNat := by omega
      rw [e1, e2, ih _ (by omega) (by omega), ih _ (by omega) (by omega)]
    · simp only [ey, Bool.false_eq_true, if_false]
      rcases Bool.eq_false_or_eq_true (us n.op).x with ex | ex
      · have h1 := hx ex
        simp only [ex, if_true]
        have e1 : (n.x + (f.length : Int)).toNat = f.length + n.x.toNat := by omega
        rw [e1, ih _ (by omega) (by omega)]
      · simp only [ex, Bool.false_eq_true, if_false]
theorem shift_zero (n : Nd) : shift 0 n = n := by
  cases n; simp [shift]
/-- A right list and one more right node. -/
theorem T_last {f : List Nd} (hf : ∀ (k : Nat) (n : Nd), f[k]? = some n → nodeErr n k = 0) {x : Nd} (hx : nodeErr x f.length = 0) :
    cmpt (f ++ [x]) f.length = canon (if (us x.op).y then .bi x.op x.i x.e x.g (T f x.x.toNat) (T f x.y.toNat) else if (us x.op).x then .un x.op x.i x.e x.g (T f x.x.toNat) else .lf x.op x.i x.e x.g) := by
  have hs : ∀ (k : Nat) (n : Nd), (f ++ [x])[k]? = some n → nodeErr n k = 0 := fun k n hk => by
    rcases Nat.lt_or_ge k f.length with hl | hl
    · rw [List.getElem?_append_left hl] at hk; exact hf k n hk
    · rw [List.getElem?_append_right hl] at hk
      have : k = f.length := by
        have := (List.getElem?_eq_some_iff.1 hk).1
        simp at this; omega
      subst this
      simp at hk
      subst hk
      exact hx
  have ho := ordered_of hs
  have hof := ordered_of hf
  have hn : (f ++ [x])[f.length]? = some x := by simp
  rw [(cmpt_canon hs ho (k := f.length) (by simp)).1, T_eq ho hn]
  obtain ⟨_, ox, oy, _⟩ := nodeErr_zero hx
  cases ey : (us x.op).y with
  | true =>
    rw [us_yx _ ey] at ox
    rw [ey] at oy
    simp [oprd] at ox oy
    simp only [if_true]
    rw [T_app hof ho _ (by omega), T_app hof ho _ (by omega)]
  | false =>
    simp only [Bool.false_eq_true, if_false]
    cases ex : (us x.op).x with
    | true =>
      rw [ex] at ox
      simp [oprd] at ox
      simp only [if_true]
      rw [T_app hof ho _ (by omega)]
    | false => rfl
theorem comp_self {t : Tr} (h : GT t) (hc : cnt t ≤ 200) : comp (canon t) = canon t := by
  rw [comp_canon (canon_fml h hc), tree_canon h]
/-- build, no operand. -/
theorem bld_lf {op i e g : Int} (h4 : Ok4 op i e g) (ex : (us op).x = false) (ey : (us op).y = false) : bld ⟨op, i, e, g, 0, 0⟩ [] = canon (.lf op i e g) := by
  have hx : nodeErr ⟨op, i, e, g, 0, 0⟩ (([] : List Nd).length : Nat) = 0 := Ok4.at_ h4 (fun h => by rw [ex] at h; cases h) (fun _ => rfl) (fun h => by rw [ey] at h; cases h) (fun _ => rfl)
  have hc := T_last (f := []) (fun k n h => by simp at h) (x := ⟨op, i, e, g, 0, 0⟩) hx
  simp only [ex, ey, Bool.false_eq_true, if_false] at hc
  unfold bld
  simp only [bldF]
  rw [if_pos hx, hc, if_pos]
  rw [canon_len]; simp [cnt, ins, addT]
/-- build, one operand. -/
theorem bld_un {op i e g : Int} {a : Tr} (h4 : Ok4 op i e g) (ex : (us op).x = true) (ey : (us op).y = false) (ha : GT a) (hc : cnt (.un op i e g a) ≤ 200) (hca : cnt a ≤ 200) : bld ⟨op, i, e, g, 0, 0⟩ [canon a] = canon (.un op i e g a) := by
  have hpos := cnt_pos a
  have hx : nodeErr ⟨op, i, e, g, (((canon a).length : Nat) : Int) - 1, 0⟩ (canon a).length = 0 := Ok4.at_ h4 (fun _ => by rw [canon_len]; omega) (fun h => by rw [ex] at h; cases h) (fun h => by rw [ey] at h; cases h) (fun _ => rfl)
  have hcm := T_last (canon_node ha) hx
  have e1 : (((canon a).length : Int) - 1).toNat = cnt a - 1 := by rw [canon_len]; omega
  simp only [ex, ey, Bool.false_eq_true, if_false, if_true, e1, canon_T ha] at hcm
  have hm : (canon a).map (shift 0) = canon a := by
    rw [List.map_congr_left (g := id) fun n _ => shift_zero n, List.map_id]
  unfold bld
  simp only [bldF, (canon_fml ha hca).chk, comp_self ha hca, if_true, List.nil_append, List.length_nil, hm]
  rw [if_pos hx, hcm, if_pos (by rw [canon_len]; exact hc)]
/-- build, two operands. -/
theorem bld_bi {op i e g : Int} {a b : Tr} (h4 : Ok4 op i e g) (ey : (us op).y = true) (ha : GT a) (hb : GT b) (hc : cnt (.bi op i e g a b) ≤ 200) (hca : cnt a ≤ 200) (hcb : cnt b ≤ 200) : bld ⟨op, i, e, g, 0, 0⟩ [canon a, canon b] = canon (.bi op i e g a b) := by
  have hpa := cnt_pos a
  have hpb := cnt_pos b
  have ex := us_yx _ ey
  have hm : (canon a).map (shift 0) = canon a := by
    rw [List.map_congr_left (g := id) fun n _ => shift_zero n, List.map_id]
  have hlen : (canon a ++ (canon b).map (shift (canon a).length)).length = cnt a + cnt b := by simp [canon_len]
  have hof := ordered_of (canon_node ha)
  have hog := ordered_of (canon_node hb)
  have hoo := hof.append hog
  have hf : ∀ (k : Nat) (n : Nd), (canon a ++ (canon b).map (shift (canon a).length))[k]? = some n → nodeErr n k = 0 := fun k n hk => by
    rcases Nat.lt_or_ge k (canon a).length with hl | hl
    · rw [List.getElem?_append_left hl] at hk; exact canon_node ha k n hk
    · rw [List.getElem?_append_right hl, List.getElem?_map, Option.map_eq_some_iff] at hk
      obtain ⟨m, hm, rfl⟩ := hk
      have h0 := canon_node hb _ m hm
      obtain ⟨hx, hy⟩ := hog _ m hm
      refine nodeErr_with h0 (fun ex => ?_) (fun ex => ?_) (fun ey => ?_) (fun ey => ?_)
      · have := hx ex; simp only [ex, if_true]; omega
      · simp [ex]
      · have := hy ey; simp only [ey, if_true]; omega
      · simp [ey]
  have hx : nodeErr ⟨op, i, e, g, (((canon a).length : Nat) : Int) - 1, (((canon a ++ (canon b).map (shift (canon a).length)).length : Nat) : Int) - 1⟩ ((canon a ++ (canon b).map (shift (canon a).length)).length : Nat) = 0 :=
    Ok4.at_ h4 (fun _ => by rw [hlen, canon_len]; omega) (fun h => by rw [ex] at h; cases h) (fun _ => by rw [hlen]; omega) (fun h => by rw [ey] at h; cases h)
  have hcm := T_last hf hx
  have e1 : (((canon a).length : Int) - 1).toNat = cnt a - 1 := by rw [canon_len]; omega
  have e2 : (((canon a ++ (canon b).map (shift (canon a).length)).length : Int) - 1).toNat = (canon a).length + (cnt b - 1) := by rw [hlen, canon_len]; omega
  have t1 : T (canon a ++ (canon b).map (shift (canon a).length)) (cnt a - 1) = a := by rw [T_app hof hoo _ (by rw [canon_len]; omega), canon_T ha]
  have t2 : T (canon a ++ (canon b).map (shift (canon a).length)) ((canon a).length + (cnt b - 1)) = b := by rw [T_shift hog hoo _ (by rw [canon_len]; omega), canon_T hb]
  simp only [ey, if_true, e1, e2, t1, t2] at hcm
  unfold bld
  simp only [bldF, (canon_fml ha hca).chk, comp_self ha hca, (canon_fml hb hcb).chk, comp_self hb hcb, if_true, List.nil_append, List.length_nil, hm, Nat.zero_add, Nat.one_ne_zero, if_false]
  rw [if_pos hx, hcm, if_pos (by rw [canon_len]; exact hc)]
end Go.Proofs.Ytlgbbabijifflaa
