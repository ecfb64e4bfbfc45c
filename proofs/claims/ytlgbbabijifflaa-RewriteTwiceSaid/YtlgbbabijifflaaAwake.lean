/-
  awake of the chapter's statements: it returns true.
-/
import Derived.Test.YtlgbbabijifflaaNnf3
import Derived.Deep.DrawnRows
namespace Go.Proofs.Ytlgbbabijifflaa
open Go.RowKit
attribute [local go_sem ↓] Go.wp_at_zero Go.wp_at_succ

theorem NS.block {w : World} {b : Nat} {xs : List Nd} {t : TypeId} (h : w.heap[b]? = some (.cells (xs.flatMap Nd.cs).toArray t)) : NS w (some ⟨b, 0, none⟩) xs := by
  intro _
  refine ⟨b, 0, rfl, fun k cs hk j v hv => ?_⟩
  obtain ⟨n, hn, rfl⟩ : ∃ n, xs[k]? = some n ∧ Nd.cs n = cs := by
    rw [List.getElem?_map] at hk
    obtain ⟨n, h1, h2⟩ := Option.map_eq_some_iff.1 hk
    exact ⟨n, h1, h2⟩
  have hj : j < 6 := by have := (List.getElem?_eq_some_iff.1 hv).1; simpa [Nd.cs] using this
  have hf := flat_get 6 (xs.map Nd.cs) (fun cs hc => by obtain ⟨n, _, rfl⟩ := List.mem_map.1 hc; rfl) k j hj
  rw [List.getElem?_map, hn] at hf
  have hf2 : (xs.flatMap Nd.cs)[k * 6 + j]? = some v := by rw [List.flatMap]; exact hf.trans hv
  have hlt := (List.getElem?_eq_some_iff.1 hf2).1
  simp [World.cell?, h, hf2]
def fB : List Nd := [⟨3, 0, 0, 0, 0, 0⟩, ⟨3, 1, 0, 0, 0, 0⟩, ⟨5, 0, 0, 0, 0, 1⟩]
def fC : List Nd := [⟨3, 1, 0, 0, 0, 0⟩, ⟨3, 0, 0, 0, 0, 0⟩, ⟨5, 0, 0, 0, 0, 1⟩]
def l1 : List Nd := [⟨3, 1, 0, 0, 0, 0⟩]
theorem substB : subst fB [l1, l0] = (fC, 0) := by decide
set_option maxRecDepth 100000 in
theorem example_any (w : World) : Calls Try.prog 20 #[] w (RetF w fX) := by
  go_enter Try.func20, Try.ntmps20
  go_wp2
  go_ret
  exact ⟨some ⟨w.heap.size, 0, none⟩, 5, rfl, by decide, NS.block (t := 55) (heap_alloc_new w _), fun ad e => by injection e with e; subst e; exact Nat.le_refl _, (Below.refl _ _).alloc (Nat.le_refl _) _⟩
theorem NSS.block2 {w : World} {b : Nat} {A A' : Option Addr} {c c' : Nat} {xs ys : List Nd} {t : TypeId} (hb : w.heap[b]? = some (.cells #[.slice A xs.length c, .slice A' ys.length c'] t)) (h : NS w A xs) (hc : xs.length ≤ c) (h' : NS w A' ys) (hc' : ys.length ≤ c') :
    NSS w (some ⟨b, 0, none⟩) [xs, ys] := by
  refine ⟨[(A, c), (A', c')], rfl, fun _ => ⟨_, _, rfl, fun k cs hk j v hv => ?_⟩, fun k a d zs h1 h2 => ?_⟩
  · match k, hk with
    | 0, hk =>
      simp at hk
      subst hk
      cases j with
      | zero => simp at hv; subst hv; simp [World.cell?, hb]
      | succ j => simp at hv
    | 1, hk =>
      simp at hk
      subst hk
      cases j with
      | zero => simp at hv; subst hv; simp [World.cell?, hb]
      | succ j => simp at hv
    | k + 2, hk => simp at hk
  · match k, h1, h2 with
    | 0, h1, h2 => simp at h1 h2; obtain ⟨rfl, rfl⟩ := h1; subst h2; exact ⟨h, hc⟩
    | 1, h1, h2 => simp at h1 h2; obtain ⟨rfl, rfl⟩ := h1; subst h2; exact ⟨h', hc'⟩
    | k + 2, h1, h2 => simp at h1
theorem subst_B (w3 W : World) (h1 : W.heap[w3.heap.size]? = some (.cells (fB.flatMap Nd.cs).toArray 55)) (h2 : W.heap[w3.heap.size + 1]? = some (.cells (l1.flatMap Nd.cs).toArray 55)) (h3 : W.heap[w3.heap.size + 1 + 1]? = some (.cells (l0.flatMap Nd.cs).toArray 55))
    (h4 : W.heap[w3.heap.size + 1 + 1 + 1]? = some (.cells #[.slice (some ⟨w3.heap.size + 1, 0, none⟩) 1 1, .slice (some ⟨w3.heap.size + 1 + 1, 0, none⟩) 1 1] 22)) :
    Calls Try.prog 9 #[.slice (some ⟨w3.heap.size, 0, none⟩) 3 3, .slice (some ⟨w3.heap.size + 1 + 1 + 1, 0, none⟩) 2 2] W (RetE W (fC, 0)) := by
  have := subst_any (some ⟨w3.heap.size, 0, none⟩) 3 fB (some ⟨w3.heap.size + 1 + 1 + 1, 0, none⟩) 2 [l1, l0] W (NS.block h1) (NSS.block2 (xs := l1) (ys := l0) h4 (NS.block h2) (by decide) (NS.block h3) (by decide)) (by simp)
  rwa [substB] at this
theorem r_equal_true (A B : Option Addr) (xs : List Nd) (c d : Nat) (w : World) (hx : NS w A xs) (hy : NS w B xs) (hl : xs.length ≤ 1000000) :
    Calls Try.prog 10 #[.slice A xs.length c, .slice B xs.length d] w fun e' w' => e' = .returned (.bool true) ∧ Below w.heap.size w w' := by
  have := r_equal_any A B xs xs c d w hx hy hl
  rwa [show decide (xs = xs) = true from by simp] at this
theorem and_C (A B : Option Addr) (c d : Nat) (w : World) (h : NS w A l1) (hg : NS w B l0) : Calls Try.prog 24 #[.slice A 1 c, .slice B 1 d] w (RetF w fC) := by
  have := r_and_any A B c d l1 l0 w h hg (by decide) (by decide) (by decide)
  rwa [show shortL ((l1 ++ l0.map (shift l1.length)) ++ [⟨5, 0, 0, 0, (l1.length : Int) - 1, (l1.length : Int) + l0.length - 1⟩]) = fC from by decide] at this
theorem not_N (A : Option Addr) (c : Nat) (w : World) (h : NS w A l0) : Calls Try.prog 27 #[.slice A 1 c] w (RetF w fN) := by
  have := r_not_any A c l0 w h (by decide) (by decide)
  rwa [show shortL (l0 ++ [⟨4, 0, 0, 0, (l0.length : Int) - 1, 0⟩]) = fN from by decide] at this
set_option maxRecDepth 100000 in
set_option maxHeartbeats 16000000 in
theorem awake_any (w : World) : Calls Try.prog 7 #[] w fun e w' => e = .returned (.bool true) ∧ Below w.heap.size w w' := by
  go_enter Try.func7, Try.ntmps7
  go_wp2_with fail
  refine (example_any w).mono ?_
  rintro e w1 ⟨A1, c1, rfl, hc1, hns1, hfr1, hb1⟩
  have H1 := Lib.hid (nnf_X A1 c1 w1 hns1)
  have HB1 := Lib.hid hb1
  clear hns1 hfr1 hb1
  go_wp2_with fail
  refine H1.out.mono ?_
  rintro e w2 ⟨Aa, ca, rfl, hca, hnsa, _, hb2⟩
  have HB2 := Lib.hid (HB1.out.trans (hb2.mono HB1.out.size))
  have HNa := Lib.hid hnsa
  clear hnsa hb2 H1 HB1
  go_wp2_with fail
  have hbS : ∀ U, Below w2.heap.size w2 (w2.alloc U) := fun U => (Below.refl _ _).alloc (Nat.le_refl _) _
  refine (simplify_any _ _ _ (NS.block (xs := fS) (t := 55) (heap_alloc_new w2 _))).mono ?_
  rintro e w3 ⟨Ab, cb, rfl, hcb, hnsb, _, hb3⟩
  have hb23 : Below w2.heap.size w2 w3 := (hbS _).trans (hb3.mono (by simp))
  have HB3 := Lib.hid (HB2.out.trans (hb23.mono HB2.out.size))
  have HNb := Lib.hid hnsb
  have HNa3 := Lib.hid (HNa.out.below hb23)
  clear hnsb hb3 hb23 hbS HNa HB2
  go_wp2_with fail
  refine (subst_B w3 _ ?_ ?_ ?_ ?_).mono ?_
  · exact heap_old _ _ _ (heap_old _ _ _ (heap_old _ _ _ (heap_alloc_new w3 _) (by first | (simp; done) | (simp; omega))) (by first | (simp; done) | (simp; omega))) (by first | (simp; done) | (simp; omega))
  · exact heap_old _ _ _ (heap_old _ _ _ (heap_new _ _ _ (by simp)) (by first | (simp; done) | (simp; omega))) (by first | (simp; done) | (simp; omega))
  · exact heap_old _ _ _ (heap_new _ _ _ (by simp)) (by first | (simp; done) | (simp; omega))
  · exact heap_new _ _ _ (by simp)
  rintro e w4 ⟨Ac, cc, rfl, hcc, hnsc, _, hb4⟩
  have hb34 : Below w3.heap.size w3 w4 := (((((Below.refl _ w3).alloc (Nat.le_refl _) _).alloc (by first | (simp; done) | (simp; omega)) _).alloc (by first | (simp; done) | (simp; omega)) _).alloc (by first | (simp; done) | (simp; omega)) _).trans (hb4.mono (by first | (simp; done) | (simp; omega)))
  have HB4 := Lib.hid (HB3.out.trans (hb34.mono HB3.out.size))
  have HNc := Lib.hid hnsc
  have HNb4 := Lib.hid (HNb.out.below hb34)
  have HNa4 := Lib.hid (HNa3.out.below hb34)
  clear hnsc hb4 hb34 HNb HNa3 HB3
  go_wp2_with fail
  refine (closure_N _ _ _ (NS.block (xs := fN) (t := 55) (heap_alloc_new w4 _))).mono ?_
  rintro e w5 ⟨vl, hl, rfl, hdl, hb5⟩
  have hb45 : Below w4.heap.size w4 w5 := ((Below.refl _ w4).alloc (Nat.le_refl _) _).trans (hb5.mono (by simp))
  have HB5 := Lib.hid (HB4.out.trans (hb45.mono HB4.out.size))
  have HNc5 := Lib.hid (HNc.out.below hb45)
  have HNb5 := Lib.hid (HNb4.out.below hb45)
  have HNa5 := Lib.hid (HNa4.out.below hb45)
  obtain ⟨Tl, cl, rfl, hcl, hns⟩ := hdl.nss
  have HNl := Lib.hid hns
  clear hb5 hb45 HNc HNb4 HNa4 HB4 hdl hns
  go_wp2_with fail
  refine (negate_N _ _ _ (NS.block (xs := fN) (t := 55) (heap_alloc_new w5 _))).mono ?_
  rintro e w6 ⟨An, cn, rfl, hcn, hnsn, _, hb6⟩
  have hb56 : Below w5.heap.size w5 w6 := ((Below.refl _ w5).alloc (Nat.le_refl _) _).trans (hb6.mono (by simp))
  have HB6 := Lib.hid (HB5.out.trans (hb56.mono HB5.out.size))
  have HNc6 := Lib.hid (HNc5.out.below hb56)
  have HNb6 := Lib.hid (HNb5.out.below hb56)
  have HNa6 := Lib.hid (HNa5.out.below hb56)
  have HNl6 := Lib.hid (HNl.out.below hb56)
  have HNn6 := Lib.hid hnsn
  clear hb6 hb56 HNc5 HNb5 HNa5 HB5 HNl hnsn
  go_wp2_with fail
  refine (r_fact_any 0 (by decide) _).mono ?_
  rintro e w7 ⟨Af, cf, rfl, hcf, hnsf, _, hb7⟩
  have HNf := Lib.hid hnsf
  have HB7 := Lib.hid hb7
  clear hnsf hb7
  go_wp2_with fail
  refine (r_fact_any 1 (by decide) _).mono ?_
  rintro e w8 ⟨Ag, cg, rfl, hcg, hnsg, _, hb8⟩
  have HNg := Lib.hid hnsg
  have HB8 := Lib.hid (HB7.out.trans (hb8.mono HB7.out.size))
  have HNf8 := Lib.hid (HNf.out.below hb8)
  have hnot := r_not_any Ag cg l1 w8 hnsg (by decide) (by decide)
  rw [show shortL (l1 ++ [⟨4, 0, 0, 0, (l1.length : Int) - 1, 0⟩]) = nF from by decide] at hnot
  have HNOT := Lib.hid hnot
  clear hnsg hb8 hnot HNf
  go_wp2_with fail
  refine HNOT.out.mono ?_
  rintro e w9 ⟨Ah, ch, rfl, hch, hnsh, _, hb9⟩
  have HB9 := Lib.hid (HB8.out.trans (hb9.mono HB8.out.size))
  have HNf9 := Lib.hid (HNf8.out.below hb9)
  have hpos := r_poss_any 1 Ah ch nF w9 hnsh (by decide) (by decide)
  rw [show shortL (nF ++ [⟨10, 1, 0, 0, (nF.length : Int) - 1, 0⟩]) = nK from by decide] at hpos
  have HPOS := Lib.hid hpos
  clear hnsh hb9 hpos HNf8 HNOT
  go_wp2_with fail
  refine HPOS.out.mono ?_
  rintro e wa ⟨Ai, ci, rfl, hci, hnsi, _, hba⟩
  have HBa := Lib.hid (HB9.out.trans (hba.mono HB9.out.size))
  have hand := r_and_any Af Ai cf ci l0 nK wa (HNf9.out.below hba) hnsi (by decide) (by decide) (by decide)
  rw [show shortL ((l0 ++ nK.map (shift l0.length)) ++ [⟨5, 0, 0, 0, (l0.length : Int) - 1, (l0.length : Int) + nK.length - 1⟩]) = nI from by decide] at hand
  have HAND := Lib.hid hand
  clear hnsi hba hand HNf9 HPOS
  go_wp2_with fail
  refine HAND.out.mono ?_
  rintro e wb ⟨Aw, cw, rfl, hcw, hnsw, _, hbb⟩
  have hb6b : Below w6.heap.size w6 wb := HBa.out.trans (hbb.mono HBa.out.size)
  have HBb := Lib.hid (HB6.out.trans (hb6b.mono HB6.out.size))
  have HNa := Lib.hid (HNa6.out.below hb6b)
  have HNb := Lib.hid (HNb6.out.below hb6b)
  have HNc := Lib.hid (HNc6.out.below hb6b)
  have HNl := Lib.hid (HNl6.out.below hb6b)
  have HNn := Lib.hid (HNn6.out.below hb6b)
  have HNw := Lib.hid hnsw
  clear hb6b hbb hnsw HNa6 HNb6 HNc6 HNl6 HNn6 HB6 HB7 HB8 HB9 HBa HAND
  go_wp2_with fail
  obtain ⟨gl, ol, rfl⟩ := HNl.out.addr (by decide)
  obtain ⟨a0, e0, hl0, hn0, he0⟩ := HNl.out.at_ (k := 0) (xs := l0) rfl
  obtain ⟨a1, e1, hl1, hn1, he1⟩ := HNl.out.at_ (k := 1) (xs := fN) rfl
  rw [Nat.add_zero] at hl0
  have HC0 := Lib.hid hl0
  have HC1 := Lib.hid hl1
  have HN0 := Lib.hid hn0
  have HN1 := Lib.hid hn1
  have B0 : Below wb.heap.size wb wb.drew := (Below.refl _ _).drew
  clear hn0 hn1
  go_region_held_law (fun w' => Below wb.heap.size wb w' ∧ w'.cell? ⟨gl, ol, none⟩ = some (.slice a0 l0.length e0) ∧ w'.cell? ⟨gl, ol + 1, none⟩ = some (.slice a1 fN.length e1))
    (first
      | (go_split_ands; exact ⟨B14, cell_below B14 HC0.out, cell_below B14 HC1.out⟩)
      | (go_split_ands; exact ⟨B13, cell_below B13 HC0.out, cell_below B13 HC1.out⟩)
      | (go_split_ands; exact ⟨B12, cell_below B12 HC0.out, cell_below B12 HC1.out⟩)
      | (go_split_ands; exact ⟨B11, cell_below B11 HC0.out, cell_below B11 HC1.out⟩)
      | (go_split_ands; exact ⟨B10, cell_below B10 HC0.out, cell_below B10 HC1.out⟩)
      | (go_split_ands; exact ⟨B9, cell_below B9 HC0.out, cell_below B9 HC1.out⟩)
      | (go_split_ands; exact ⟨B8, cell_below B8 HC0.out, cell_below B8 HC1.out⟩)
      | (go_split_ands; exact ⟨B7, cell_below B7 HC0.out, cell_below B7 HC1.out⟩)
      | (go_split_ands; exact ⟨B6, cell_below B6 HC0.out, cell_below B6 HC1.out⟩)
      | (go_split_ands; exact ⟨B5, cell_below B5 HC0.out, cell_below B5 HC1.out⟩)
      | (go_split_ands; exact ⟨B4, cell_below B4 HC0.out, cell_below B4 HC1.out⟩)
      | (go_split_ands; exact ⟨B3, cell_below B3 HC0.out, cell_below B3 HC1.out⟩)
      | (go_split_ands; exact ⟨B2, cell_below B2 HC0.out, cell_below B2 HC1.out⟩)
      | (go_split_ands; exact ⟨B1, cell_below B1 HC0.out, cell_below B1 HC1.out⟩)
      | (go_split_ands; exact ⟨B0, cell_below B0 HC0.out, cell_below B0 HC1.out⟩)
      | go_keep)
    ((first
      | (have hprev := B13; go_simp; go_at_call 10; refine (r_equal_true An A13 l0 cn c13 v13 (HNn.out.below hprev) hn13 (by decide)).mono ?_; rintro e v14 ⟨rfl, hb14⟩; have B14 : Below wb.heap.size wb v14 := hprev.trans (hb14.mono hprev.size); clear hprev)
      | (have hprev := B12; go_simp; go_at_call 25; refine (r_fact_any 0 (by decide) v12).mono ?_; rintro e v13 ⟨A13, c13, rfl, hc13, hn13, _, hb13⟩; have B13 : Below wb.heap.size wb v13 := hprev.trans (hb13.mono hprev.size); clear hprev)
      | (have hprev := B11; go_simp; go_at_call 10; refine (r_equal_true a1 A11 fN e1 c11 v11 (HN1.out.below hprev) hn11 (by decide)).mono ?_; rintro e v12 ⟨rfl, hb12⟩; have B12 : Below wb.heap.size wb v12 := hprev.trans (hb12.mono hprev.size); clear hprev)
      | (have hprev := B10; go_simp; go_at_call 27; refine (not_N A10 c10 v10 hn10).mono ?_; rintro e v11 ⟨A11, c11, rfl, hc11, hn11, _, hb11⟩; have B11 : Below wb.heap.size wb v11 := hprev.trans (hb11.mono hprev.size); clear hprev)
      | (have hprev := B9; go_simp; go_at_call 25; refine (r_fact_any 0 (by decide) v9).mono ?_; rintro e v10 ⟨A10, c10, rfl, hc10, hn10, _, hb10⟩; have B10 : Below wb.heap.size wb v10 := hprev.trans (hb10.mono hprev.size); clear hprev)
      | (have hprev := B8; go_simp; go_at_call 10; refine (r_equal_true a0 A8 l0 e0 c8 v8 (HN0.out.below hprev) hn8 (by decide)).mono ?_; rintro e v9 ⟨rfl, hb9⟩; have B9 : Below wb.heap.size wb v9 := hprev.trans (hb9.mono hprev.size); clear hprev)
      | (have hprev := B7; go_simp; go_at_call 25; refine (r_fact_any 0 (by decide) v7).mono ?_; rintro e v8 ⟨A8, c8, rfl, hc8, hn8, _, hb8⟩; have B8 : Below wb.heap.size wb v8 := hprev.trans (hb8.mono hprev.size); clear hprev)
      | (have hprev := B6; go_simp; go_at_call 10; refine (r_equal_true Ac A6 fC cc c6 v6 (HNc.out.below hprev) hn6 (by decide)).mono ?_; rintro e v7 ⟨rfl, hb7⟩; have B7 : Below wb.heap.size wb v7 := hprev.trans (hb7.mono hprev.size); clear hprev)
      | (have hprev := B5; go_simp; go_at_call 24; refine (and_C A4 A5 c4 c5 v5 (hn4.below hb5) hn5).mono ?_; rintro e v6 ⟨A6, c6, rfl, hc6, hn6, _, hb6⟩; have B6 : Below wb.heap.size wb v6 := hprev.trans (hb6.mono hprev.size); clear hprev)
      | (have hprev := B4; go_simp; go_at_call 25; refine (r_fact_any 0 (by decide) v4).mono ?_; rintro e v5 ⟨A5, c5, rfl, hc5, hn5, _, hb5⟩; have B5 : Below wb.heap.size wb v5 := hprev.trans (hb5.mono hprev.size); clear hprev)
      | (have hprev := B3; go_simp; go_at_call 25; refine (r_fact_any 1 (by decide) v3).mono ?_; rintro e v4 ⟨A4, c4, rfl, hc4, hn4, _, hb4⟩; have B4 : Below wb.heap.size wb v4 := hprev.trans (hb4.mono hprev.size); clear hprev)
      | (have hprev := B2; go_simp; go_at_call 10; refine (r_equal_true Ab A2 [⟨1, 0, 0, 0, 0, 0⟩] cb c2 v2 (HNb.out.below hprev) hn2 (by decide)).mono ?_; rintro e v3 ⟨rfl, hb3⟩; have B3 : Below wb.heap.size wb v3 := hprev.trans (hb3.mono hprev.size); clear hprev)
      | (have hprev := B1; go_simp; go_at_call 28; refine (r_true_any v1).mono ?_; rintro e v2 ⟨A2, c2, rfl, hc2, hn2, _, hb2⟩; have B2 : Below wb.heap.size wb v2 := hprev.trans (hb2.mono hprev.size); clear hprev)
      | (have hprev := B0; go_simp; go_at_call 10; refine (r_equal_true Aa Aw nI ca cw wb.drew (HNa.out.below hprev) (HNw.out.below hprev) (by decide)).mono ?_; rintro e v1 ⟨rfl, hb1⟩; have B1 : Below wb.heap.size wb v1 := hprev.trans (hb1.mono hprev.size); clear hprev)))
  go_wp2
  go_ret
  exact ⟨rfl, HBb.out.trans (B14.mono HBb.out.size)⟩
end Go.Proofs.Ytlgbbabijifflaa
