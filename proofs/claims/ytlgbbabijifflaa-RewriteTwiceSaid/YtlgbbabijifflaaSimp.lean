/-
  rewrite.Simplify at awake's formula; slices.Equal.
-/
import Derived.Test.YtlgbbabijifflaaRAwk
import Derived.Test.YtlgbbabijifflaaSubst
namespace Go.Proofs.Ytlgbbabijifflaa
open Go.RowKit

set_option maxRecDepth 100000 in
set_option maxHeartbeats 2000000 in
theorem s_equal_any (A B : Option Addr) (xs ys : List Nd) (c d : Nat) (w : World) (hx : NS w A xs) (hy : NS w B ys) (hl : xs.length ≤ 1000000) :
    Calls Try.prog 51 #[.slice A xs.length c, .slice B ys.length d] w fun e' w' => e' = .returned (.bool (decide (xs = ys))) ∧ Below w.heap.size w w' := by
  by_cases h0 : xs.length = ys.length
  · have e0 : ((xs.length : Int) != ys.length) = false := by simp [h0]
    have HX := Lib.hid hx
    have HY := Lib.hid hy
    have H0 := Lib.hid h0
    rw [← h0]
    rw [← h0] at e0
    clear hx hy h0
    go_enter Try.func51, Try.ntmps51
    go_wp2
    go_loopw [13] (fun k wr => ∃ n : Nat, n ≤ xs.length ∧ k = .int .i64 n ∧ Below w.heap.size w wr ∧ Hid (xs.take n = ys.take n)) (fun k _ => xs.length - (intOf k).toNat)
    case atStart => exact ⟨0, Nat.zero_le _, rfl, Below.refl _ _, rfl⟩
    case round =>
      obtain ⟨k, hk, rfl, hB, HE⟩ := hrel
      by_cases hlt : k < xs.length
      · obtain ⟨n, hn⟩ : ∃ n, xs[k]? = some n := ⟨_, List.getElem?_eq_getElem hlt⟩
        obtain ⟨m, hm⟩ : ∃ n, ys[k]? = some n := ⟨_, List.getElem?_eq_getElem (by rw [← H0.out]; exact hlt)⟩
        obtain ⟨b1, o1, rfl⟩ := HX.out.addr (by omega)
        obtain ⟨b2, o2, rfl⟩ := HY.out.addr (by rw [← H0.out]; omega)
        obtain ⟨c0, c1, c2, c3, c4, c5⟩ := (HX.out.below hB).at_ hn
        obtain ⟨d0, d1, d2, d3, d4, d5⟩ := (HY.out.below hB).at_ hm
        have Hn := Lib.hid hn
        have Hm := Lib.hid hm
        clear hn hm
        have hne := run_neq_nd n m
        have hq := Try.eqGuardType55
        by_cases hnm : n = m
        · have e1 : decide (n ≠ m) = false := by simp [hnm]
          have Hnm := Lib.hid hnm
          clear hnm
          rw [e1] at hne
          go_wp2
          go_quiet (fail)
          clear hne
          go_wp2
          go_roundw
          case rel => exact ⟨k + 1, by omega, by go_num, below_drewN hB _, Lib.hid (by rw [take_snoc' Hn.out, take_snoc' Hm.out, HE.out, Hnm.out])⟩
          case measure => simp [intOf]; omega
        · have e1 : decide (n ≠ m) = true := by simp [hnm]
          rw [e1] at hne
          have Hd : Hid (decide (xs = ys) = false) := Lib.hid (by simp; intro h; rw [h] at Hn; exact hnm (Option.some.inj (Hn.out.symm.trans Hm.out)))
          clear hnm
          go_wp2
          go_quiet (fail)
          clear hne
          go_wp2
          go_ret
          exact ⟨by rw [Hd.out]; rfl, below_drewN hB _⟩
      · have hkl : k = xs.length := by omega
        have Hd : Hid (decide (xs = ys) = true) := Lib.hid (by
          have := HE.out
          rw [hkl, List.take_of_length_le (by omega), List.take_of_length_le (by rw [H0.out]; omega)] at this
          simp [this])
        go_wp2
        go_ret
        exact ⟨by rw [Hd.out]; rfl, hB⟩
  · have e0 : ((xs.length : Int) != ys.length) = true := by simp; omega
    have hd : decide (xs = ys) = false := by simp; intro h; rw [h] at h0; exact h0 rfl
    rw [hd]
    clear hx hy h0 hd
    go_enter Try.func51, Try.ntmps51
    go_wp2
    go_ret
    exact ⟨rfl, Below.refl _ _⟩

/-- 'is'. -/
def isB (f : List Nd) (op : Int) : Bool := decide (f.length = 1) && ((f.getD 0 Nd.zero).op == op)
set_option maxRecDepth 100000 in
set_option maxHeartbeats 1000000 in
theorem is_any (A : Option Addr) (c : Nat) (f : List Nd) (op : Int) (w : World) (h : NS w A f) :
    Calls Try.prog 97 #[.slice A f.length c, .int .i64 op] w fun e w' => e = .returned (.bool (isB f op)) ∧ w = w' := by
  by_cases h1 : f.length = 1
  · obtain ⟨n, hn⟩ : ∃ n, f[0]? = some n := ⟨_, List.getElem?_eq_getElem (by omega)⟩
    obtain ⟨b, o, rfl⟩ := h.addr (by omega)
    obtain ⟨d0, d1, d2, d3, d4, d5⟩ := h.at_ hn
    have hb : isB f op = (n.op == op) := by unfold isB; rw [h1, List.getD_eq_getElem?_getD, hn]; simp
    rw [hb, h1]
    simp only [Nat.zero_mul, Nat.add_zero] at d0 d1 d2 d3 d4 d5
    clear hb hn h h1
    go_enter Try.func97, Try.ntmps97
    go_wp2
    go_ret
    simp
  · have hb : isB f op = false := by simp [isB, h1]
    have e1 : ((f.length : Int) == 1) = false := beq_eq_false_iff_ne.2 (by omega)
    rw [hb]
    clear hb h h1
    go_enter Try.func97, Try.ntmps97
    go_wp2
    go_ret
    simp
set_option maxRecDepth 100000 in
set_option maxHeartbeats 1000000 in
theorem cond_eq (A B : Option Addr) (c d : Nat) (f : List Nd) (w : World) (h : NS w A f) (hg : NS w B f) (h1 : isB f 2 = false) (h2 : isB f 1 = false) (hl : f.length ≤ 1000000) :
    Calls Try.prog 99 #[.slice A f.length c, .slice B f.length d] w (RetF w (bld ⟨1, 0, 0, 0, 0, 0⟩ [])) := by
  have H := Lib.hid h
  have HG := Lib.hid hg
  have i1 := is_any A c f 2 w h
  have i2 := is_any B d f 1 w hg
  have q := s_equal_any A B f f c d w h hg hl
  rw [h1] at i1
  rw [h2] at i2
  rw [show decide (f = f) = true from by simp] at q
  have I1 := Lib.hid i1
  have I2 := Lib.hid i2
  have Q := Lib.hid q
  clear h hg h1 h2 i1 i2 q
  go_enter Try.func99, Try.ntmps99
  go_wp2_with fail
  refine I1.out.mono ?_
  rintro e w1 ⟨rfl, rfl⟩
  go_wp2_with fail
  refine I2.out.mono ?_
  rintro e w1 ⟨rfl, rfl⟩
  go_wp2_with fail
  refine Q.out.mono ?_
  rintro e w1 ⟨rfl, hb⟩
  go_wp2_with fail
  refine (c_true_any _).mono ?_
  rintro e w2 ⟨A', c', rfl, hc', hns, hfr, hb2⟩
  go_wp2
  go_ret
  exact ⟨A', c', rfl, hc', hns, hfr.mono hb.size, hb.trans (hb2.mono hb.size)⟩
set_option maxRecDepth 100000 in
set_option maxHeartbeats 1000000 in
theorem joint_dom (x : Nd) (A B : Option Addr) (c d : Nat) (f g : List Nd) (neu dom : Int) (w : World) (h : NS w A f) (h1 : isB f dom = true) (hd : nodeErr ⟨dom, 0, 0, 0, 0, 0⟩ 0 = 0) :
    Calls Try.prog 98 #[.agg #[.int .i64 x.op, .int .i64 x.i, .int .i64 x.e, .int .i64 x.g, .int .i64 x.x, .int .i64 x.y], .slice A f.length c, .slice B g.length d, .int .i64 neu, .int .i64 dom] w (RetF w (rbuild ⟨dom, 0, 0, 0, 0, 0⟩ [] [])) := by
  have i1 := is_any A c f dom (w.alloc (.cells #[.int .i64 x.op, .int .i64 x.i, .int .i64 x.e, .int .i64 x.g, .int .i64 x.x, .int .i64 x.y] 55)) (h.below ((Below.refl _ _).alloc (Nat.le_refl _) _))
  rw [h1] at i1
  have I1 := Lib.hid i1
  have HD := Lib.hid hd
  clear h h1 i1 hd
  go_enter Try.func98, Try.ntmps98
  go_wp2_with fail
  refine I1.out.mono ?_
  rintro e w1 ⟨rfl, rfl⟩
  go_wp2_with fail
  refine (rbuild_any ⟨dom, 0, 0, 0, 0, 0⟩ 0 HD.out none none 0 0 [] [] _ (NS.nil _ _) (Nat.le_refl _) (NS.nil _ _) (Nat.le_refl _)).mono ?_
  intro e w2 hr
  obtain ⟨A', c', rfl, hc', hns, hfr, hb⟩ := hr.alloc
  go_wp2
  go_ret
  exact ⟨A', c', rfl, hc', hns, hfr, hb⟩

/-- awake's formula for Simplify, and what simple makes of its nodes. -/
def fS : List Nd := [⟨3, 0, 0, 0, 0, 0⟩, ⟨7, 0, 0, 0, 0, 0⟩, ⟨9, 0, 0, 0, 1, 0⟩, ⟨3, 1, 0, 0, 0, 0⟩, ⟨6, 0, 0, 0, 2, 3⟩]
def ruS (n : Nd) (_ _ : List Nd) : List Nd := if n.op = 3 then [⟨3, n.i, 0, 0, 0, 0⟩] else [⟨1, 0, 0, 0, 0, 0⟩]
theorem compS : comp fS = fS := by decide
theorem bldT : bld ⟨1, 0, 0, 0, 0, 0⟩ [] = [⟨1, 0, 0, 0, 0, 0⟩] := by decide

set_option maxRecDepth 100000 in
set_option maxHeartbeats 4000000 in
theorem simple_fact (i : Int) (A B : Option Addr) (c d : Nat) (w : World) (hi : nodeErr ⟨3, i, 0, 0, 0, 0⟩ 0 = 0) (hb : bld ⟨3, i, 0, 0, 0, 0⟩ [] = [⟨3, i, 0, 0, 0, 0⟩]) :
    Calls Try.prog 47 #[.agg #[.int .i64 3, .int .i64 i, .int .i64 0, .int .i64 0, .int .i64 0, .int .i64 0], .slice A 0 c, .slice B 0 d] w (RetF w [⟨3, i, 0, 0, 0, 0⟩]) := by
  have H := rbuild_any ⟨3, i, 0, 0, 0, 0⟩ 0 hi A B c d [] [] (w.alloc (.cells #[.int .i64 3, .int .i64 i, .int .i64 0, .int .i64 0, .int .i64 0, .int .i64 0] 55)) (NS.nil _ _) (Nat.zero_le _) (NS.nil _ _) (Nat.zero_le _)
  have hr : rbuild ⟨3, i, 0, 0, 0, 0⟩ [] [] = [⟨3, i, 0, 0, 0, 0⟩] := hb
  rw [hr] at H
  have HH := Lib.hid H
  clear H hi hb hr
  go_enter Try.func47, Try.ntmps47
  go_wp2_with fail
  refine HH.out.mono ?_
  intro e w2 hr
  obtain ⟨A', c', rfl, hc', hns, hfr, hb⟩ := hr.alloc
  go_wp2
  go_ret
  exact ⟨A', c', rfl, hc', hns, hfr, hb⟩
set_option maxRecDepth 100000 in
set_option maxHeartbeats 4000000 in
theorem simple_imp (A B : Option Addr) (c d : Nat) (w : World) (f : List Nd) (h : NS w A f) (hg : NS w B f) (h1 : isB f 2 = false) (h2 : isB f 1 = false) (hl : f.length ≤ 1000000) :
    Calls Try.prog 47 #[.agg #[.int .i64 7, .int .i64 0, .int .i64 0, .int .i64 0, .int .i64 0, .int .i64 0], .slice A f.length c, .slice B f.length d] w (RetF w [⟨1, 0, 0, 0, 0, 0⟩]) := by
  have hb0 : Below w.heap.size w (w.alloc (.cells #[.int .i64 7, .int .i64 0, .int .i64 0, .int .i64 0, .int .i64 0, .int .i64 0] 55)) := (Below.refl _ _).alloc (Nat.le_refl _) _
  have H := cond_eq A B c d f _ (h.below hb0) (hg.below hb0) h1 h2 hl
  rw [bldT] at H
  have HH := Lib.hid H
  clear H h hg h1 h2 hb0
  go_enter Try.func47, Try.ntmps47
  go_wp2_with fail
  refine HH.out.mono ?_
  intro e w2 hr
  obtain ⟨A', c', rfl, hc', hns, hfr, hb⟩ := hr.alloc
  go_wp2
  go_ret
  exact ⟨A', c', rfl, hc', hns, hfr, hb⟩
set_option maxRecDepth 100000 in
set_option maxHeartbeats 4000000 in
theorem simple_know (A B : Option Addr) (c d : Nat) (w : World) (f : List Nd) (h : NS w A f) (h1 : isB f 1 = true) :
    Calls Try.prog 47 #[.agg #[.int .i64 9, .int .i64 0, .int .i64 0, .int .i64 0, .int .i64 1, .int .i64 0], .slice A f.length c, .slice B 0 d] w (RetF w [⟨1, 0, 0, 0, 0, 0⟩]) := by
  have hb0 : Below w.heap.size w (w.alloc (.cells #[.int .i64 9, .int .i64 0, .int .i64 0, .int .i64 0, .int .i64 1, .int .i64 0] 55)) := (Below.refl _ _).alloc (Nat.le_refl _) _
  have H := is_any A c f 1 _ (h.below hb0)
  rw [h1] at H
  have HH := Lib.hid H
  clear H h h1 hb0
  go_enter Try.func47, Try.ntmps47
  go_wp2_with fail
  refine HH.out.mono ?_
  rintro e w2 ⟨rfl, rfl⟩
  go_wp2_with fail
  refine (c_true_any _).mono ?_
  intro e w2 hr
  obtain ⟨A', c', rfl, hc', hns, hfr, hb⟩ := hr.alloc
  go_wp2
  go_ret
  exact ⟨A', c', rfl, hc', hns, hfr, hb⟩
set_option maxRecDepth 100000 in
set_option maxHeartbeats 4000000 in
theorem simple_or (A B : Option Addr) (c d : Nat) (w : World) (f g : List Nd) (h : NS w A f) (h1 : isB f 1 = true) :
    Calls Try.prog 47 #[.agg #[.int .i64 6, .int .i64 0, .int .i64 0, .int .i64 0, .int .i64 2, .int .i64 3], .slice A f.length c, .slice B g.length d] w (RetF w [⟨1, 0, 0, 0, 0, 0⟩]) := by
  have hb0 : Below w.heap.size w (w.alloc (.cells #[.int .i64 6, .int .i64 0, .int .i64 0, .int .i64 0, .int .i64 2, .int .i64 3] 55)) := (Below.refl _ _).alloc (Nat.le_refl _) _
  have H := joint_dom ⟨6, 0, 0, 0, 2, 3⟩ A B c d f g 2 1 _ (h.below hb0) h1 (by decide)
  have hr : rbuild ⟨1, 0, 0, 0, 0, 0⟩ [] [] = [⟨1, 0, 0, 0, 0, 0⟩] := by decide
  rw [hr] at H
  have HH := Lib.hid H
  clear H h h1 hb0 hr
  go_enter Try.func47, Try.ntmps47
  go_wp2_with fail
  refine HH.out.mono ?_
  intro e w2 hr
  obtain ⟨A', c', rfl, hc', hns, hfr, hb⟩ := hr.alloc
  go_wp2
  go_ret
  exact ⟨A', c', rfl, hc', hns, hfr, hb⟩

theorem simple_rule (w0 : World) : Rule w0 47 #[] ruS (comp fS) := by
  rw [compS]
  intro n k A B c d a b w hn ha hb hB0 hA hc hB hd hxa hyb
  match k, hn with
  | 0, hn =>
    obtain rfl : n = ⟨3, 0, 0, 0, 0, 0⟩ := (Option.some.inj hn).symm
    obtain rfl : a = [] := ha
    obtain rfl : b = [] := hb
    exact (simple_fact 0 A B c d w (by decide) (by decide)).mono fun e w' h => h.toR
  | 1, hn =>
    obtain rfl : n = ⟨7, 0, 0, 0, 0, 0⟩ := (Option.some.inj hn).symm
    obtain rfl : a = [⟨3, 0, 0, 0, 0, 0⟩] := ha.trans (by decide)
    obtain rfl : b = [⟨3, 0, 0, 0, 0, 0⟩] := hb.trans (by decide)
    exact (simple_imp A B c d w _ hA hB (by decide) (by decide) (by simp)).mono fun e w' h => h.toR
  | 2, hn =>
    obtain rfl : n = ⟨9, 0, 0, 0, 1, 0⟩ := (Option.some.inj hn).symm
    obtain rfl : a = [⟨1, 0, 0, 0, 0, 0⟩] := ha.trans (by decide)
    obtain rfl : b = [] := hb
    exact (simple_know A B c d w _ hA (by decide)).mono fun e w' h => h.toR
  | 3, hn =>
    obtain rfl : n = ⟨3, 1, 0, 0, 0, 0⟩ := (Option.some.inj hn).symm
    obtain rfl : a = [] := ha
    obtain rfl : b = [] := hb
    exact (simple_fact 1 A B c d w (by decide) (by decide)).mono fun e w' h => h.toR
  | 4, hn =>
    obtain rfl : n = ⟨6, 0, 0, 0, 2, 3⟩ := (Option.some.inj hn).symm
    obtain rfl : a = [⟨1, 0, 0, 0, 0, 0⟩] := ha.trans (by decide)
    obtain rfl : b = [⟨3, 1, 0, 0, 0, 0⟩] := hb.trans (by decide)
    exact (simple_or A B c d w _ _ hA (by decide)).mono fun e w' h => h.toR
  | k + 5, hn => simp [fS] at hn
set_option maxRecDepth 100000 in
set_option maxHeartbeats 1000000 in
theorem simplify_any (A : Option Addr) (c : Nat) (w : World) (h : NS w A fS) : Calls Try.prog 21 #[.slice A 5 c] w (RetE w ([⟨1, 0, 0, 0, 0, 0⟩], 0)) := by
  have H := upward_any A c fS 47 #[] ruS w h (simple_rule w) (fun a b c w' => enters Try.func47 (by kernel_rfl) a b c _ w')
  rw [show upw ruS fS = ([⟨1, 0, 0, 0, 0, 0⟩], 0) from by decide] at H
  have HH := Lib.hid H
  clear H h
  go_enter Try.func21, Try.ntmps21
  go_wp2_with fail
  refine HH.out.mono ?_
  rintro e w1 ⟨A', c', rfl, hc', hns, hfr, hb⟩
  go_wp2
  go_ret2
  exact ⟨A', c', rfl, hc', hns, hfr, hb⟩
end Go.Proofs.Ytlgbbabijifflaa
