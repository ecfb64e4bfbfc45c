/-
  rewrite.Nnf at awake's formula: the steps.
-/
import Derived.Test.YtlgbbabijifflaaNnf1
namespace Go.Proofs.Ytlgbbabijifflaa
open Go.RowKit

theorem RetF.toN {nb m0 m1 : Nat} {AN : Option Addr} {cN : Nat} {w : World} {xs : List Nd} {k0 k1 : List Int} {e : Ending} {w' : World} (h : RetF w xs e w') (hn : NOk nb m0 m1 AN cN w k0 k1) : NPost nb m0 m1 AN cN w xs k0 k1 e w' := by
  obtain ⟨A, c, rfl, hc, hns, hf, hb⟩ := h
  exact ⟨A, c, rfl, hc, hns, hf.mono hn.lt.2.2, hn.later hb, .of_below hb⟩
set_option maxRecDepth 100000 in
set_option maxHeartbeats 1000000 in
theorem pos_fact (i : Int) (hi : nodeErr ⟨3, i, 0, 0, 0, 0⟩ 0 = 0) (hb : bld ⟨3, i, 0, 0, 0, 0⟩ [] = [⟨3, i, 0, 0, 0, 0⟩]) (nb : Nat) (w : World) :
    Calls Try.prog 96 #[.pointer (some ⟨nb, 0, none⟩), .agg #[.int .i64 3, .int .i64 i, .int .i64 0, .int .i64 0, .int .i64 0, .int .i64 0]] w (RetF w [⟨3, i, 0, 0, 0, 0⟩]) := by
  have H := rbuild_any ⟨3, i, 0, 0, 0, 0⟩ 0 hi none none 0 0 [] [] (w.alloc (.cells #[.int .i64 3, .int .i64 i, .int .i64 0, .int .i64 0, .int .i64 0, .int .i64 0] 55)) (NS.nil _ _) (Nat.zero_le _) (NS.nil _ _) (Nat.zero_le _)
  have hr : rbuild ⟨3, i, 0, 0, 0, 0⟩ [] [] = [⟨3, i, 0, 0, 0, 0⟩] := hb
  rw [hr] at H
  have hbn := fun w => binary_any 3 w
  rw [show (us 3).y = false from rfl] at hbn
  have HB := Lib.hid hbn
  have HH := Lib.hid H
  clear H hi hb hr hbn
  go_enter Try.func96, Try.ntmps96
  go_wp2_with fail
  refine (HB.out _).mono ?_
  rintro e w1 ⟨rfl, rfl⟩
  go_wp2_with fail
  refine HH.out.mono ?_
  intro e w2 hr
  obtain ⟨A', c', rfl, hc', hns, hfr, hb⟩ := hr.alloc
  go_wp2
  go_ret
  exact ⟨A', c', rfl, hc', hns, hfr, hb⟩
def nF : List Nd := [⟨3, 1, 0, 0, 0, 0⟩, ⟨4, 0, 0, 0, 0, 0⟩]
def nK : List Nd := [⟨3, 1, 0, 0, 0, 0⟩, ⟨4, 0, 0, 0, 0, 0⟩, ⟨10, 1, 0, 0, 1, 0⟩]
def nI : List Nd := [⟨3, 0, 0, 0, 0, 0⟩, ⟨3, 1, 0, 0, 0, 0⟩, ⟨4, 0, 0, 0, 1, 0⟩, ⟨10, 1, 0, 0, 2, 0⟩, ⟨5, 0, 0, 0, 0, 3⟩]
set_option maxRecDepth 100000 in
set_option maxHeartbeats 1000000 in
theorem neg_fact (nb : Nat) (w : World) :
    Calls Try.prog 95 #[.pointer (some ⟨nb, 0, none⟩), .agg #[.int .i64 3, .int .i64 1, .int .i64 0, .int .i64 0, .int .i64 0, .int .i64 0]] w (RetF w nF) := by
  have H := pos_fact 1 (by decide) (by decide) nb (w.alloc (.cells #[.int .i64 3, .int .i64 1, .int .i64 0, .int .i64 0, .int .i64 0, .int .i64 0] 55))
  have HH := Lib.hid H
  clear H
  go_enter Try.func95, Try.ntmps95
  go_wp2_with fail
  refine HH.out.mono ?_
  intro e w2 hr
  obtain ⟨A', c', rfl, hc', hns, hfr, hb⟩ := hr.alloc
  have hnot := c_not_any A' c' [⟨3, 1, 0, 0, 0, 0⟩] w2 hns hc'
  rw [show bld ⟨4, 0, 0, 0, 0, 0⟩ [[⟨3, 1, 0, 0, 0, 0⟩]] = nF from by decide] at hnot
  have HN := Lib.hid hnot
  clear hnot hns hfr
  go_wp2_with fail
  refine HN.out.mono ?_
  rintro e w3 ⟨A3, c3, rfl, hc3, hns3, hfr3, hb3⟩
  go_wp2
  go_ret
  exact ⟨A3, c3, rfl, hc3, hns3, hfr3.mono hb.size, hb.trans (hb3.mono hb.size)⟩
set_option maxRecDepth 100000 in
set_option maxHeartbeats 2000000 in
theorem neg_know (nb m0 m1 : Nat) (AN : Option Addr) (cN : Nat) (k0 : List Int) (w : World) (h : NOk nb m0 m1 AN cN w k0 []) :
    Calls Try.prog 95 #[.pointer (some ⟨nb, 0, none⟩), .agg #[.int .i64 9, .int .i64 1, .int .i64 0, .int .i64 0, .int .i64 1, .int .i64 0]] w (NPost nb m0 m1 AN cN w nK k0 [1]) := by
  obtain ⟨w1, hw1⟩ : ∃ w1, w1 = w.alloc (.cells #[.int .i64 9, .int .i64 1, .int .i64 0, .int .i64 0, .int .i64 1, .int .i64 0] 55) := ⟨_, rfl⟩
  have hb1 : Below w.heap.size w w1 := by rw [hw1]; exact (Below.refl _ _).alloc (Nat.le_refl _) _
  have hof : Calls Try.prog 46 #[.pointer (some ⟨nb, 0, none⟩), .int .i64 1, .bool true] w1.drew (NPost nb m0 m1 AN cN w1.drew nF k0 [1]) :=
    of_true nb m0 m1 AN cN 1 ⟨3, 1, 0, 0, 0, 0⟩ rfl nF k0 [] k0 [] (by simp) (by simp) (fun w h => (neg_fact nb w).mono fun e w' hr => hr.toN h) w1.drew (h.later hb1.drew)
  have hx1 : w1.cell? ⟨w.heap.size, 1, none⟩ = some (.int .i64 1) := by rw [hw1]; simp
  have hx4 : w1.cell? ⟨w.heap.size, 4, none⟩ = some (.int .i64 1) := by rw [hw1]; simp
  have hlt := h.lt
  have HOF := Lib.hid hof
  have HW := Lib.hid hw1
  have HB1 := Lib.hid hb1
  have hsx : ¬ (w.heap.size = m0 ∨ w.heap.size = m1) := by omega
  have HSX := Lib.hid hsx
  clear hof hw1 hb1 h hsx
  go_enter Try.func95, Try.ntmps95
  go_wp2_with fail
  rw [← HW.out]
  go_region_held_law (fun w' => w'.cell? ⟨w.heap.size, 1, none⟩ = some (.int .i64 1) ∧ w'.cell? ⟨w.heap.size, 4, none⟩ = some (.int .i64 1))
    (first
      | go_keep
      | (go_split_ands; exact ⟨hb3y1, hb3y4⟩)
      | (go_split_ands; exact ⟨k2x1, k2x4⟩))
    ((first
      | (go_simp; go_at_call 68; refine HN.out.mono ?_; rintro e w3 ⟨A3, c3, rfl, hc3, hns3, hfr3, hb3⟩; have hb3y1 := cell_below hb3 k2x1; have hb3y4 := cell_below hb3 k2x4)
      | (go_simp; go_at_call 46; refine HOF.out.mono ?_; rintro e w2 ⟨A2, c2, rfl, hc2, hns2, hfr2, hok2, k2⟩; have k2x1 := k2.cell (p := ⟨w.heap.size, 1, none⟩) hx1 HSX.out; have k2x4 := k2.cell (p := ⟨w.heap.size, 4, none⟩) hx4 HSX.out; have hnot := c_poss_any 1 A2 c2 nF w2 hns2 hc2; rw [show bld ⟨10, 1, 0, 0, 0, 0⟩ [nF] = nK from by decide] at hnot; have HN := Lib.hid hnot; clear hnot)))
  go_wp2
  go_ret
  exact ⟨A3, c3, rfl, hc3, hns3, hfr3.mono (by have := hok2.lt; omega), hok2.later hb3, (KeepsBut.of_below HB1.out.drew).trans (k2.trans (.of_below hb3))⟩
set_option maxRecDepth 100000 in
set_option maxHeartbeats 2000000 in
theorem neg_imp (nb m0 m1 : Nat) (AN : Option Addr) (cN : Nat) (w : World) (h : NOk nb m0 m1 AN cN w [] []) :
    Calls Try.prog 95 #[.pointer (some ⟨nb, 0, none⟩), .agg #[.int .i64 7, .int .i64 0, .int .i64 0, .int .i64 0, .int .i64 0, .int .i64 2]] w (NPost nb m0 m1 AN cN w nI [0] [1, 2]) := by
  obtain ⟨w1, hw1⟩ : ∃ w1, w1 = w.alloc (.cells #[.int .i64 7, .int .i64 0, .int .i64 0, .int .i64 0, .int .i64 0, .int .i64 2] 55) := ⟨_, rfl⟩
  have hb1 : Below w.heap.size w w1 := by rw [hw1]; exact (Below.refl _ _).alloc (Nat.le_refl _) _
  have hof : Calls Try.prog 46 #[.pointer (some ⟨nb, 0, none⟩), .int .i64 0, .bool false] w1.drew (NPost nb m0 m1 AN cN w1.drew l0 [0] []) :=
    of_false nb m0 m1 AN cN 0 ⟨3, 0, 0, 0, 0, 0⟩ rfl l0 [] [] [] [] (by simp) (by simp) (fun w h => (pos_fact 0 (by decide) (by decide) nb w).mono fun e w' hr => hr.toN h) w1.drew (h.later hb1.drew)
  have hof2 : ∀ w2, NOk nb m0 m1 AN cN w2 [0] [] → Calls Try.prog 46 #[.pointer (some ⟨nb, 0, none⟩), .int .i64 2, .bool true] w2 (NPost nb m0 m1 AN cN w2 nK [0] [1, 2]) := fun w2 h2 =>
    of_true nb m0 m1 AN cN 2 ⟨9, 1, 0, 0, 1, 0⟩ rfl nK [0] [] [0] [1] (by simp) (by simp) (fun w h => neg_know nb m0 m1 AN cN [0] w h) w2 h2
  have hx4 : w1.cell? ⟨w.heap.size, 4, none⟩ = some (.int .i64 0) := by rw [hw1]; simp
  have hx5 : w1.cell? ⟨w.heap.size, 5, none⟩ = some (.int .i64 2) := by rw [hw1]; simp
  have hlt := h.lt
  have HOF := Lib.hid hof
  have HOF2 := Lib.hid hof2
  have HW := Lib.hid hw1
  have HB1 := Lib.hid hb1
  have hsx : ¬ (w.heap.size = m0 ∨ w.heap.size = m1) := by omega
  have HSX := Lib.hid hsx
  clear hof hof2 hw1 hb1 h hsx
  go_enter Try.func95, Try.ntmps95
  go_wp2_with fail
  rw [← HW.out]
  go_region_held_law (fun w' => w'.cell? ⟨w.heap.size, 4, none⟩ = some (.int .i64 0) ∧ w'.cell? ⟨w.heap.size, 5, none⟩ = some (.int .i64 2))
    (first
      | go_keep
      | (go_split_ands; exact ⟨hb4x4, hb4x5⟩)
      | (go_split_ands; exact ⟨k3x4, k3x5⟩)
      | (go_split_ands; exact ⟨k2x4, k2x5⟩))
    ((first
      | (go_simp; go_at_call 64; refine HN.out.mono ?_; rintro e w4 ⟨A4, c4, rfl, hc4, hns4, hfr4, hb4⟩; have hb4x4 := cell_below hb4 k3x4; have hb4x5 := cell_below hb4 k3x5)
      | (go_simp; go_at_call 46; refine (HOF2.out w2 hok2).mono ?_; rintro e w3 ⟨A3, c3, rfl, hc3, hns3, hfr3, hok3, k3⟩; have k3x4 := k3.cell (p := ⟨w.heap.size, 4, none⟩) k2x4 HSX.out; have k3x5 := k3.cell (p := ⟨w.heap.size, 5, none⟩) k2x5 HSX.out; have hand := c_and_any A2 A3 c2 c3 l0 nK w3 (hns2.keep k3 (fun ad e h => by have := hfr2 ad e; omega)) hc2 hns3 hc3; rw [show bld ⟨5, 0, 0, 0, 0, 0⟩ [l0, nK] = nI from by decide] at hand; have HN := Lib.hid hand; clear hand)
      | (go_simp; go_at_call 46; refine HOF.out.mono ?_; rintro e w2 ⟨A2, c2, rfl, hc2, hns2, hfr2, hok2, k2⟩; have k2x4 := k2.cell (p := ⟨w.heap.size, 4, none⟩) hx4 HSX.out; have k2x5 := k2.cell (p := ⟨w.heap.size, 5, none⟩) hx5 HSX.out)))
  go_wp2
  go_ret
  exact ⟨A4, c4, rfl, hc4, hns4, hfr4.mono (by have := hok3.lt; omega), hok3.later hb4, (KeepsBut.of_below HB1.out.drew).trans (k2.trans (k3.trans (.of_below hb4)))⟩
set_option maxRecDepth 100000 in
set_option maxHeartbeats 2000000 in
theorem pos_not (nb m0 m1 : Nat) (AN : Option Addr) (cN : Nat) (w : World) (h : NOk nb m0 m1 AN cN w [] []) :
    Calls Try.prog 96 #[.pointer (some ⟨nb, 0, none⟩), .agg #[.int .i64 4, .int .i64 0, .int .i64 0, .int .i64 0, .int .i64 3, .int .i64 0]] w (NPost nb m0 m1 AN cN w nI [0] [1, 2, 3]) := by
  have hb1 : Below w.heap.size w (w.alloc (.cells #[.int .i64 4, .int .i64 0, .int .i64 0, .int .i64 0, .int .i64 3, .int .i64 0] 55)) := (Below.refl _ _).alloc (Nat.le_refl _) _
  have hof : Calls Try.prog 46 #[.pointer (some ⟨nb, 0, none⟩), .int .i64 3, .bool true] (w.alloc (.cells #[.int .i64 4, .int .i64 0, .int .i64 0, .int .i64 0, .int .i64 3, .int .i64 0] 55)) (NPost nb m0 m1 AN cN (w.alloc (.cells #[.int .i64 4, .int .i64 0, .int .i64 0, .int .i64 0, .int .i64 3, .int .i64 0] 55)) nI [0] [1, 2, 3]) :=
    of_true nb m0 m1 AN cN 3 ⟨7, 0, 0, 0, 0, 2⟩ rfl nI [] [] [0] [1, 2] (by simp) (by simp) (fun w h => neg_imp nb m0 m1 AN cN w h) _ (h.later hb1)
  have HOF := Lib.hid hof
  have HB1 := Lib.hid hb1
  clear hof h hb1
  go_enter Try.func96, Try.ntmps96
  go_wp2_with fail
  refine HOF.out.mono ?_
  rintro e w2 ⟨A2, c2, rfl, hc2, hns2, hfr2, hok2, k2⟩
  go_wp2
  go_ret
  exact ⟨A2, c2, rfl, hc2, hns2, hfr2, hok2, (KeepsBut.of_below HB1.out).trans k2⟩
theorem of_top (nb m0 m1 : Nat) (AN : Option Addr) (cN : Nat) (w : World) (h : NOk nb m0 m1 AN cN w [] []) :
    Calls Try.prog 46 #[.pointer (some ⟨nb, 0, none⟩), .int .i64 4, .bool false] w (NPost nb m0 m1 AN cN w nI [0, 4] [1, 2, 3]) :=
  of_false nb m0 m1 AN cN 4 ⟨4, 0, 0, 0, 3, 0⟩ rfl nI [] [] [0] [1, 2, 3] (by simp) (by simp) (fun w h => pos_not nb m0 m1 AN cN w h) w h
end Go.Proofs.Ytlgbbabijifflaa
