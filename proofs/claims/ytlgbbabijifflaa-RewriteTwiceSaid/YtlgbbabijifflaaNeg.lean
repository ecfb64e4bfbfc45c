/-
  rewrite.stripped, negate, long, Negate.
-/
import Derived.Test.YtlgbbabijifflaaSimp
namespace Go.Proofs.Ytlgbbabijifflaa
open Go.RowKit

/-- What stripped hands back. -/
def RetSt (w : World) (xs : List Nd) (ok : Bool) (e : Ending) (w' : World) : Prop :=
  ∃ A c, e = .returned (.tuple #[.slice A xs.length c, .bool ok]) ∧ xs.length ≤ c ∧ NS w' A xs ∧ Fresh w.heap.size A ∧ Below w.heap.size w w'
def strp (f : List Nd) : List Nd × Bool := let l := f.getD (f.length - 1) Nd.zero; if l.op = 4 then (sub f l.x, true) else ([], false)
set_option maxRecDepth 100000 in
set_option maxHeartbeats 1000000 in
theorem stripped_any (A : Option Addr) (c : Nat) (f : List Nd) (w : World) (h : NS w A f) (h0 : 0 < f.length) (hl : f.length ≤ 1000000) :
    Calls Try.prog 102 #[.slice A f.length c] w (RetSt w (strp f).1 (strp f).2) := by
  obtain ⟨b, o, rfl⟩ := h.addr h0
  obtain ⟨i, hi⟩ : ∃ i, f.length = i + 1 := ⟨f.length - 1, by omega⟩
  obtain ⟨n, hn⟩ : ∃ n, f[i]? = some n := ⟨_, List.getElem?_eq_getElem (by omega)⟩
  have hg : f.getD (f.length - 1) Nd.zero = n := by rw [show f.length - 1 = i by omega, List.getD_eq_getElem?_getD, hn]; rfl
  have hst : strp f = if n.op = 4 then (sub f n.x, true) else ([], false) := by unfold strp; rw [hg]
  obtain ⟨d0, d1, d2, d3, d4, d5⟩ := h.at_ hn
  have hbl := World.block_lt_of_cell? _ _ d0
  have hi1 : (f.length : Int) - 1 = i := by omega
  have hi2 : (i : Int) < f.length := by omega
  have Hb : ∀ U, Below w.heap.size w (w.alloc U) := fun U => (Below.refl _ _).alloc (Nat.le_refl _) _
  have HB := Lib.hid Hb
  have H := Lib.hid h
  by_cases h4 : n.op = 4
  · rw [hst, if_pos h4]
    have e1 : (n.op != 4) = false := by simp [h4]
    have HS := Lib.hid (sub_any (some ⟨b, o, none⟩) c f n.x (w.alloc (.cells #[.int .i64 n.op, .int .i64 n.i, .int .i64 n.e, .int .i64 n.g, .int .i64 n.x, .int .i64 n.y] 55)) (h.below (Hb _)))
    clear h hn hg hst h4 Hb hi
    go_enter Try.func102, Try.ntmps102
    go_wp2_with fail
    refine HS.out.mono ?_
    intro e w2 hr
    obtain ⟨A', c', rfl, hc', hns, hfr, hb⟩ := hr.alloc
    go_wp2
    go_ret2
    exact ⟨A', c', rfl, hc', hns, hfr, hb⟩
  · rw [hst, if_neg h4]
    have e1 : (n.op != 4) = true := by simp [h4]
    clear h hn hg hst h4 Hb hi
    go_enter Try.func102, Try.ntmps102
    go_wp2
    go_ret2
    exact ⟨none, 0, rfl, Nat.le_refl _, NS.nil _ _, Fresh.none _, HB.out _⟩
def neg (f : List Nd) : List Nd := if (strp f).2 then (strp f).1 else bld ⟨4, 0, 0, 0, 0, 0⟩ [f]
set_option maxRecDepth 100000 in
set_option maxHeartbeats 1000000 in
theorem negate_any (A : Option Addr) (c : Nat) (f : List Nd) (w : World) (h : NS w A f) (hc : f.length ≤ c) (h0 : 0 < f.length) (hl : f.length ≤ 1000000) :
    Calls Try.prog 53 #[.slice A f.length c] w (RetF w (neg f)) := by
  have HS := Lib.hid (stripped_any A c f w h h0 hl)
  have H := Lib.hid h
  cases hs : (strp f).2 with
  | true =>
    have hng : neg f = (strp f).1 := by unfold neg; rw [hs]; rfl
    rw [hng]
    have hHS := HS.out
    rw [hs] at hHS
    clear HS
    have HS := Lib.hid hHS
    clear hHS h hng hs
    go_enter Try.func53, Try.ntmps53
    go_wp2_with fail
    refine HS.out.mono ?_
    rintro e w2 ⟨A', c', rfl, hc', hns, hfr, hb⟩
    go_wp2
    go_ret
    exact ⟨A', c', rfl, hc', hns, hfr, hb⟩
  | false =>
    have hng : neg f = bld ⟨4, 0, 0, 0, 0, 0⟩ [f] := by unfold neg; rw [hs]; rfl
    rw [hng]
    have hHS := HS.out
    rw [hs] at hHS
    clear HS
    have HS := Lib.hid hHS
    clear hHS h hng hs
    go_enter Try.func53, Try.ntmps53
    go_wp2_with fail
    refine HS.out.mono ?_
    rintro e w2 ⟨A', c', rfl, hc', hns, hfr, hb⟩
    go_wp2_with fail
    refine (c_not_any _ _ _ _ (H.out.below hb) hc).mono ?_
    rintro e w3 ⟨A2, c2, rfl, hc2, hns2, hfr2, hb2⟩
    go_wp2
    go_ret
    exact ⟨A2, c2, rfl, hc2, hns2, hfr2.mono hb.size, hb.trans (hb2.mono hb.size)⟩
set_option maxRecDepth 100000 in
theorem long_any (A : Option Addr) (c l : Nat) (w : World) (h0 : 0 < l) : Calls Try.prog 45 #[.slice A l c] w fun e w' => e = .returned (.tuple #[.slice A l c, .int .i64 0]) ∧ w = w' := by
  have e0 : ((l : Int) == 0) = false := beq_eq_false_iff_ne.2 (by omega)
  clear h0
  go_enter Try.func45, Try.ntmps45
  go_wp2
  go_ret2
  exact ⟨rfl, rfl⟩
def fN : List Nd := [⟨3, 0, 0, 0, 0, 0⟩, ⟨4, 0, 0, 0, 0, 0⟩]
set_option maxRecDepth 100000 in
set_option maxHeartbeats 1000000 in
theorem negate_N (A : Option Addr) (c : Nat) (w : World) (h : NS w A fN) : Calls Try.prog 23 #[.slice A 2 c] w (RetE w ([⟨3, 0, 0, 0, 0, 0⟩], 0)) := by
  have H := Lib.hid h
  have hck := check_any A fN c w h
  rw [show chk fN = 0 from by decide] at hck
  have HC := Lib.hid hck
  have hcm : ∀ w1, Below w.heap.size w w1 → Calls Try.prog 33 #[.slice A fN.length c] w1 (RetF w1 fN) := fun w1 hb => by
    have := comp_any A c fN w1 (h.below hb) (by simp [fN])
    rwa [show comp fN = fN from by decide] at this
  have HM := Lib.hid hcm
  have hng : ∀ A' c' w1, NS w1 A' fN → fN.length ≤ c' → Calls Try.prog 53 #[.slice A' fN.length c'] w1 (RetF w1 [⟨3, 0, 0, 0, 0, 0⟩]) := fun A' c' w1 h hc => by
    have := negate_any A' c' fN w1 h hc (by simp [fN]) (by simp [fN])
    rwa [show neg fN = [⟨3, 0, 0, 0, 0, 0⟩] from by decide] at this
  have HG := Lib.hid hng
  clear h hck hcm hng
  go_enter Try.func23, Try.ntmps23
  go_wp2_with fail
  refine HC.out.mono ?_
  rintro e w1 ⟨rfl, hb1⟩
  go_wp2_with fail
  refine (HM.out w1 hb1).mono ?_
  rintro e w2 ⟨A2, c2, rfl, hc2, hns2, hfr2, hb2⟩
  go_wp2_with fail
  refine (HG.out A2 c2 w2 hns2 hc2).mono ?_
  rintro e w3 ⟨A3, c3, rfl, hc3, hns3, hfr3, hb3⟩
  go_wp2_with fail
  refine (long_any A3 c3 1 _ (by omega)).mono ?_
  rintro e w4 ⟨rfl, rfl⟩
  go_wp2
  go_ret2
  have hb12 := hb1.trans (hb2.mono hb1.size)
  exact ⟨A3, c3, rfl, hc3, hns3, hfr3.mono hb12.size, hb12.trans (hb3.mono hb12.size)⟩
end Go.Proofs.Ytlgbbabijifflaa
