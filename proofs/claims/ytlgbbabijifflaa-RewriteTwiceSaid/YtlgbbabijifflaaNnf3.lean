/-
  rewrite.Nnf at awake's formula.
-/
import Derived.Test.YtlgbbabijifflaaNnf2
namespace Go.Proofs.Ytlgbbabijifflaa
open Go.RowKit

theorem compX : comp fX = fX := by decide
/-- The normal in the making: k of its maps are made. -/
def mv (nb : Nat) (k j : Nat) : Value := if j < k then .map (some (nb + 1 + j)) else .map none
def NB (nb : Nat) (AN : Option Addr) (cN : Nat) (w : World) (k : Nat) : Prop :=
  w.heap[nb]? = some (.cells #[.slice AN 5 cN, mv nb k 0, mv nb k 1] 83) ∧ w.heap.size = nb + 1 + k ∧ ∀ j, j < k → w.heap[nb + 1 + j]? = some (.map #[] 0)
theorem NB.cell {nb : Nat} {AN : Option Addr} {cN : Nat} {w : World} {k : Nat} (h : NB nb AN cN w k) (hk : k < 2) : w.cell? ⟨nb, 1 + k, none⟩ = some (.map none) ∧ w.frozen? ⟨nb, 1 + k, none⟩ = false := by
  have h1 := h.1
  have : k = 0 ∨ k = 1 := by omega
  rcases this with rfl | rfl
  · constructor
    · simp [World.cell?, h1, mv]
    · simp [World.frozen?, h1]
  · constructor
    · simp [World.cell?, h1, mv]
    · simp [World.frozen?, h1]
theorem block3_set1 {w : World} {b : Nat} {u v x y : Value} {t : TypeId} (h : w.heap[b]? = some (.cells #[u, v, y] t)) : (w.setCell ⟨b, 1 + 0, none⟩ x).heap[b]? = some (.cells #[u, x, y] t) := by
  simp [World.setCell, Array.getElem?_modify, h]
theorem block3_set2 {w : World} {b : Nat} {u v x y : Value} {t : TypeId} (h : w.heap[b]? = some (.cells #[u, v, y] t)) : (w.setCell ⟨b, 1 + 1, none⟩ x).heap[b]? = some (.cells #[u, v, x] t) := by
  simp [World.setCell, Array.getElem?_modify, h]
theorem NB.next {nb : Nat} {AN : Option Addr} {cN : Nat} {w : World} {k : Nat} (h : NB nb AN cN w k) (hk : k < 2) : NB nb AN cN ((w.setCell ⟨nb, 1 + k, none⟩ (.map (some w.heap.size))).alloc (.map #[] 0)) (k + 1) := by
  obtain ⟨h1, h2, h3⟩ := h
  have hs : (w.setCell ⟨nb, 1 + k, none⟩ (.map (some w.heap.size))).heap.size = w.heap.size := by simp
  refine ⟨heap_old _ _ _ ?_ (by omega), by simp; omega, fun j hj => ?_⟩
  · have : k = 0 ∨ k = 1 := by omega
    rcases this with rfl | rfl
    · rw [block3_set1 h1]; simp [mv, h2]
    · rw [block3_set2 h1]; simp [mv, h2]
  · by_cases hj' : j < k
    · refine heap_old _ _ _ ?_ (by omega)
      rw [show (w.setCell ⟨nb, 1 + k, none⟩ (.map (some w.heap.size))).heap[nb + 1 + j]? = w.heap[nb + 1 + j]? from Below.heap_setCell _ _ _ _ (by show nb + 1 + j ≠ nb; omega)]
      exact h3 j hj'
    · exact heap_new _ _ _ (by omega)
theorem NB.done {nb : Nat} {AN : Option Addr} {cN : Nat} {w : World} (h : NB nb AN cN w 2) (hn : NS w AN fX) (ho : ∀ ad, AN = some ad → ad.block < nb) : NOk nb (nb + 1) (nb + 2) AN cN w [] [] := by
  obtain ⟨h1, h2, h3⟩ := h
  exact ⟨by omega, hn, ho, h1, ⟨[], rfl, h3 0 (by omega)⟩, ⟨[], rfl, h3 1 (by omega)⟩⟩

set_option maxRecDepth 100000 in
set_option maxHeartbeats 2000000 in
theorem nnf_X (A : Option Addr) (c : Nat) (w : World) (h : NS w A fX) : Calls Try.prog 19 #[.slice A 5 c] w (RetE w (nI, 0)) := by
  have hmm := @run_makeMap Try.prog
  have hck := check_any A fX c w h
  rw [show chk fX = 0 from by decide] at hck
  have HC := Lib.hid hck
  have hcm : ∀ w1, Below w.heap.size w w1 → Calls Try.prog 33 #[.slice A fX.length c] w1 (RetF w1 fX) := fun w1 hb => by
    have := comp_any A c fX w1 (h.below hb) (by simp [fX])
    rwa [compX] at this
  have HM := Lib.hid hcm
  clear h hck hcm
  go_enter Try.func19, Try.ntmps19
  go_wp2_with fail
  refine HC.out.mono ?_
  rintro e w1 ⟨rfl, hb1⟩
  go_wp2_with fail
  refine (HM.out w1 hb1).mono ?_
  rintro e w2 ⟨AN, cN, rfl, hcN, hnsN, hfrN, hb2⟩
  have hB2 := hb1.trans (hb2.mono hb1.size)
  have hold : ∀ ad, AN = some ad → ad.block < w2.heap.size := fun ad e => hnsN.lt (by decide) e
  have HB2 := Lib.hid hB2
  have HOld := Lib.hid hold
  have HNS := Lib.hid hnsN
  clear hb1 hb2 hB2 hold hnsN
  obtain ⟨m, hm⟩ : ∃ m : Nat, m = 2 := ⟨_, rfl⟩
  have HM2 := Lib.hid hm
  clear hm
  go_wp2_with fail
  go_loopw [16] (fun k wr => ∃ n : Nat, k = .int .i64 n ∧ n ≤ m ∧ NB w2.heap.size AN cN wr n ∧ Below w2.heap.size w2 wr) (fun k _ => m - (intOf k).toNat)
  case atStart => exact ⟨0, rfl, Nat.zero_le _, ⟨heap_new _ _ _ rfl, by simp, fun j h => by omega⟩, (Below.refl _ _).alloc (Nat.le_refl _) _⟩
  case round =>
    obtain ⟨k, rfl, hk, hnb, hB⟩ := hrel
    by_cases hlt : k < m
    · have hk2 : k < 2 := by have := HM2.out; omega
      have hki : (k : Int) < 2 := by omega
      obtain ⟨c1, f1⟩ := hnb.cell hk2
      have hnx := hnb.next hk2
      have hsz := hnb.2.1
      have HNX := Lib.hid hnx
      have HB := Lib.hid hB
      have HSZ := Lib.hid hsz
      have hlt2 : w2.heap.size < wr.heap.size := by omega
      clear hnb hnx hB hsz
      go_wp2_with fail
      go_roundw
      case rel => exact ⟨k + 1, by go_num, by omega, HNX.out, (HB.out.setCell (Nat.le_refl _) _).alloc (by have := HSZ.out; simp; omega) _⟩
      case measure => simp [intOf]; omega
    · obtain rfl : k = m := by omega
      have hk2 := HM2.out
      rw [hk2] at hnb
      have hnok := hnb.done (HNS.out.below hB) HOld.out
      obtain ⟨z0, z1, z2⟩ := hnok.cells
      have hki : ¬ ((k : Int) < 2) := by omega
      have HOF := Lib.hid (of_top _ _ _ _ _ wr hnok)
      have HB := Lib.hid hB
      have HL := Lib.hid hnok.lt
      clear hnb hnok hB hk2
      go_wp2_with fail
      refine HOF.out.mono ?_
      rintro e w3 ⟨A3, c3, rfl, hc3, hns3, hfr3, hok3, k3⟩
      go_wp2_with fail
      refine (long_any A3 c3 5 _ (by omega)).mono ?_
      rintro e w4 ⟨rfl, rfl⟩
      go_wp2
      go_ret2
      have hz := HB2.out.size
      exact ⟨A3, c3, rfl, hc3, hns3, hfr3.mono (by omega), HB2.out.trans ((HB.out.trans (k3.below HB.out.size fun b hb h => by rcases h with h | h <;> omega)).mono HB2.out.size)⟩
end Go.Proofs.Ytlgbbabijifflaa
