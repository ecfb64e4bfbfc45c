/-
  Walks of the reference: Check, Equal.
-/
import Derived.Test.YtlgbbabijifflaaRef2
import Derived.Deep.QuietTactic
import Derived.BigQuiet
import Derived.WalkSmall
import Derived.Laws.StructEq
namespace Go.Proofs.Ytlgbbabijifflaa
open Go.RowKit

set_option maxRecDepth 100000 in
set_option maxHeartbeats 2000000 in
theorem r_check_any (A : Option Addr) (xs : List Nd) (c : Nat) (w : World) (h : NS w A xs) :
    Calls Try.prog 6 #[.slice A xs.length c] w fun e' w' => e' = .returned (.int .i64 (chk xs)) ∧ Below w.heap.size w w' := by
  by_cases h0 : xs.length = 0
  · have hp : chk xs = 3 := by simp [chk, h0]
    rw [hp, h0]; clear hp h h0
    go_enter Try.func6, Try.ntmps6
    go_wp2
    go_ret
    exact ⟨rfl, Below.refl _ _⟩
  by_cases h2 : 200 < xs.length
  · have hp : chk xs = 8 := by simp [chk, h0, h2]
    rw [hp]; clear hp h
    have e0 : ((xs.length : Int) == 0) = false := beq_eq_false_iff_ne.2 (by omega)
    clear h0
    go_enter Try.func6, Try.ntmps6
    go_wp2
    go_ret
    exact ⟨rfl, Below.refl _ _⟩
  obtain ⟨b, o, rfl⟩ := h.addr (by omega)
  have hp : chk xs = chkL (xs.drop 0) (0 : Nat) := by simp [chk, h0, h2]
  rw [hp]
  have H := Lib.hid h
  clear h hp
  have e0 : ((xs.length : Int) == 0) = false := beq_eq_false_iff_ne.2 (by omega)
  have h3 : (xs.length : Int) ≤ 200 := by omega
  clear h0 h2
  go_enter Try.func6, Try.ntmps6
  go_wp2
  go_loopw [3] (fun k wr => ∃ n : Nat, n ≤ xs.length ∧ k = .int .i64 n ∧ chkL (xs.drop 0) (0 : Nat) = chkL (xs.drop n) n ∧ Below w.heap.size w wr) (fun k _ => xs.length - (intOf k).toNat)
  case atStart => exact ⟨0, Nat.zero_le _, rfl, rfl, Below.refl _ _⟩
  case round =>
    obtain ⟨k, hk, rfl, he, hB⟩ := hrel
    have HE := Lib.hid he
    clear he
    by_cases hlt : k < xs.length
    · obtain ⟨n, hn⟩ : ∃ n, xs[k]? = some n := ⟨_, List.getElem?_eq_getElem hlt⟩
      obtain ⟨c0, c1, c2, c3, c4, c5⟩ := (H.out.below hB).at_ hn
      have Hs := Lib.hid (chkL_step xs k n hn)
      clear hn
      by_cases hz : nodeErr n k = 0
      · have hz' : (nodeErr n k != 0) = false := by simp [hz]
        have Hz := Lib.hid hz
        clear hz
        go_wp2_with (go_at_call 18; refine (r_node_any n _ _).mono ?_; rintro e w1 ⟨rfl, hb⟩)
        go_roundw
        case rel => exact ⟨k + 1, by omega, by go_num, by rw [HE.out, Hs.out]; simp [Hz.out], hB.trans (hb.mono hB.size)⟩
        case measure => simp [intOf]; omega
      · have hz' : (nodeErr n k != 0) = true := by simp [hz]
        go_wp2_with (go_at_call 18; refine (r_node_any n _ _).mono ?_; rintro e w1 ⟨rfl, hb⟩)
        go_ret
        exact ⟨by rw [HE.out, Hs.out, if_pos hz']; rfl, hB.trans (hb.mono hB.size)⟩
    · go_wp2
      go_ret
      obtain rfl : k = xs.length := by omega
      exact ⟨by rw [HE.out, List.drop_length]; rfl, hB⟩

theorem take_snoc' {α : Type} {xs : List α} {k : Nat} {n : α} (h : xs[k]? = some n) : xs.take (k + 1) = xs.take k ++ [n] := by
  obtain ⟨hk, rfl⟩ := List.getElem?_eq_some_iff.1 h
  rw [List.take_succ_eq_append_getElem hk]
theorem run_neq_nd (n m : Nd) (w : World) : (binOp .neq 55 (.agg #[.int .i64 n.op, .int .i64 n.i, .int .i64 n.e, .int .i64 n.g, .int .i64 n.x, .int .i64 n.y]) (.agg #[.int .i64 m.op, .int .i64 m.i, .int .i64 m.e, .int .i64 m.g, .int .i64 m.x, .int .i64 m.y])).run Try.prog w = .ok (.bool (decide (n ≠ m))) w := by
  rw [run_neq_struct, run_equalIn_agg w 9999 55 _ _ (by kernel_rfl) (by kernel_rfl)]
  simp [go_sem, Try.underlying55, Nd.ext_iff']
  repeat (split <;> simp_all)
theorem run_eql_nd (n m : Nd) (w : World) : (binOp .eql 55 (.agg #[.int .i64 n.op, .int .i64 n.i, .int .i64 n.e, .int .i64 n.g, .int .i64 n.x, .int .i64 n.y]) (.agg #[.int .i64 m.op, .int .i64 m.i, .int .i64 m.e, .int .i64 m.g, .int .i64 m.x, .int .i64 m.y])).run Try.prog w = .ok (.bool (decide (n = m))) w := by
  rw [run_eql_struct, run_equalIn_agg w 9999 55 _ _ (by kernel_rfl) (by kernel_rfl)]
  simp [go_sem, Try.underlying55, Nd.ext_iff']
  repeat (split <;> simp_all)

set_option maxRecDepth 100000 in
set_option maxHeartbeats 2000000 in
theorem r_equal_any (A B : Option Addr) (xs ys : List Nd) (c d : Nat) (w : World) (hx : NS w A xs) (hy : NS w B ys) (hl : xs.length ≤ 1000000) :
    Calls Try.prog 10 #[.slice A xs.length c, .slice B ys.length d] w fun e' w' => e' = .returned (.bool (decide (xs = ys))) ∧ Below w.heap.size w w' := by
  by_cases h0 : xs.length = ys.length
  · have e0 : ((xs.length : Int) != ys.length) = false := by simp [h0]
    have HX := Lib.hid hx
    have HY := Lib.hid hy
    have H0 := Lib.hid h0
    rw [← h0]
    rw [← h0] at e0
    clear hx hy h0
    go_enter Try.func10, Try.ntmps10
    go_wp2
    go_loopw [5] (fun k wr => ∃ n : Nat, n ≤ xs.length ∧ k = .int .i64 n ∧ Below w.heap.size w wr ∧ Hid (xs.take n = ys.take n)) (fun k _ => xs.length - (intOf k).toNat)
    case atStart => exact ⟨0, Nat.zero_le _, rfl, Below.refl _ _, rfl⟩
    case round =>
      obtain ⟨k, hk, rfl, hB, HE⟩ := hrel
      by_cases hlt : k < xs.length
      · obtain ⟨n, hn⟩ : ∃ n, xs[k]? = some n := ⟨_, List.getElem?_eq_getElem hlt⟩
        obtain ⟨m, hm⟩ : ∃ n, ys[k]? = some n := ⟨_, List.getElem?_eq_getElem (by rw [← H0.out]; exact hlt)⟩
        obtain ⟨b1, o1, rfl⟩ := HX.out.addr (by omega)
        obtain ⟨b2, o2, rfl⟩ := HY.out.addr (by rw [← H0.out]; omega)
        obtain ⟨c0, c1, c2, c3, c4, c5⟩ := (HX.out.below hB).at_ hn
        obtain ⟨d0, d1, d2, d3, d4, d5⟩ := (HY.out.below hB).at_ hm
        have Hn := Lib.hid hn
        have Hm := Lib.hid hm
        clear hn hm
        have hne := run_neq_nd n m
        have hq := Try.eqGuardType55
        by_cases hnm : n = m
        · have e1 : decide (n ≠ m) = false := by simp [hnm]
          have Hnm := Lib.hid hnm
          clear hnm
          rw [e1] at hne
          go_wp2
          go_quiet (fail)
          clear hne
          go_wp2
          go_roundw
          case rel => exact ⟨k + 1, by omega, by go_num, below_drewN hB _, Lib.hid (by rw [take_snoc' Hn.out, take_snoc' Hm.out, HE.out, Hnm.out])⟩
          case measure => simp [intOf]; omega
        · have e1 : decide (n ≠ m) = true := by simp [hnm]
          rw [e1] at hne
          have Hd : Hid (decide (xs = ys) = false) := Lib.hid (by simp; intro h; rw [h] at Hn; exact hnm (Option.some.inj (Hn.out.symm.trans Hm.out)))
          clear hnm
          go_wp2
          go_quiet (fail)
          clear hne
          go_wp2
          go_ret
          exact ⟨by rw [Hd.out]; rfl, below_drewN hB _⟩
      · have hkl : k = xs.length := by omega
        have Hd : Hid (decide (xs = ys) = true) := Lib.hid (by
          have := HE.out
          rw [hkl, List.take_of_length_le (by omega), List.take_of_length_le (by rw [H0.out]; omega)] at this
          simp [this])
        go_wp2
        go_ret
        exact ⟨by rw [Hd.out]; rfl, hB⟩
  · have e0 : ((xs.length : Int) != ys.length) = true := by simp; omega
    have hd : decide (xs = ys) = false := by simp; intro h; rw [h] at h0; exact h0 rfl
    rw [hd]
    clear hx hy h0 hd
    go_enter Try.func10, Try.ntmps10
    go_wp2
    go_ret
    exact ⟨rfl, Below.refl _ _⟩
end Go.Proofs.Ytlgbbabijifflaa
