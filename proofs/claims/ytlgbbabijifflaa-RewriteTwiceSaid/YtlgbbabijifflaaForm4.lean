/-
  Walk of package formula: Check.
-/
import Derived.Test.YtlgbbabijifflaaForm3
import Derived.Test.YtlgbbabijifflaaSl
namespace Go.Proofs.Ytlgbbabijifflaa
open Go.RowKit

theorem nodeError_at (n : Nd) (at_ : Int) (w : World) :
    Calls Try.prog 58 #[.agg #[.int .i64 n.op, .int .i64 n.i, .int .i64 n.e, .int .i64 n.g, .int .i64 n.x, .int .i64 n.y], .int .i64 at_] w fun e' w' => e' = .returned (.int .i64 (nodeErr n at_)) ∧ Below w.heap.size w w' :=
  nodeError_any n.op n.i n.e n.g n.x n.y at_ w

theorem chkL_step (xs : List Nd) (k : Nat) (n : Nd) (h : xs[k]? = some n) : chkL (xs.drop k) k = if nodeErr n k != 0 then nodeErr n k else chkL (xs.drop (k + 1)) ((k + 1 : Nat) : Int) := by
  obtain ⟨hk, rfl⟩ := List.getElem?_eq_some_iff.1 h
  rw [List.drop_eq_getElem_cons hk]
  rfl

set_option maxHeartbeats 800000 in
theorem check_any (A : Option Addr) (xs : List Nd) (c : Nat) (w : World) (h : NS w A xs) :
    Calls Try.prog 30 #[.slice A xs.length c] w fun e' w' => e' = .returned (.int .i64 (chk xs)) ∧ Below w.heap.size w w' := by
  by_cases h0 : xs.length = 0
  · have hp : chk xs = 3 := by simp [chk, h0]
    rw [hp, h0]; clear hp h h0
    go_enter Try.func30, Try.ntmps30
    go_wp2
    go_ret
    exact ⟨rfl, Below.refl _ _⟩
  by_cases h2 : 200 < xs.length
  · have hp : chk xs = 8 := by simp [chk, h0, h2]
    rw [hp]; clear hp h
    have e0 : ((xs.length : Int) == 0) = false := beq_eq_false_iff_ne.2 (by omega)
    clear h0
    go_enter Try.func30, Try.ntmps30
    go_wp2
    go_ret
    exact ⟨rfl, Below.refl _ _⟩
  obtain ⟨b, o, rfl⟩ := h.addr (by omega)
  have hp : chk xs = chkL (xs.drop 0) (0 : Nat) := by simp [chk, h0, h2]
  rw [hp]
  have H := Lib.hid h
  clear h hp
  have e0 : ((xs.length : Int) == 0) = false := beq_eq_false_iff_ne.2 (by omega)
  have h3 : (xs.length : Int) ≤ 200 := by omega
  clear h0 h2
  go_enter Try.func30, Try.ntmps30
  go_wp2
  go_loopw [14] (fun k wr => ∃ n : Nat, n ≤ xs.length ∧ k = .int .i64 n ∧ chkL (xs.drop 0) (0 : Nat) = chkL (xs.drop n) n ∧ Below w.heap.size w wr) (fun k _ => xs.length - (intOf k).toNat)
  case atStart => exact ⟨0, Nat.zero_le _, rfl, rfl, Below.refl _ _⟩
  case round =>
    obtain ⟨k, hk, rfl, he, hB⟩ := hrel
    have HE := Lib.hid he
    clear he
    by_cases hlt : k < xs.length
    · obtain ⟨n, hn⟩ : ∃ n, xs[k]? = some n := ⟨_, List.getElem?_eq_getElem hlt⟩
      obtain ⟨c0, c1, c2, c3, c4, c5⟩ := (H.out.below hB).at_ hn
      have Hs := Lib.hid (chkL_step xs k n hn)
      clear hn
      by_cases hz : nodeErr n k = 0
      · have hz' : (nodeErr n k != 0) = false := by simp [hz]
        have Hz := Lib.hid hz
        clear hz
        go_wp2_with (go_at_call 58; refine (nodeError_at n _ _).mono ?_; rintro e w1 ⟨rfl, hb⟩)
        go_roundw
        case rel => exact ⟨k + 1, by omega, by go_num, by rw [HE.out, Hs.out]; simp [Hz.out], (hB.alloc hB.size _).trans (hb.mono (by simp; have := hB.size; omega))⟩
        case measure => simp [intOf]; omega
      · have hz' : (nodeErr n k != 0) = true := by simp [hz]
        go_wp2_with (go_at_call 58; refine (nodeError_at n _ _).mono ?_; rintro e w1 ⟨rfl, hb⟩)
        go_ret
        exact ⟨by rw [HE.out, Hs.out, if_pos hz']; rfl, (hB.alloc hB.size _).trans (hb.mono (by simp; have := hB.size; omega))⟩
    · go_wp2
      go_ret
      obtain rfl : k = xs.length := by omega
      exact ⟨by rw [HE.out, List.drop_length]; rfl, hB⟩
end Go.Proofs.Ytlgbbabijifflaa
