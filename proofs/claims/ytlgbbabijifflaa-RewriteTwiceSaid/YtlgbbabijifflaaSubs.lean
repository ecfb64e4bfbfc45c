/-
  formula.Subs; slices.IndexFunc, ContainsFunc.
-/
import Derived.Test.YtlgbbabijifflaaNeg
namespace Go.Proofs.Ytlgbbabijifflaa
open Go.RowKit

/-- 'Subs' of a right formula. -/
def subsL (f : List Nd) : List (List Nd) := (List.range (comp f).length).map (cmpt (comp f))
/-- A slice of slices in new memory is handed back. -/
def RetD (w : World) (xss : List (List Nd)) (e : Ending) (w' : World) : Prop := ∃ v hs, e = .returned v ∧ DOk w.heap.size w' v xss hs ∧ Below w.heap.size w w'

set_option maxRecDepth 100000 in
set_option maxHeartbeats 2000000 in
theorem subs_any (A : Option Addr) (c : Nat) (f : List Nd) (w : World) (h : NS w A f) (hf : Fml f) :
    Calls Try.prog 52 #[.slice A f.length c] w (RetD w (subsL f)) := by
  have hcm := comp_any A c f w h (by have := hf.len; omega)
  have hC := hf.comp
  have hgood : ∀ k, k < (comp f).length → 0 < (cmpt (comp f) k).length ∧ (cmpt (comp f) k).length ≤ (comp f).length := fun k hk => by
    obtain ⟨h1, h2, _⟩ := cmpt_good hC.node hC.ordered hk
    exact ⟨h1, h2⟩
  have hS : subsL f = (List.range (comp f).length).map (cmpt (comp f)) := rfl
  rw [hS]
  obtain ⟨C, hCe⟩ : ∃ C, C = comp f := ⟨_, rfl⟩
  rw [← hCe] at hcm hC hgood ⊢
  have hl := hC.len
  have HM := Lib.hid hcm
  have HC := Lib.hid hC
  have HG := Lib.hid hgood
  clear h hf hcm hC hgood hCe hS
  go_enter Try.func52, Try.ntmps52
  go_wp2_with fail
  refine HM.out.mono ?_
  rintro e w1 ⟨A1, c1, rfl, hc1, hns1, hfr1, hb1⟩
  go_wp2_with fail
  go_loopw [3, 10] (fun v k wr => ∃ (kk : Nat) (hs : List (Option Addr × Nat)), k = .int .i64 kk ∧ kk ≤ C.length ∧ DOk w.heap.size wr v ((List.range kk).map (cmpt C)) hs ∧ NS wr A1 C ∧ Below w.heap.size w wr ∧ (∀ ad, A1 = some ad → ¬ v.ownBlock = some ad.block)) (fun _ k _ => C.length - (intOf k).toNat)
  case atStart => exact ⟨0, [], rfl, Nat.zero_le _, DOk.nil _ _, hns1, hb1, fun ad e h => by simp [Value.ownBlock] at h⟩
  case round =>
    obtain ⟨k, hs, rfl, hk, hd, hn, hB, hsep⟩ := hrel
    obtain ⟨Av, cv, rfl, hcv, hown⟩ := own_form hd.row
    have hdl : ((List.range k).map (cmpt C)).length = k := by simp
    rw [hdl] at hd hown hsep hcv ⊢
    have HD := Lib.hid hd
    have Hsep := Lib.hid hsep
    have Hown := Lib.hid hown
    have Hn := Lib.hid hn
    have HB := Lib.hid hB
    by_cases hlt : k < C.length
    · clear hd hsep hown hn hB hdl
      go_wp2_with fail
      refine (compact_any A1 c1 C k wr Hn.out HC.out.ordered (by omega) hlt).mono ?_
      rintro e w2 ⟨A2, c2, rfl, hc2, hns2, hfr2, hb2⟩
      have hg := HG.out k hlt
      have hd2 := HD.out.later hb2
      have hB2 := HB.out.trans (hb2.mono HB.out.size)
      have hsep2 : ∀ ad, A2 = some ad → ¬ Value.ownBlock (.slice Av k cv) = some ad.block := fun ad e h => by
        have h1 := hfr2 ad e
        have h2 := (Hown.out _ h).2
        omega
      have HS2 := Lib.hid hsep2
      have HN2 := Lib.hid hns2
      have HF2 := Lib.hid (hfr2.mono HB.out.size)
      have HB2 := Lib.hid hB2
      have HNC := Lib.hid (Hn.out.below hb2)
      have HDR := Lib.hid hd2
      have hrow := hd2.row
      rw [List.length_map, List.length_range] at hrow
      have HR := Lib.hid hrow
      have hz := hB2.size
      clear hsep2 hns2 hfr2 hb2 hB2 hd2 hrow
      go_wp2_with (at_builtin; refine wpList_append1 rfl _ _ 23 22 rfl _ 1 24 Try.underlying23 info_list rfl (by decide) w.heap.size (v := .slice Av k cv) rfl rfl (by simp) HR.out (cs := [.slice A2 (cmpt C k).length c2]) rfl (by simp [Value.oneCell']) (by omega) (by decide) hz ?_; intro v5 w5 hrow5 hg5 hat5)
      go_roundw
      case rel =>
        have k5 := KeepsBut.grown (S := fun b => Value.ownBlock (.slice Av k cv) = some b) hg5 (fun k hk => hk)
        refine ⟨k + 1, hs ++ [(A2, c2)], by go_num, by omega, ?_, HNC.out.keep k5 Hsep.out, HB2.out.trans (k5.below hz fun b hb h => by have := (Hown.out b h).1; omega), fun ad e h => ?_⟩
        · rw [List.range_succ, List.map_append, List.map_singleton]
          exact HDR.out.push HN2.out hc2 hg.1 HF2.out HS2.out (by rw [List.length_map, List.length_range]; exact hrow5) hg5 hat5
        · rcases hat5 with h5 | ⟨g5, h5, hg5'⟩
          · exact Hsep.out ad e (h5.symm.trans h)
          · rw [h] at h5
            injection h5 with h5
            have := HNC.out.lt (by omega) e
            omega
      case measure => simp [intOf]; omega
    · obtain rfl : k = C.length := by omega
      clear hd hsep hown hn hB hdl
      go_wp2
      go_ret
      exact ⟨.slice Av C.length cv, hs, rfl, HD.out, HB.out⟩
end Go.Proofs.Ytlgbbabijifflaa
