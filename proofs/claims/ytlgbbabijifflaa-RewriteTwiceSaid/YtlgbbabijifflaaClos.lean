/-
  rewrite.Closure at awake's formula.
-/
import Derived.Test.YtlgbbabijifflaaCF
namespace Go.Proofs.Ytlgbbabijifflaa
open Go.RowKit

set_option maxRecDepth 100000 in
set_option maxHeartbeats 1000000 in
theorem clos_test (gb : Nat) (A : Option Addr) (c : Nat) (xs : List Nd) (w0 : World) (hg : w0.cell? ⟨gb, 0, none⟩ = some (.slice A xs.length c)) (h : NS w0 A xs) (hl : xs.length ≤ 1000000) :
    Test w0 50 #[.pointer (some ⟨gb, 0, none⟩)] (fun ys => decide (xs = ys)) := by
  intro B d ys w hb hB hd
  have hg' := cell_below hb hg
  have hgl := World.block_lt_of_cell? _ _ hg'
  have he := Lib.hid (s_equal_any A B xs ys c d w (h.below hb) hB hl)
  clear hg h hb hB
  go_enter Try.func50, Try.ntmps50
  go_wp2_with fail
  refine he.out.mono ?_
  rintro e w2 ⟨rfl, hb⟩
  go_wp2
  go_ret
  exact ⟨rfl, hb⟩

/-- The set so far, with one list more. -/
def addL (L : List (List Nd)) (xs : List Nd) : List (List Nd) := if L.any (fun ys => decide (xs = ys)) = true then L else L ++ [xs]
/-- What add leaves. -/
def AddPost (lb : Nat) (v : Value) (L : List (List Nd)) (w : World) (xs : List Nd) (e : Ending) (w' : World) : Prop :=
  ∃ v' hs', e = .returned (.tuple #[]) ∧ w'.heap[lb]? = some (.cells #[v'] 23) ∧ DOk (lb + 1) w' v' (addL L xs) hs' ∧ KeepsBut (fun b => b = lb ∨ v.ownBlock = some b) w w' ∧ (v'.ownBlock = v.ownBlock ∨ ∃ g, v'.ownBlock = some g ∧ w.heap.size ≤ g)
set_option maxRecDepth 100000 in
set_option maxHeartbeats 2000000 in
theorem add_any (lb : Nat) (v : Value) (L : List (List Nd)) (hs : List (Option Addr × Nat)) (A : Option Addr) (c : Nat) (xs : List Nd) (w : World) (hv : w.heap[lb]? = some (.cells #[v] 23)) (hd : DOk (lb + 1) w v L hs) (hL : L.length ≤ 1000)
    (hn : NS w A xs) (hc : xs.length ≤ c) (h0 : 0 < xs.length) (hl : xs.length ≤ 1000000) (hf : Fresh (lb + 1) A) (hsep : ∀ ad, A = some ad → v.ownBlock ≠ some ad.block) :
    Calls Try.prog 48 #[.slice A xs.length c, .pointer (some ⟨lb, 0, none⟩)] w (AddPost lb v L w xs) := by
  obtain ⟨T, cT, rfl, hcT, hns⟩ := hd.nss
  obtain ⟨c0, f0⟩ := cell_of_block hv
  have hlb := World.block_lt_of_cell? _ _ c0
  have hown := (own_form hd.row).choose_spec.choose_spec.2.2
  obtain ⟨w1, hw1⟩ : ∃ w1, w1 = w.alloc (.cells #[.slice A xs.length c] 22) := ⟨_, rfl⟩
  have hb1 : Below w.heap.size w w1 := by rw [hw1]; exact (Below.refl _ _).alloc (Nat.le_refl _) _
  have hg1 : w1.cell? ⟨w.heap.size, 0, none⟩ = some (.slice A xs.length c) := by rw [hw1]; simp
  have hcf := contains_any T cT L 50 #[.pointer (some ⟨w.heap.size, 0, none⟩)] (fun ys => decide (xs = ys)) w1 (hns.below hb1) (by omega) (clos_test w.heap.size A c xs w1 hg1 (hn.below hb1) hl)
    (fun a w' => enters1 Try.func50 (by kernel_rfl) a _ w')
  have hs1 : w1.heap.size = w.heap.size + 1 := by rw [hw1]; simp
  have HW1 := Lib.hid hw1
  have HD := Lib.hid hd
  have HN := Lib.hid hn
  have HF := Lib.hid hf
  have HS := Lib.hid hsep
  have HV := Lib.hid hv
  have HOwn := Lib.hid hown
  have HB1 := Lib.hid hb1
  have HG1 := Lib.hid hg1
  cases ha : L.any (fun ys => decide (xs = ys)) with
  | true =>
    have hadd : addL L xs = L := by unfold addL; rw [if_pos ha]
    rw [ha] at hcf
    have HC := Lib.hid hcf
    have HA := Lib.hid hadd
    clear hv hd hn hf hsep hown hb1 hg1 hns hcf hadd ha hw1 f0
    go_enter Try.func48, Try.ntmps48
    go_wp2_with fail
    rw [← HW1.out]
    refine HC.out.mono ?_
    rintro e w2 ⟨rfl, hb2⟩
    have hB2 : Below w.heap.size w w2 := HB1.out.trans (hb2.mono HB1.out.size)
    go_wp2
    refine bodyPost_ret (v := .tuple #[]) (by simp [results, Try.results48, go_sem]) rfl ?_
    refine ⟨_, hs, rfl, (KeepsBut.of_below (S := fun _ => False) hB2).obj HV.out (fun h => h), ?_, .of_below hB2, .inl rfl⟩
    rw [HA.out]
    exact HD.out.later hB2
  | false =>
    have hadd : addL L xs = L ++ [xs] := by unfold addL; rw [if_neg (by rw [ha]; decide)]
    rw [ha] at hcf
    have HC := Lib.hid hcf
    have HA := Lib.hid hadd
    clear hv hd hn hf hsep hown hb1 hns hcf hadd ha hw1
    go_enter Try.func48, Try.ntmps48
    go_wp2_with fail
    rw [← HW1.out]
    refine HC.out.mono ?_
    rintro e w2 ⟨rfl, hb2⟩
    have hB2 : Below w.heap.size w w2 := HB1.out.trans (hb2.mono HB1.out.size)
    have hgc := cell_below hb2 hg1
    have hlc : w2.cell? ⟨lb, 0, none⟩ = some (.slice T L.length cT) := cell_below hB2 c0
    have hlf : w2.frozen? ⟨lb, 0, none⟩ = false := frozen_below hB2 hlb f0
    have hz2 := hB2.size
    have hz3 : w.heap.size < w2.heap.size := by have := hb2.size; omega
    have hD2 := HD.out.later hB2
    have hlb2 : lb < w2.heap.size := by omega
    have hlsep : ¬ Value.ownBlock (.slice T L.length cT) = some lb := fun h => by have := (HOwn.out _ h).1; omega
    have HD2 := Lib.hid hD2
    have HLS := Lib.hid hlsep
    have HB2 := Lib.hid hB2
    clear hb2 hB2 hD2 hlsep hg1 c0 f0
    go_wp2_with (at_builtin; refine wpList_append1 rfl _ _ 23 22 rfl _ 1 24 Try.underlying23 info_list rfl (by decide) (lb + 1) (v := .slice T L.length cT) rfl rfl (by simp) HD2.out.row (cs := [.slice A xs.length c]) rfl (by simp [Value.oneCell']) (by omega) (by decide) (by omega) ?_; intro v5 w5 hrow5 hg5 hat5; obtain ⟨A5, c5, rfl, hc5, hown5⟩ := own_form hrow5; have k5 := KeepsBut.grown (S := fun b => Value.ownBlock (.slice T L.length cT) = some b) hg5 (fun k hk => hk); have t1 := k5.cell hlc HLS.out; have t2 := k5.frozen (p := ⟨lb, 0, none⟩) hlb2 HLS.out hlf)
    have k6 : KeepsBut (fun b => b = lb ∨ Value.ownBlock (.slice T L.length cT) = some b) w w5 := (KeepsBut.of_below HB2.out).trans (k5.mono fun b _ h => .inr h)
    have hblk := k5.obj ((KeepsBut.of_below (S := fun _ => False) HB2.out).obj HV.out (fun h => h)) HLS.out
    have hpush := HD2.out.push (HN.out.below HB2.out) hc h0 HF.out (fun ad e => HS.out ad e) hrow5 hg5 hat5
    refine bodyPost_ret (v := .tuple #[]) (by simp [results, Try.results48, go_sem]) rfl ?_
    refine ⟨.slice A5 (L.length + 1) c5, hs ++ [(A, c)], rfl, block_setCell hblk, ?_, k6.trans (KeepsBut.setCell _ _ _ (.inl rfl)), ?_⟩
    · rw [HA.out]
      have ks := KeepsBut.setCell (S := fun b => b = lb) w5 ⟨lb, 0, none⟩ (.slice A5 (L.length + 1) c5) rfl
      refine hpush.keep ks (fun g hg h => by have := (hown5 g hg).1; omega) (fun i a c' hi ad e h => ?_)
      have hlt : i < (L ++ [xs]).length := by rw [← hpush.len]; exact (List.getElem?_eq_some_iff.1 hi).1
      obtain ⟨ys, hy⟩ : ∃ ys, (L ++ [xs])[i]? = some ys := ⟨_, List.getElem?_eq_getElem hlt⟩
      have := (hpush.elt i a c' ys hi hy).2.2.2.1 ad e
      omega
    · rcases hat5 with h | ⟨g, h, hg⟩
      · exact .inl h
      · exact .inr ⟨g, h, by omega⟩
end Go.Proofs.Ytlgbbabijifflaa
