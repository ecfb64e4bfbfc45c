/-
  rewrite.Closure at awake's formula.
-/
import Derived.Test.YtlgbbabijifflaaClos
import Derived.Deep.Onto
namespace Go.Proofs.Ytlgbbabijifflaa
open Go.RowKit

def l0 : List Nd := [⟨3, 0, 0, 0, 0, 0⟩]
def Lk (n : Nat) : List (List Nd) := if n = 0 then [] else [l0, fN]
theorem subsN : subsL fN = [l0, fN] := by decide
theorem DOk.elts {base : Nat} {w : World} {v : Value} {dss : List (List Nd)} {hs : List (Option Addr × Nat)} (h : DOk base w v dss hs) : ∀ (i : Nat) (a : Option Addr) (c : Nat), hs[i]? = some (a, c) → Fresh base a := fun i a c hi => by
  obtain ⟨xs, hx⟩ : ∃ xs, dss[i]? = some xs := ⟨_, List.getElem?_eq_getElem (by rw [← h.len]; exact (List.getElem?_eq_some_iff.1 hi).1)⟩
  exact (h.elt i a c xs hi hx).2.2.2.1

theorem DOk.base {base base' : Nat} {w : World} {v : Value} {dss : List (List Nd)} {hs : List (Option Addr × Nat)} (h : DOk base w v dss hs) (hb : base' ≤ base) : DOk base' w v dss hs :=
  ⟨h.len, h.row.mono hb, fun k a c xs h1 h2 => by
    obtain ⟨e1, e2, e3, e4, e5⟩ := h.elt k a c xs h1 h2
    exact ⟨e1, e2, e3, e4.mono hb, e5⟩⟩


set_option maxRecDepth 100000 in
set_option maxHeartbeats 4000000 in
theorem closure_N (A : Option Addr) (c : Nat) (w : World) (h : NS w A fN) :
    Calls Try.prog 22 #[.slice A 2 c] w fun e w' => ∃ v hs, e = .returned (.tuple #[v, .int .i64 0]) ∧ DOk w.heap.size w' v [l0, fN] hs ∧ Below w.heap.size w w' := by
  have hck := check_any A fN c w h
  rw [show chk fN = 0 from by decide] at hck
  have HC := Lib.hid hck
  have hsb : ∀ w1, Below w.heap.size w w1 → Calls Try.prog 52 #[.slice A fN.length c] w1 (RetD w1 [l0, fN]) := fun w1 hb => by
    have := subs_any A c fN w1 (h.below hb) (Fml.of_chk (by decide))
    rwa [subsN] at this
  have HM := Lib.hid hsb
  clear h hck hsb
  go_enter Try.func22, Try.ntmps22
  go_wp2_with fail
  refine HC.out.mono ?_
  rintro e w1 ⟨rfl, hb1⟩
  have hbl := hb1.alloc hb1.size (.cells #[.slice none 0 0] 23)
  have HB1 := Lib.hid hb1
  have HBL := Lib.hid hbl
  clear hb1 hbl
  go_wp2_with fail
  refine (HM.out _ HBL.out).mono ?_
  rintro e w2 ⟨vs, hss, rfl, hds, hb2⟩
  simp only [World.size_alloc] at hds
  obtain ⟨Ts, cs, rfl, hcs, _⟩ := hds.nss
  have hblk2 : w2.heap[w1.heap.size]? = some (.cells #[.slice none 0 0] 23) := (KeepsBut.of_below (S := fun _ => False) hb2).obj (heap_new _ _ _ rfl) (fun h => h)
  have hB2 := HBL.out.trans (hb2.mono HBL.out.size)
  have hsz2 : w1.heap.size + 1 ≤ w2.heap.size := by have := hb2.size; simpa using this
  obtain ⟨m, hm⟩ : ∃ m, m = ([l0, fN] : List (List Nd)).length := ⟨_, rfl⟩
  rw [← hm] at hds ⊢
  have hm2 : m = 2 := hm
  have HM2 := Lib.hid hm2
  have hmb : m ≤ 1000 := by omega
  clear hm hm2
  have HDS := Lib.hid hds
  clear hb2 hds
  go_wp2_with fail
  go_loopw [19] (fun k wr => ∃ (n : Nat) (vl : Value) (L : List (List Nd)) (hl : List (Option Addr × Nat)), k = .int .i64 n ∧ n ≤ m ∧ wr.heap[w1.heap.size]? = some (.cells #[vl] 23) ∧ DOk (w1.heap.size + 1) wr vl L hl ∧ Hid (L = Lk n) ∧
      DOk (w1.heap.size + 1) wr (.slice Ts m cs) [l0, fN] hss ∧ (∀ (i : Nat) (a : Option Addr) (c : Nat), hss[i]? = some (a, c) → ∀ ad, a = some ad → vl.ownBlock ≠ some ad.block) ∧ (∀ g, (Value.slice Ts m cs).ownBlock = some g → ¬ vl.ownBlock = some g) ∧ Below w.heap.size w wr ∧ w1.heap.size + 1 ≤ wr.heap.size) (fun k _ => m - (intOf k).toNat)
  case atStart => exact ⟨0, .slice none 0 0, [], [], rfl, Nat.zero_le _, hblk2, DOk.nil _ _, rfl, HDS.out, fun i a c hi ad e h => by simp [Value.ownBlock] at h, fun g hg h => by simp [Value.ownBlock] at h, hB2, hsz2⟩
  case round =>
    obtain ⟨k, vl, L, hl, rfl, hk, hblk, hdl, hLe', hds, hse, hsv, hB, hsz⟩ := hrel
    have hLe := hLe'.out
    by_cases h0 : k = 0
    · have HKK := Lib.hid h0
      have hki : k < m := by have := HM2.out; omega
      clear h0 hLe
      obtain ⟨gs, caps, a1, c1', hv1, hcell1, hh1⟩ := hds.at_ (k := k) (xs := l0) (by rw [HKK.out]; rfl)
      obtain ⟨ne1, nc1, np1, nf1, ns1⟩ := hds.elt k a1 c1' l0 hh1 (by rw [HKK.out]; rfl)
      injection hv1 with hA1 hmm hcp
      clear hmm
      subst hA1
      subst hcp
      have hsub1 := hse k a1 c1' hh1
      have hng := negate_any a1 c1' l0 wr ne1 nc1 np1 (by decide)
      rw [show neg l0 = fN from by decide] at hng
      have HNG := Lib.hid hng
      have HBl := Lib.hid hblk
      have HKM := Lib.hid hki
      have HSZ := Lib.hid hsz
      have HDl := Lib.hid hdl
      have HDs := Lib.hid hds
      have HSe := Lib.hid hse
      have HSv := Lib.hid hsv
      have HB := Lib.hid hB
      have HN1 := Lib.hid ne1
      have HF1 := Lib.hid nf1
      have HS1 := Lib.hid hsub1
      have HH1 := Lib.hid hh1
      have hgs : gs < wr.heap.size := World.block_lt_of_cell? _ _ hcell1
      clear hng hblk hdl hds hse hsv hB ne1 nf1 hsub1 hh1 ns1
      go_wp2_with fail
      refine HNG.out.mono ?_
      rintro e w2 ⟨A2, c2, rfl, hc2, hns2, hfr2, hb2⟩
      have hblk2 := (KeepsBut.of_below (S := fun _ => False) hb2).obj HBl.out (fun h => h)
      have hadd1 := add_any w1.heap.size vl L hl a1 c1' l0 w2 hblk2 (HDl.out.later hb2) (by rw [hLe'.out, HKK.out]; decide) (HN1.out.below hb2) nc1 np1 (by decide) HF1.out HS1.out
      have HA1 := Lib.hid hadd1
      have hlz := HDl.out
      have hfresh2 : Fresh (w1.heap.size + 1) A2 := hfr2.mono hsz
      have hsep2 : ∀ ad, A2 = some ad → vl.ownBlock ≠ some ad.block := fun ad e h => by
        have h1 := hfr2 ad e
        have h2 := (own_form HDl.out.row).choose_spec.choose_spec.2.2 _ h
        omega
      have hk2 := hb2.size
      have HZ2 := Lib.hid hk2
      have Hns2 := Lib.hid hns2
      have Hfr2 := Lib.hid hfr2
      have Hfresh2 := Lib.hid hfresh2
      have Hsep2 := Lib.hid hsep2
      have Hb2 := Lib.hid hb2
      clear hadd1 hblk2 hns2 hfr2 hfresh2 hsep2 hlz hb2
      go_wp2_with fail
      refine HA1.out.mono ?_
      rintro e w3 ⟨vl3, hl3, rfl, hblk3, hd3, k3, hat3⟩
      rw [show addL L l0 = [l0] from by rw [hLe'.out, HKK.out]; decide] at hd3
      have hS3 : ¬ (∃ ad, A2 = some ad ∧ (ad.block = w1.heap.size ∨ vl.ownBlock = some ad.block)) := fun ⟨ad, e, h⟩ => by
        rcases h with h | h
        · have := Hfresh2.out ad e
          omega
        · exact Hsep2.out ad e h
      have hn3 := Hns2.out.keep k3 (fun ad e h => hS3 ⟨ad, e, h⟩)
      have hlt2 : ∀ ad, A2 = some ad → ad.block < w2.heap.size := fun ad e => Hns2.out.lt (by decide) e
      have hsep3 : ∀ ad, A2 = some ad → vl3.ownBlock ≠ some ad.block := fun ad e h => by
        rcases hat3 with h' | ⟨g, h', hg⟩
        · exact Hsep2.out ad e (h'.symm.trans h)
        · rw [h] at h'
          injection h' with h'
          have := hlt2 ad e
          omega
      have hadd2 := add_any w1.heap.size vl3 [l0] hl3 A2 c2 fN w3 hblk3 hd3 (by decide) hn3 hc2 (by decide) (by decide) Hfresh2.out hsep3
      have HA2 := Lib.hid hadd2
      have HK3 := Lib.hid k3
      have HAt3 := Lib.hid hat3
      have hz3 := k3.size
      have HZ3 := Lib.hid hz3
      clear hadd2 hblk3 hd3 hn3 hsep3 hS3 hlt2 k3 hat3
      go_wp2_with fail
      refine HA2.out.mono ?_
      rintro e w4 ⟨vl4, hl4, rfl, hblk4, hd4, k4, hat4⟩
      rw [show addL [l0] fN = [l0, fN] from by decide] at hd4
      have HBl4 := Lib.hid hblk4
      have HD4 := Lib.hid hd4
      have HK4 := Lib.hid k4
      have HAt4 := Lib.hid hat4
      have HZ4 := Lib.hid k4.size
      clear hblk4 hd4 k4 hat4
      go_wp2_with fail
      go_roundw
      case rel =>
        have g0 := HKM.out
        have g1 := HSZ.out
        have g2 := HZ2.out
        have g3 := HZ3.out
        have g4 := HZ4.out
        have g5 := HB.out.size
        have g6 := HB1.out.size
        have hown : ∀ g, vl3.ownBlock = some g → vl.ownBlock = some g ∨ wr.heap.size ≤ g := fun g h => by
          rcases HAt3.out with h' | ⟨g', h', hg⟩
          · exact .inl (h'.symm.trans h)
          · rw [h] at h'
            injection h' with h'
            exact .inr (by omega)
        have hown4 : ∀ g, vl4.ownBlock = some g → vl.ownBlock = some g ∨ wr.heap.size ≤ g := fun g h => by
          rcases HAt4.out with h' | ⟨g', h', hg⟩
          · exact hown g (h'.symm.trans h)
          · rw [h] at h'
            injection h' with h'
            exact .inr (by omega)
        have kk : KeepsBut (fun b => b = w1.heap.size ∨ vl.ownBlock = some b) wr w4 := kb_end ((KeepsBut.of_below Hb2.out).trans HK3.out) HK4.out (fun b hb h => by
          rcases h with h | h
          · exact .inl h
          · rcases hown b h with h' | h'
            · exact .inr h'
            · omega)
        have hsl : ∀ g, vl.ownBlock = some g → w1.heap.size < g ∧ g < wr.heap.size := fun g h => by
          have := (own_form HDl.out.row).choose_spec.choose_spec.2.2 _ h
          omega
        refine ⟨k + 1, vl4, [l0, fN], hl4, by go_num, by omega, HBl4.out, HD4.out, Lib.hid (by rw [HKK.out]; decide), HDs.out.keep kk (fun g hg h => ?_) (fun i a c hi ad e h => ?_), fun i a c hi ad e h => ?_, fun g hg h => ?_, HB.out.trans (kk.below (by omega) fun b hb h => ?_), by omega⟩
        · rcases h with h | h
          · have := (own_form HDs.out.row).choose_spec.choose_spec.2.2 g hg
            omega
          · exact HSv.out g hg h
        · rcases h with h | h
          · have := HDs.out.elts i a c hi ad e
            omega
          · exact HSe.out i a c hi ad e h
        · rcases hown4 _ h with h' | h'
          · exact HSe.out i a c hi ad e h'
          · obtain ⟨xs, hx⟩ : ∃ xs, [l0, fN][i]? = some xs := ⟨_, List.getElem?_eq_getElem (by rw [← HDs.out.len]; exact (List.getElem?_eq_some_iff.1 hi).1)⟩
            have h1 := HDs.out.elt i a c xs hi hx
            have := h1.1.lt h1.2.2.1 e
            omega
        · rcases hown4 _ h with h' | h'
          · exact HSv.out g hg h'
          · have := (own_form HDs.out.row).choose_spec.choose_spec.2.2 g hg
            omega
        · rcases h with h | h
          · omega
          · have := hsl b h
            omega
      case measure => simp [intOf]; omega
    · by_cases h1 : k = 1
      · have HKK := Lib.hid h1
        have hki : k < m := by have := HM2.out; omega
        clear h0 h1 hLe
        obtain ⟨gs, caps, a1, c1', hv1, hcell1, hh1⟩ := hds.at_ (k := k) (xs := fN) (by rw [HKK.out]; rfl)
        obtain ⟨ne1, nc1, np1, nf1, ns1⟩ := hds.elt k a1 c1' fN hh1 (by rw [HKK.out]; rfl)
        injection hv1 with hA1 hmm hcp
        clear hmm
        subst hA1
        subst hcp
        have hsub1 := hse k a1 c1' hh1
        have hng := negate_any a1 c1' fN wr ne1 nc1 np1 (by decide)
        rw [show neg fN = l0 from by decide] at hng
        have HNG := Lib.hid hng
        have HBl := Lib.hid hblk
        have HKM := Lib.hid hki
        have HSZ := Lib.hid hsz
        have HDl := Lib.hid hdl
        have HDs := Lib.hid hds
        have HSe := Lib.hid hse
        have HSv := Lib.hid hsv
        have HB := Lib.hid hB
        have HN1 := Lib.hid ne1
        have HF1 := Lib.hid nf1
        have HS1 := Lib.hid hsub1
        have HH1 := Lib.hid hh1
        have hgs : gs < wr.heap.size := World.block_lt_of_cell? _ _ hcell1
        clear hng hblk hdl hds hse hsv hB ne1 nf1 hsub1 hh1 ns1
        go_wp2_with fail
        refine HNG.out.mono ?_
        rintro e w2 ⟨A2, c2, rfl, hc2, hns2, hfr2, hb2⟩
        have hblk2 := (KeepsBut.of_below (S := fun _ => False) hb2).obj HBl.out (fun h => h)
        have hadd1 := add_any w1.heap.size vl L hl a1 c1' fN w2 hblk2 (HDl.out.later hb2) (by rw [hLe'.out, HKK.out]; decide) (HN1.out.below hb2) nc1 np1 (by decide) HF1.out HS1.out
        have HA1 := Lib.hid hadd1
        have hlz := HDl.out
        have hfresh2 : Fresh (w1.heap.size + 1) A2 := hfr2.mono hsz
        have hsep2 : ∀ ad, A2 = some ad → vl.ownBlock ≠ some ad.block := fun ad e h => by
          have h1 := hfr2 ad e
          have h2 := (own_form HDl.out.row).choose_spec.choose_spec.2.2 _ h
          omega
        have hk2 := hb2.size
        have HZ2 := Lib.hid hk2
        have Hns2 := Lib.hid hns2
        have Hfr2 := Lib.hid hfr2
        have Hfresh2 := Lib.hid hfresh2
        have Hsep2 := Lib.hid hsep2
        have Hb2 := Lib.hid hb2
        clear hadd1 hblk2 hns2 hfr2 hfresh2 hsep2 hlz hb2
        go_wp2_with fail
        refine HA1.out.mono ?_
        rintro e w3 ⟨vl3, hl3, rfl, hblk3, hd3, k3, hat3⟩
        rw [show addL L fN = [l0, fN] from by rw [hLe'.out, HKK.out]; decide] at hd3
        have hS3 : ¬ (∃ ad, A2 = some ad ∧ (ad.block = w1.heap.size ∨ vl.ownBlock = some ad.block)) := fun ⟨ad, e, h⟩ => by
          rcases h with h | h
          · have := Hfresh2.out ad e
            omega
          · exact Hsep2.out ad e h
        have hn3 := Hns2.out.keep k3 (fun ad e h => hS3 ⟨ad, e, h⟩)
        have hlt2 : ∀ ad, A2 = some ad → ad.block < w2.heap.size := fun ad e => Hns2.out.lt (by decide) e
        have hsep3 : ∀ ad, A2 = some ad → vl3.ownBlock ≠ some ad.block := fun ad e h => by
          rcases hat3 with h' | ⟨g, h', hg⟩
          · exact Hsep2.out ad e (h'.symm.trans h)
          · rw [h] at h'
            injection h' with h'
            have := hlt2 ad e
            omega
        have hadd2 := add_any w1.heap.size vl3 [l0, fN] hl3 A2 c2 l0 w3 hblk3 hd3 (by decide) hn3 hc2 (by decide) (by decide) Hfresh2.out hsep3
        have HA2 := Lib.hid hadd2
        have HK3 := Lib.hid k3
        have HAt3 := Lib.hid hat3
        have hz3 := k3.size
        have HZ3 := Lib.hid hz3
        clear hadd2 hblk3 hd3 hn3 hsep3 hS3 hlt2 k3 hat3
        go_wp2_with fail
        refine HA2.out.mono ?_
        rintro e w4 ⟨vl4, hl4, rfl, hblk4, hd4, k4, hat4⟩
        rw [show addL [l0, fN] l0 = [l0, fN] from by decide] at hd4
        have HBl4 := Lib.hid hblk4
        have HD4 := Lib.hid hd4
        have HK4 := Lib.hid k4
        have HAt4 := Lib.hid hat4
        have HZ4 := Lib.hid k4.size
        clear hblk4 hd4 k4 hat4
        go_wp2_with fail
        go_roundw
        case rel =>
          have g0 := HKM.out
          have g1 := HSZ.out
          have g2 := HZ2.out
          have g3 := HZ3.out
          have g4 := HZ4.out
          have g5 := HB.out.size
          have g6 := HB1.out.size
          have hown : ∀ g, vl3.ownBlock = some g → vl.ownBlock = some g ∨ wr.heap.size ≤ g := fun g h => by
            rcases HAt3.out with h' | ⟨g', h', hg⟩
            · exact .inl (h'.symm.trans h)
            · rw [h] at h'
              injection h' with h'
              exact .inr (by omega)
          have hown4 : ∀ g, vl4.ownBlock = some g → vl.ownBlock = some g ∨ wr.heap.size ≤ g := fun g h => by
            rcases HAt4.out with h' | ⟨g', h', hg⟩
            · exact hown g (h'.symm.trans h)
            · rw [h] at h'
              injection h' with h'
              exact .inr (by omega)
          have kk : KeepsBut (fun b => b = w1.heap.size ∨ vl.ownBlock = some b) wr w4 := kb_end ((KeepsBut.of_below Hb2.out).trans HK3.out) HK4.out (fun b hb h => by
            rcases h with h | h
            · exact .inl h
            · rcases hown b h with h' | h'
              · exact .inr h'
              · omega)
          have hsl : ∀ g, vl.ownBlock = some g → w1.heap.size < g ∧ g < wr.heap.size := fun g h => by
            have := (own_form HDl.out.row).choose_spec.choose_spec.2.2 _ h
            omega
          refine ⟨k + 1, vl4, [l0, fN], hl4, by go_num, by omega, HBl4.out, HD4.out, Lib.hid (by rw [HKK.out]; decide), HDs.out.keep kk (fun g hg h => ?_) (fun i a c hi ad e h => ?_), fun i a c hi ad e h => ?_, fun g hg h => ?_, HB.out.trans (kk.below (by omega) fun b hb h => ?_), by omega⟩
          · rcases h with h | h
            · have := (own_form HDs.out.row).choose_spec.choose_spec.2.2 g hg
              omega
            · exact HSv.out g hg h
          · rcases h with h | h
            · have := HDs.out.elts i a c hi ad e
              omega
            · exact HSe.out i a c hi ad e h
          · rcases hown4 _ h with h' | h'
            · exact HSe.out i a c hi ad e h'
            · obtain ⟨xs, hx⟩ : ∃ xs, [l0, fN][i]? = some xs := ⟨_, List.getElem?_eq_getElem (by rw [← HDs.out.len]; exact (List.getElem?_eq_some_iff.1 hi).1)⟩
              have h1 := HDs.out.elt i a c xs hi hx
              have := h1.1.lt h1.2.2.1 e
              omega
          · rcases hown4 _ h with h' | h'
            · exact HSv.out g hg h'
            · have := (own_form HDs.out.row).choose_spec.choose_spec.2.2 g hg
              omega
          · rcases h with h | h
            · omega
            · have := hsl b h
              omega
        case measure => simp [intOf]; omega
      · obtain rfl : k = m := by have := HM2.out; omega
        obtain ⟨c0, f0⟩ := cell_of_block hblk
        have hL2 : L = [l0, fN] := by rw [hLe, HM2.out]; rfl
        subst hL2
        have HD := Lib.hid hdl
        have HB := Lib.hid hB
        clear hblk hdl hLe hLe' hds hse hsv hB h0 h1
        go_wp2
        go_ret2
        exact ⟨vl, hl, rfl, HD.out.base (by have := HB1.out.size; omega), HB.out⟩
end Go.Proofs.Ytlgbbabijifflaa
