/-
  The law's own walk: RewriteTwice at eight and eight formulas.
-/
import Derived.Test.YtlgbbabijifflaaLaw8
namespace Go.Proofs.Ytlgbbabijifflaa
open Go.RowKit

/-- The formulas up to place i are right and short. -/
def UpTo (first second : List (List Nd)) (i : Nat) : Prop := ∀ (j : Nat) (g : List Nd), j < i → (first[j]? = some g ∨ second[j]? = some g) → Fml g ∧ g.length ≤ 8
theorem UpTo.succ {first second : List (List Nd)} {i : Nat} (h : UpTo first second i) {g g' : List Nd} (h1 : first[i]? = some g) (h2 : second[i]? = some g') (hg : g.length ≤ 8) (hg' : g'.length ≤ 8) (c : chk g = 0) (c' : chk g' = 0) : UpTo first second (i + 1) := fun j x hj hx => by
  rcases Nat.lt_or_ge j i with hl | hl
  · exact h j x hl hx
  · obtain rfl : j = i := by omega
    rcases hx with hx | hx
    · rw [h1] at hx; obtain rfl := Option.some.inj hx; exact ⟨Fml.of_chk c, hg⟩
    · rw [h2] at hx; obtain rfl := Option.some.inj hx; exact ⟨Fml.of_chk c', hg'⟩
theorem UpTo.all {first second : List (List Nd)} (h : UpTo first second 8) (h1 : first.length = 8) (h2 : second.length = 8) : (∀ g ∈ first, Fml g ∧ g.length ≤ 8) ∧ ∀ g ∈ second, Fml g ∧ g.length ≤ 8 := by
  refine ⟨fun g hg => ?_, fun g hg => ?_⟩
  · obtain ⟨j, hj⟩ := List.getElem?_of_mem hg
    exact h j g (by have := (List.getElem?_eq_some_iff.1 hj).1; omega) (.inl hj)
  · obtain ⟨j, hj⟩ := List.getElem?_of_mem hg
    exact h j g (by have := (List.getElem?_eq_some_iff.1 hj).1; omega) (.inr hj)
theorem join_snoc {first second : List (List Nd)} {i : Nat} {g : List Nd} (h : first[i]? = some g) : joinL (first.take (i + 1)) second = joinL (first.take i) second ++ [(subst g second).1] := by
  unfold joinL
  rw [List.take_add_one, h]
  simp
theorem self_snoc (i : Nat) : selfL (i + 1) = selfL i ++ [factF i] := by simp [selfL, List.range_succ]
theorem fact_len (i : Nat) (hi : i < 8) : 0 < (factF i).length := by rw [fact_canon i hi, canon_len]; exact cnt_pos _

set_option maxRecDepth 100000 in
set_option maxHeartbeats 8000000 in
theorem law_any (A : Option Addr) (c : Nat) (f : List Nd) (T S : Option Addr) (ct cs : Nat) (first second : List (List Nd)) (w : World) (h : NS w A f) (hT : NSS w T first) (hS : NSS w S second) (hl : f.length ≤ 12) (hf : chk f = 0) (h1 : first.length = 8) (h2 : second.length = 8) :
    Calls Try.prog 3 #[.slice A f.length c, .slice T first.length ct, .slice S second.length cs] w (Yes w) := by
  have e1 : decide ((f.length : Int) ≤ 12) = true := by simp; omega
  have e2 : (chk f != 0) = false := by simp [hf]
  have e3 : ((first.length : Int) != 8) = false := by simp; omega
  have e4 : ((second.length : Int) != 8) = false := by simp; omega
  have l1 : 8 ≤ first.length := by omega
  have l2 : 8 ≤ second.length := by omega
  have H := Lib.hid h
  have HT := Lib.hid hT
  have HS := Lib.hid hS
  have HL := Lib.hid hl
  have HF := Lib.hid hf
  have HL1 := Lib.hid h1
  have HL2 := Lib.hid h2
  clear h hT hS hl hf h1 h2
  go_enter Try.func3, Try.ntmps3
  go_wp2_with fail
  refine (few_any _ _ _ _ _).mono ?_
  rintro e w1 ⟨rfl, rfl⟩
  go_wp2_with fail
  refine (r_check_any _ _ _ _ H.out).mono ?_
  rintro e w1 ⟨rfl, hb⟩
  have HB1 := Lib.hid hb
  clear hb
  go_wp2_with fail
  clear e1 e2 e3 e4
  go_loopw [40] (fun v wr => ∃ (i : Nat), v = .int .i64 i ∧ i ≤ 8 ∧ Below w.heap.size w wr ∧ Hid (UpTo first second i)) (fun v _ => 8 - (intOf v).toNat)
  case atStart => exact ⟨0, rfl, Nat.zero_le _, HB1.out, Lib.hid fun j g hj => by omega⟩
  case round =>
    obtain ⟨i, rfl, hi, hB, HU⟩ := hrel
    clear HB1
    by_cases hlt : i < 8
    · obtain ⟨g, hg⟩ : ∃ g, first[i]? = some g := ⟨_, List.getElem?_eq_getElem (by omega)⟩
      obtain ⟨g', hg'⟩ : ∃ g, second[i]? = some g := ⟨_, List.getElem?_eq_getElem (by omega)⟩
      have hn := HT.out.below hB
      have hn' := HS.out.below hB
      obtain ⟨bT, oT, rfl⟩ := hn.addr (by omega)
      obtain ⟨bS, oS, rfl⟩ := hn'.addr (by omega)
      obtain ⟨a1, c1, hc1, hns1, _⟩ := hn.at_ hg
      obtain ⟨a2, c2, hc2, hns2, _⟩ := hn'.at_ hg'
      have HN1 := Lib.hid hns1
      have HN2 := Lib.hid hns2
      have HG := Lib.hid hg
      have HG' := Lib.hid hg'
      have HB := Lib.hid hB
      have hx1 : i < first.length := by omega
      have hx2 : i < second.length := by omega
      clear hns1 hns2 hn hn' hg hg' hB
      by_cases k1 : g.length ≤ 8
      · have e1 : decide ((g.length : Int) ≤ 8) = true := by simp; omega
        by_cases k2 : g'.length ≤ 8
        · have e2 : decide ((g'.length : Int) ≤ 8) = true := by simp; omega
          by_cases k3 : chk g = 0
          · have e3 : (chk g != 0) = false := by simp [k3]
            by_cases k4 : chk g' = 0
            · have e4 : (chk g' != 0) = false := by simp [k4]
              have HU' := Lib.hid (HU.out.succ HG.out HG'.out k1 k2 k3 k4)
              clear k1 k2 k3 k4
              go_wp2_with fail
              refine (few_any _ _ _ _ _).mono ?_
              rintro e w2 ⟨rfl, rfl⟩
              go_wp2_with fail
              refine (few_any _ _ _ _ _).mono ?_
              rintro e w2 ⟨rfl, rfl⟩
              go_wp2_with fail
              refine (r_check_any _ _ _ _ HN1.out).mono ?_
              rintro e w2 ⟨rfl, hb2⟩
              have hc2' := cell_below hb2 hc2
              have HB2 := Lib.hid hb2
              clear hb2 hc1 hc2
              go_wp2_with fail
              refine (r_check_any _ _ _ _ (HN2.out.below HB2.out)).mono ?_
              rintro e w3 ⟨rfl, hb3⟩
              have HB3 := Lib.hid (HB2.out.trans (hb3.mono HB2.out.size))
              clear hb3 hc2'
              go_wp2
              go_roundw
              case rel => exact ⟨i + 1, by go_num, by omega, HB.out.trans (HB3.out.mono HB.out.size), HU'⟩
              case measure => simp [intOf]; omega
            · have e4 : (chk g' != 0) = true := by simp [k4]
              clear k1 k2 k3 k4
              go_wp2_with fail
              refine (few_any _ _ _ _ _).mono ?_
              rintro e w2 ⟨rfl, rfl⟩
              go_wp2_with fail
              refine (few_any _ _ _ _ _).mono ?_
              rintro e w2 ⟨rfl, rfl⟩
              go_wp2_with fail
              refine (r_check_any _ _ _ _ HN1.out).mono ?_
              rintro e w2 ⟨rfl, hb2⟩
              have hc2' := cell_below hb2 hc2
              have HB2 := Lib.hid hb2
              clear hb2 hc1 hc2
              go_wp2_with fail
              refine (r_check_any _ _ _ _ (HN2.out.below HB2.out)).mono ?_
              rintro e w3 ⟨rfl, hb3⟩
              have HB3 := Lib.hid (HB.out.trans ((HB2.out.trans (hb3.mono HB2.out.size)).mono HB.out.size))
              clear hb3 hc2'
              go_wp2_with fail
              refine (awake_any w3).mono ?_
              rintro e w9 ⟨rfl, hb9⟩
              go_wp2
              go_ret
              exact ⟨rfl, HB3.out.trans (hb9.mono HB3.out.size)⟩
          · have e3 : (chk g != 0) = true := by simp [k3]
            clear k1 k2 k3
            go_wp2_with fail
            refine (few_any _ _ _ _ _).mono ?_
            rintro e w2 ⟨rfl, rfl⟩
            go_wp2_with fail
            refine (few_any _ _ _ _ _).mono ?_
            rintro e w2 ⟨rfl, rfl⟩
            go_wp2_with fail
            refine (r_check_any _ _ _ _ HN1.out).mono ?_
            rintro e w2 ⟨rfl, hb2⟩
            have HB3 := Lib.hid (HB.out.trans (hb2.mono HB.out.size))
            clear hb2 hc1 hc2
            go_wp2_with fail
            refine (awake_any w2).mono ?_
            rintro e w9 ⟨rfl, hb9⟩
            go_wp2
            go_ret
            exact ⟨rfl, HB3.out.trans (hb9.mono HB3.out.size)⟩
        · have e2 : decide ((g'.length : Int) ≤ 8) = false := by simp; omega
          clear k1 k2
          go_wp2_with fail
          refine (few_any _ _ _ _ _).mono ?_
          rintro e w2 ⟨rfl, rfl⟩
          go_wp2_with fail
          refine (few_any _ _ _ _ _).mono ?_
          rintro e w2 ⟨rfl, rfl⟩
          go_wp2_with fail
          refine (awake_any wr).mono ?_
          rintro e w9 ⟨rfl, hb9⟩
          go_wp2
          go_ret
          exact ⟨rfl, HB.out.trans (hb9.mono HB.out.size)⟩
      · have e1 : decide ((g.length : Int) ≤ 8) = false := by simp; omega
        clear k1
        go_wp2_with fail
        refine (few_any _ _ _ _ _).mono ?_
        rintro e w2 ⟨rfl, rfl⟩
        go_wp2_with fail
        refine (awake_any wr).mono ?_
        rintro e w9 ⟨rfl, hb9⟩
        go_wp2
        go_ret
        exact ⟨rfl, HB.out.trans (hb9.mono HB.out.size)⟩
    · have h8 : i = 8 := by omega
      rw [h8] at HU
      have hall := HU.out.all HL1.out HL2.out
      have HA1 := Lib.hid hall.1
      have HA2 := Lib.hid hall.2
      have HFm := Lib.hid (Fml.of_chk HF.out)
      have HB1 := Lib.hid hB
      clear hall hB HU h8
      go_wp2_with fail
      clear hi hlt
      go_loopw [7, 8, 75] (fun v7 v8 k wr => ∃ (i : Nat) (hs1 hs2 : List (Option Addr × Nat)), k = .int .i64 i ∧ i ≤ 8 ∧ Below w.heap.size w wr ∧ Hid (D2 w.heap.size wr v7 (selfL i) hs1 v8 (joinL (first.take i) second) hs2)) (fun _ _ k _ => 8 - (intOf k).toNat)
      case atStart => exact ⟨0, [], [], rfl, Nat.zero_le _, HB1.out, Lib.hid (D2.nil _ _)⟩
      case round =>
        clear HB1
        obtain ⟨i, hs1, hs2, rfl, hi, hB, HD⟩ := hrel
        have hd := HD.out
        obtain ⟨A7, c7, rfl, hc7, hown7⟩ := own_form hd.a.row
        obtain ⟨A8, c8, rfl, hc8, hown8⟩ := own_form hd.b.row
        have hj1 := self_len i
        have hj2 : (joinL (first.take i) second).length = i := by have := HL1.out; simp [joinL]; omega
        clear HD
        rw [hj1] at hd hown7 hc7 ⊢
        rw [hj2] at hd hown8 hc8 ⊢
        have HD := Lib.hid hd
        have HB := Lib.hid hB
        have HO7 := Lib.hid hown7
        have HO8 := Lib.hid hown8
        clear hd hB hown7 hown8
        by_cases hlt : i < 8
        · obtain ⟨g, hg⟩ : ∃ g, first[i]? = some g := ⟨_, List.getElem?_eq_getElem (by omega)⟩
          have hgm := HA1.out g (List.mem_of_getElem? hg)
          have hjd := twice_joined hgm HL2.out HA2.out
          obtain ⟨G, hG⟩ : ∃ G, G = (subst g second).1 := ⟨_, rfl⟩
          have hsg : subst g second = (G, 0) := by rw [hG, ← hjd.1]
          have hjs := join_snoc (second := second) hg
          rw [← hG] at hjd hjs
          have HSG := Lib.hid hsg
          have HJS := Lib.hid hjs
          have HJ1 := Lib.hid hj1
          have HJ2 := Lib.hid hj2
          have HG0 := Lib.hid hjd.2
          have HGg := Lib.hid hg
          have hx1 : i < first.length := by omega
          obtain ⟨bT, oT, rfl⟩ := HT.out.addr (by omega)
          have hfa : Calls Try.prog 8 #[.int .i64 i] wr (RetF wr (factF i)) := c_fact_any i wr
          have HFa := Lib.hid hfa
          have HFl := Lib.hid (fact_len i hlt)
          clear hg hgm hjd hG hsg hjs hj1 hj2 hfa
          go_wp2_with fail
          refine HFa.out.mono ?_
          rintro e w2 ⟨A2, c2, rfl, hcc2, hns2, hfr2, hb2⟩
          have hsep := HD.out.blocks hfr2
          have hd2 := HD.out.later hb2
          have hB2 := HB.out.trans (hb2.mono HB.out.size)
          have hrow := hd2.a.row
          rw [HJ1.out] at hrow
          have HS1 := Lib.hid hsep.1
          have HS2 := Lib.hid hsep.2
          have HD2 := Lib.hid hd2
          have HB2 := Lib.hid hB2
          have HR := Lib.hid hrow
          have HN2 := Lib.hid hns2
          have HF2 := Lib.hid (hfr2.mono HB.out.size)
          have hz := hB2.size
          clear hsep hd2 hB2 hrow hns2 hfr2 hb2 HFa HD
          go_wp2_with (at_builtin; refine wpList_append1 rfl _ _ 23 22 rfl _ 1 24 Try.underlying23 info_list rfl (by decide) w.heap.size (v := .slice A7 i c7) rfl rfl (by simp) HR.out (cs := [.slice A2 (factF i).length c2]) rfl (by simp [Value.oneCell']) (by omega) (by decide) hz ?_; intro v5 w5 hrow5 hg5 hat5; have k5 := KeepsBut.grown (S := fun b => Value.ownBlock (.slice A7 i c7) = some b) hg5 (fun k hk => hk); have hd5 := HD2.out.push HN2.out hcc2 HFl.out HF2.out HS1.out HS2.out (by rw [HJ1.out]; exact hrow5) hg5 hat5; rw [← self_snoc] at hd5; have hB5 := HB2.out.trans (k5.below hz fun b hb h => by have := (HO7.out b h).1; omega); have HD5 := Lib.hid hd5; have HB5 := Lib.hid hB5; obtain ⟨ag, cg, hcell, hng, _⟩ := (HT.out.below hB5).at_ HGg.out; have HSub := Lib.hid (subst_any ag cg g S cs second w5 hng (HS.out.below hB5) (by have := HL2.out; omega)); clear hd5 hB5 hrow5 hg5 hat5 k5 hng)
          clear HD2 HN2 HF2 HS1 HS2 HR hz HFl HB2
          go_wp2_with fail
          refine HSub.out.mono ?_
          intro e w6 hr
          obtain ⟨A6, c6, rfl, hc6, hns6, hfr6, hb6⟩ := hr.mk HSG.out
          have hsep := HD5.out.blocks hfr6
          have hd6 := (HD5.out.later hb6).swap
          have hB6 := HB5.out.trans (hb6.mono HB5.out.size)
          have hrow := hd6.a.row
          rw [HJ2.out] at hrow
          have HS1 := Lib.hid hsep.1
          have HS2 := Lib.hid hsep.2
          have HD6 := Lib.hid hd6
          have HB6 := Lib.hid hB6
          have HR := Lib.hid hrow
          have HN6 := Lib.hid hns6
          have HF6 := Lib.hid (hfr6.mono HB5.out.size)
          have hz := hB6.size
          clear hr hsep hd6 hB6 hrow hns6 hfr6 hb6 HSub HD5 hcell
          go_wp2_with (at_builtin; refine wpList_append1 rfl _ _ 23 22 rfl _ 1 24 Try.underlying23 info_list rfl (by decide) w.heap.size (v := .slice A8 i c8) rfl rfl (by simp) HR.out (cs := [.slice A6 G.length c6]) rfl (by simp [Value.oneCell']) (by omega) (by decide) hz ?_; intro v7 w7 hrow7 hg7 hat7)
          go_roundw
          case rel =>
            have k7 := KeepsBut.grown (S := fun b => Value.ownBlock (.slice A8 i c8) = some b) hg7 (fun k hk => hk)
            have hd7 := (HD6.out.push HN6.out hc6 HG0.out HF6.out HS2.out HS1.out (by rw [HJ2.out]; exact hrow7) hg7 hat7).swap
            rw [← HJS.out] at hd7
            exact ⟨i + 1, hs1 ++ [(A2, c2)], hs2 ++ [(A6, c6)], by go_num, by omega, HB6.out.trans (k7.below hz fun b hb h => by have := (HO8.out b h).1; omega), Lib.hid hd7⟩
          case measure => simp [intOf]; omega
        · obtain rfl : i = 8 := by omega
          have hjj : joinL (first.take 8) second = joinL first second := by rw [List.take_of_length_le (by have := HL1.out; omega)]
          have hd := HD.out
          rw [hjj] at hd hj2
          have hn7 : NSS wr A7 (selfL 8) := by
            obtain ⟨A', c', e, _, hn⟩ := hd.a.nss
            injection e with e
            rw [e]; exact hn
          have hn8 : NSS wr A8 (joinL first second) := by
            obtain ⟨A', c', e, _, hn⟩ := hd.b.nss
            injection e with e
            rw [e]; exact hn
          have ht1 := twice_self HFm.out
          have ht2 := twice_twice HFm.out HL.out HL1.out HL2.out HA1.out HA2.out
          have ht3 := twice_len HFm.out HL.out HL1.out HL2.out HA1.out HA2.out
          obtain ⟨SL, hSL⟩ : ∃ SL, SL = selfL 8 := ⟨_, rfl⟩
          obtain ⟨JL, hJL⟩ : ∃ JL, JL = joinL first second := ⟨_, rfl⟩
          obtain ⟨C, hC⟩ : ∃ C, C = comp f := ⟨_, rfl⟩
          obtain ⟨Av, hAv⟩ : ∃ Av, Av = (subst f first).1 := ⟨_, rfl⟩
          have ha : subst f first = (Av, 0) := by rw [hAv, ← ht2.1]
          obtain ⟨⟨Bv, z⟩, hBz⟩ : ∃ r, r = subst Av second := ⟨_, rfl⟩
          have hcl := comp_len f
          rw [← hSL] at hn7 hj1 ht1
          rw [← hJL] at hn8 hj2 ht2
          rw [← hC] at ht1 hcl
          rw [← hAv] at ht2 ht3
          rw [← hBz] at ht2 ht3
          have hs1 := subst_any A c f A7 c7 SL wr (H.out.below HB.out) hn7 (by omega)
          rw [hj1] at hs1
          have HSub1 := Lib.hid hs1
          have HT1 := Lib.hid ht1
          have HT2 := Lib.hid ht2.2
          have HT3 := Lib.hid ht3
          have HAv := Lib.hid ha
          have HC := Lib.hid hC
          have HCl := Lib.hid hcl
          have HN8 := Lib.hid hn8
          have HJ2 := Lib.hid hj2
          have HBz := Lib.hid hBz
          clear hs1 ht1 ht2 ht3 ha hC hcl hn8 hn7 hj1 hj2 hd HD hjj hSL hJL hAv hBz hi hlt
          go_wp2_with fail
          refine HSub1.out.mono ?_
          intro e w2 hr
          obtain ⟨A13, c13, rfl, hc13, hns13, _, hb2⟩ := hr.mk HT1.out
          have HN13 := Lib.hid hns13
          have HB2 := Lib.hid (HB.out.trans (hb2.mono HB.out.size))
          have HN8' := Lib.hid (HN8.out.below hb2)
          clear hr hns13 hb2 HSub1 HN8
          go_wp2_with fail
          refine (subst_any A c f T ct first w2 (H.out.below HB2.out) (HT.out.below HB2.out) (by have := HL1.out; omega)).mono ?_
          intro e w3 hr
          obtain ⟨A15, c15, rfl, hc15, hns15, _, hb3⟩ := hr.mk HAv.out
          have HN15 := Lib.hid hns15
          have HN13' := Lib.hid (HN13.out.below hb3)
          have HB3 := Lib.hid (HB2.out.trans (hb3.mono HB2.out.size))
          have HN8 := Lib.hid (HN8'.out.below hb3)
          clear hr hns15 hb3 HN13 HN8' HB2
          go_wp2_with fail
          have hcm := r_comp_any A c f w3 (H.out.below HB3.out) (by have := HL.out; omega)
          rw [← HC.out] at hcm
          refine hcm.mono ?_
          rintro e w4 ⟨A116, c116, rfl, hc116, hns116, _, hb4⟩
          have HN116 := Lib.hid hns116
          have HN15' := Lib.hid (HN15.out.below hb4)
          have HN13 := Lib.hid (HN13'.out.below hb4)
          have HB4 := Lib.hid (HB3.out.trans (hb4.mono HB3.out.size))
          have HN8' := Lib.hid (HN8.out.below hb4)
          clear hcm hns116 hb4 HN15 HN13' HB3 HN8
          go_wp2_with fail
          refine (r_equal_true A13 A116 C c13 c116 w4 HN13.out HN116.out (by have := HCl.out; omega)).mono ?_
          rintro e w5 ⟨rfl, hb5⟩
          have HN15 := Lib.hid (HN15'.out.below hb5)
          have HB5 := Lib.hid (HB4.out.trans (hb5.mono HB4.out.size))
          have HN8 := Lib.hid (HN8'.out.below hb5)
          clear hb5 HN13 HN116 HN15' HB4 HN8'
          go_wp2_with fail
          refine (subst_any A15 c15 Av S cs second w5 HN15.out (HS.out.below HB5.out) (by have := HL2.out; omega)).mono ?_
          intro e w6 hr
          obtain ⟨A17, c17, rfl, hc17, hns17, _, hb6⟩ := hr.mk HBz.out.symm
          have HN17 := Lib.hid hns17
          have HB6 := Lib.hid (HB5.out.trans (hb6.mono HB5.out.size))
          have HN8' := Lib.hid (HN8.out.below hb6)
          clear hr hns17 hb6 HB5 HN8 HN15
          have hs2 := subst_any A c f A8 c8 JL w6 (H.out.below HB6.out) HN8'.out (by have := HJ2.out; omega)
          rw [HJ2.out] at hs2
          have HSub2 := Lib.hid hs2
          clear hs2
          go_wp2_with fail
          refine HSub2.out.mono ?_
          intro e w7 hr
          obtain ⟨A19, c19, rfl, hc19, hns19, _, hb7⟩ := hr.mk HT2.out.symm
          have HN19 := Lib.hid hns19
          have HN17' := Lib.hid (HN17.out.below hb7)
          have HB7 := Lib.hid (HB6.out.trans (hb7.mono HB6.out.size))
          clear hr hns19 hb7 HN17 HB6 HSub2 HN8'
          go_wp2_with fail
          refine (r_equal_true A17 A19 Bv c17 c19 w7 HN17'.out HN19.out (by have := HT3.out; omega)).mono ?_
          rintro e w8 ⟨rfl, hb8⟩
          have HB8 := Lib.hid (HB7.out.trans (hb8.mono HB7.out.size))
          clear hb8
          go_wp2_with fail
          refine (awake_any w8).mono ?_
          rintro e w9 ⟨rfl, hb9⟩
          go_wp2
          go_ret
          exact ⟨rfl, HB8.out.trans (hb9.mono HB8.out.size)⟩
end Go.Proofs.Ytlgbbabijifflaa
